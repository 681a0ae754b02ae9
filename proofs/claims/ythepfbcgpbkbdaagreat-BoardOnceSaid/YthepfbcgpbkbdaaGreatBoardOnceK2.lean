/-
  Part 2 for the law: texts of this session's own, those parts that the claim needs, one behind the other.
  Conditions: none; it proves no statement by itself.
-/
import Derived.Test.YthepfbcgpbkbdaaGreatBoardOnceK1
set_option linter.unusedVariables false
set_option linter.unusedSectionVars false
set_option linter.unusedSimpArgs false
section
set_option linter.unusedVariables false
set_option maxHeartbeats 1000000
namespace Go.Proofs.YthepfbcgpbkbdaaGreat
open Fw Fw.W Go
/-- (*lintel/schema.checker).id -/
def vc_ckId {W : Type} (π : Prims W) (c : Nat) (n : Int) : W :=
  π.unSome (some (Addr.mk c (0 : Nat) none)) fun p0 =>
  π.ld [.bool] (p0.add (2 : Nat)) fun ((b1 : Bool), _) =>
  π.ite (b1) (
    π.unSome (some (Addr.mk c (0 : Nat) none)) fun p2 =>
    π.st (p2.add (2 : Nat)) [(Go.Value.bool (true))] <|
    π.unSome (some (Addr.mk c (0 : Nat) none)) fun p3 =>
    π.ld [.map] (p3.add (1 : Nat)) fun ((m4 : Option Nat), _) =>
    π.mset (TypeDesc.int IntKind.i64) (m4) (Go.Value.int (IntKind.i64) (n)) (Go.Value.bool (true)) <|
    π.ret (Go.Value.tuple #[])
  ) (
    π.ite (decide (n < (1 : Int))) (
      π.unSome (some (Addr.mk c (0 : Nat) none)) fun p5 =>
      π.st (p5.add (2 : Nat)) [(Go.Value.bool (true))] <|
      π.unSome (some (Addr.mk c (0 : Nat) none)) fun p6 =>
      π.ld [.map] (p6.add (1 : Nat)) fun ((m7 : Option Nat), _) =>
      π.mset (TypeDesc.int IntKind.i64) (m7) (Go.Value.int (IntKind.i64) (n)) (Go.Value.bool (true)) <|
      π.ret (Go.Value.tuple #[])
    ) (
      π.unSome (some (Addr.mk c (0 : Nat) none)) fun p8 =>
      π.ld [.int .i64] (p8.add (0 : Nat)) fun ((x9 : Int), _) =>
      π.ite (decide (n > x9)) (
        π.unSome (some (Addr.mk c (0 : Nat) none)) fun p10 =>
        π.st (p10.add (2 : Nat)) [(Go.Value.bool (true))] <|
        π.unSome (some (Addr.mk c (0 : Nat) none)) fun p11 =>
        π.ld [.map] (p11.add (1 : Nat)) fun ((m12 : Option Nat), _) =>
        π.mset (TypeDesc.int IntKind.i64) (m12) (Go.Value.int (IntKind.i64) (n)) (Go.Value.bool (true)) <|
        π.ret (Go.Value.tuple #[])
      ) (
        π.unSome (some (Addr.mk c (0 : Nat) none)) fun p13 =>
        π.ld [.map] (p13.add (1 : Nat)) fun ((m14 : Option Nat), _) =>
        π.look (TypeDesc.int IntKind.i64) (m14) (Go.Value.int (IntKind.i64) (n)) (Go.Value.bool (false)) (false, [.bool]) fun ((b16 : Bool), _) b15 =>
        π.unSome (some (Addr.mk c (0 : Nat) none)) fun p17 =>
        π.st (p17.add (2 : Nat)) [(Go.Value.bool (b16))] <|
        π.unSome (some (Addr.mk c (0 : Nat) none)) fun p18 =>
        π.ld [.map] (p18.add (1 : Nat)) fun ((m19 : Option Nat), _) =>
        π.mset (TypeDesc.int IntKind.i64) (m19) (Go.Value.int (IntKind.i64) (n)) (Go.Value.bool (true)) <|
        π.ret (Go.Value.tuple #[])
      )
    )
  )
def ann_ckId : Ann := { draws := [], join := [], loop := [] }
def la_ckId : LA := { ptr := [], ty := [] }
set_option maxRecDepth 100000 in
theorem eq_ckId {W : Type} (π : Prims W) (c : Nat) (n : Int) : bodyL π Tryz.prog la_ckId ann_ckId (mkFr (maskA [] [.v (.pointer (some ⟨c, 0, none⟩)), .v (.int .i64 n)] 0) 36) Tryz.f143 (bodyOf Tryz.f143) (mkFr (List.map some [.v (.pointer (some ⟨c, 0, none⟩)), .v (.int .i64 n)]) 36) = vc_ckId π c n := by kernel_rfl
theorem ok_ckId (c : Nat) (n : Int) (R : Value → PH → Prop) (s : PH) (h : vc_ckId (RP Tryz.prog R) c n s) : DCalls Tryz.prog 143 (List.map AV.val [.v (.pointer (some ⟨c, 0, none⟩)), .v (.int .i64 n)]).toArray s R :=
  calls_vcL (c := bodyOf Tryz.f143) (ann := ann_ckId) la_ckId (by kernel_rfl) Tryz.func143 rfl (by kernel_rfl) [.v (.pointer (some ⟨c, 0, none⟩)), .v (.int .i64 n)] [] (by rw [Tryz.ntmps143]; exact Nat.le_of_ble_eq_true rfl) (by kernel_rfl) (by rw [show Tryz.f143.ntmps = 36 from Tryz.ntmps143, eq_ckId]; exact h)
/-- (*lintel/schema.checker).state -/
def vc_ckState {W : Type} (π : Prims W) (c : Nat) (n : Int) : W :=
  π.unSome (some (Addr.mk c (0 : Nat) none)) fun p0 =>
  π.ld [.bool] (p0.add (2 : Nat)) fun ((b1 : Bool), _) =>
  π.ite (b1) (
    π.unSome (some (Addr.mk c (0 : Nat) none)) fun p2 =>
    π.st (p2.add (2 : Nat)) [(Go.Value.bool (true))] <|
    π.ret (Go.Value.tuple #[])
  ) (
    π.ite (decide (n < (1 : Int))) (
      π.unSome (some (Addr.mk c (0 : Nat) none)) fun p3 =>
      π.st (p3.add (2 : Nat)) [(Go.Value.bool (true))] <|
      π.ret (Go.Value.tuple #[])
    ) (
      π.unSome (some (Addr.mk c (0 : Nat) none)) fun p4 =>
      π.st (p4.add (2 : Nat)) [(Go.Value.bool (decide (n > (3 : Int))))] <|
      π.ret (Go.Value.tuple #[])
    )
  )
def ann_ckState : Ann := { draws := [], join := [], loop := [] }
def la_ckState : LA := { ptr := [], ty := [] }
set_option maxRecDepth 100000 in
theorem eq_ckState {W : Type} (π : Prims W) (c : Nat) (n : Int) : bodyL π Tryz.prog la_ckState ann_ckState (mkFr (maskA [] [.v (.pointer (some ⟨c, 0, none⟩)), .v (.int .i64 n)] 0) 19) Tryz.f150 (bodyOf Tryz.f150) (mkFr (List.map some [.v (.pointer (some ⟨c, 0, none⟩)), .v (.int .i64 n)]) 19) = vc_ckState π c n := by kernel_rfl
theorem ok_ckState (c : Nat) (n : Int) (R : Value → PH → Prop) (s : PH) (h : vc_ckState (RP Tryz.prog R) c n s) : DCalls Tryz.prog 150 (List.map AV.val [.v (.pointer (some ⟨c, 0, none⟩)), .v (.int .i64 n)]).toArray s R :=
  calls_vcL (c := bodyOf Tryz.f150) (ann := ann_ckState) la_ckState (by kernel_rfl) Tryz.func150 rfl (by kernel_rfl) [.v (.pointer (some ⟨c, 0, none⟩)), .v (.int .i64 n)] [] (by rw [Tryz.ntmps150]; exact Nat.le_of_ble_eq_true rfl) (by kernel_rfl) (by rw [show Tryz.f150.ntmps = 19 from Tryz.ntmps150, eq_ckState]; exact h)
/-- lintel/schema.names[lintel/api.Table] -/
def vc_namesT {W : Type} (π : Prims W) (c : Nat) (a : Option Addr) (an ac : Nat) (least most : Int) : W :=
  π.join [] (fun J0 =>
    π.unSome (some (Addr.mk c (0 : Nat) none)) fun p1 =>
    π.ld [.bool] (p1.add (2 : Nat)) fun ((b2 : Bool), _) =>
    π.ite (b2) (
      π.unSome (some (Addr.mk c (0 : Nat) none)) fun p3 =>
      π.st (p3.add (2 : Nat)) [(Go.Value.bool (true))] <|
      J0 (())
    ) (
      π.ite (decide ((↑an : Int) < least)) (
        π.unSome (some (Addr.mk c (0 : Nat) none)) fun p4 =>
        π.st (p4.add (2 : Nat)) [(Go.Value.bool (true))] <|
        J0 (())
      ) (
        π.unSome (some (Addr.mk c (0 : Nat) none)) fun p5 =>
        π.st (p5.add (2 : Nat)) [(Go.Value.bool (decide ((↑an : Int) > most)))] <|
        J0 (())
      )
    )
  ) (fun (_) =>
    π.loop [(false, [.slice]), (false, [.int .i64]), (false, [.int .i64])] (((a, an, ac), ()), ((↑an : Int), ()), ((0 : Int), ()), ()) fun ((((a7 : Option Addr), (n8 : Nat), (c9 : Nat)), _), ((x10 : Int), _), ((x11 : Int), _), _) again6 =>
      π.ite (decide (x11 < x10)) (
        π.guard ((0 : Int) ≤ x11 ∧ x11 < (↑n8 : Int)) <|
        π.unSome (a7) fun p12 =>
        π.ld [.int .i64, .str, .slice, .slice, .slice] (p12.add (x11.toNat * (5 : Nat))) fun ((x13 : Int), (t14 : ByteArray), ((a15 : Option Addr), (n16 : Nat), (c17 : Nat)), ((a18 : Option Addr), (n19 : Nat), (c20 : Nat)), ((a21 : Option Addr), (n22 : Nat), (c23 : Nat)), _) =>
        π.unSome (some (Addr.mk c (0 : Nat) none)) fun p24 =>
        π.ld [.bool] (p24.add (2 : Nat)) fun ((b25 : Bool), _) =>
        π.ite (b25) (
          π.unSome (some (Addr.mk c (0 : Nat) none)) fun p26 =>
          π.st (p26.add (2 : Nat)) [(Go.Value.bool (true))] <|
          π.unSome (some (Addr.mk c (0 : Nat) none)) fun p27 =>
          π.ld [.bool] (p27.add (2 : Nat)) fun ((b28 : Bool), _) =>
          π.ite (b28) (
            π.ret (Go.Value.tuple #[])
          ) (
            again6 (((a7, n8, c9), ()), (x10, ()), (IntKind.i64.wrap (x11 + (1 : Int)), ()), ())
          )
        ) (
          π.call (112 : Nat) #[(Go.Value.agg #[(Go.Value.int (IntKind.i64) (x13)), (Go.Value.string (t14)), (Go.Value.slice (a15) (n16) (c17)), (Go.Value.slice (a18) (n19) (c20)), (Go.Value.slice (a21) (n22) (c23))])] (false, [(false, [.str])]) fun (((t29 : ByteArray), _), _) =>
          π.call (142 : Nat) #[(Go.Value.string (t29))] (false, [(false, [.bool])]) fun (((b30 : Bool), _), _) =>
          π.ite (!b30) (
            π.unSome (some (Addr.mk c (0 : Nat) none)) fun p31 =>
            π.st (p31.add (2 : Nat)) [(Go.Value.bool (true))] <|
            π.unSome (some (Addr.mk c (0 : Nat) none)) fun p32 =>
            π.ld [.bool] (p32.add (2 : Nat)) fun ((b33 : Bool), _) =>
            π.ite (b33) (
              π.ret (Go.Value.tuple #[])
            ) (
              again6 (((a7, n8, c9), ()), (x10, ()), (IntKind.i64.wrap (x11 + (1 : Int)), ()), ())
            )
          ) (
            π.call (112 : Nat) #[(Go.Value.agg #[(Go.Value.int (IntKind.i64) (x13)), (Go.Value.string (t14)), (Go.Value.slice (a15) (n16) (c17)), (Go.Value.slice (a18) (n19) (c20)), (Go.Value.slice (a21) (n22) (c23))])] (false, [(false, [.str])]) fun (((t34 : ByteArray), _), _) =>
            π.call (114 : Nat) #[(Go.Value.slice (a) (an) (ac)), (Go.Value.string (t34)), (Go.Value.func (Fn.func (112 : Nat)) #[] #[])] (false, [(false, [.int .i64])]) fun (((x35 : Int), _), _) =>
            π.unSome (some (Addr.mk c (0 : Nat) none)) fun p36 =>
            π.st (p36.add (2 : Nat)) [(Go.Value.bool (x35 != x11))] <|
            π.unSome (some (Addr.mk c (0 : Nat) none)) fun p37 =>
            π.ld [.bool] (p37.add (2 : Nat)) fun ((b38 : Bool), _) =>
            π.ite (b38) (
              π.ret (Go.Value.tuple #[])
            ) (
              again6 (((a7, n8, c9), ()), (x10, ()), (IntKind.i64.wrap (x11 + (1 : Int)), ()), ())
            )
          )
        )
      ) (
        π.ret (Go.Value.tuple #[])
      )
  )
def ann_namesT : Ann := { draws := [], join := [(1, [])], loop := [(2, [(31, 42), (32, 3), (33, 3)])] }
def la_namesT : LA := { ptr := [(11, 11, 0)], ty := [(11, 139)] }
set_option maxRecDepth 100000 in
theorem eq_namesT {W : Type} (π : Prims W) (c : Nat) (a : Option Addr) (an ac : Nat) (least most : Int) : bodyL π Tryz.prog la_namesT ann_namesT (mkFr (maskA [] [.v (.pointer (some ⟨c, 0, none⟩)), .v (.slice a an ac), .v (.int .i64 least), .v (.int .i64 most), .v (.func (.func 112) #[] #[])] 0) 67) Tryz.f111 (bodyOf Tryz.f111) (mkFr (List.map some [.v (.pointer (some ⟨c, 0, none⟩)), .v (.slice a an ac), .v (.int .i64 least), .v (.int .i64 most), .v (.func (.func 112) #[] #[])]) 67) = vc_namesT π c a an ac least most := by kernel_rfl
theorem ok_namesT (c : Nat) (a : Option Addr) (an ac : Nat) (least most : Int) (R : Value → PH → Prop) (s : PH) (h : vc_namesT (RP Tryz.prog R) c a an ac least most s) : DCalls Tryz.prog 111 (List.map AV.val [.v (.pointer (some ⟨c, 0, none⟩)), .v (.slice a an ac), .v (.int .i64 least), .v (.int .i64 most), .v (.func (.func 112) #[] #[])]).toArray s R :=
  calls_vcL (c := bodyOf Tryz.f111) (ann := ann_namesT) la_namesT (by kernel_rfl) Tryz.func111 rfl (by kernel_rfl) [.v (.pointer (some ⟨c, 0, none⟩)), .v (.slice a an ac), .v (.int .i64 least), .v (.int .i64 most), .v (.func (.func 112) #[] #[])] [] (by rw [Tryz.ntmps111]; exact Nat.le_of_ble_eq_true rfl) (by kernel_rfl) (by rw [show Tryz.f111.ntmps = 67 from Tryz.ntmps111, eq_namesT]; exact h)
/-- lintel/schema.names[lintel/api.Column] -/
def vc_namesC {W : Type} (π : Prims W) (c : Nat) (a : Option Addr) (an ac : Nat) (least most : Int) : W :=
  π.join [] (fun J0 =>
    π.unSome (some (Addr.mk c (0 : Nat) none)) fun p1 =>
    π.ld [.bool] (p1.add (2 : Nat)) fun ((b2 : Bool), _) =>
    π.ite (b2) (
      π.unSome (some (Addr.mk c (0 : Nat) none)) fun p3 =>
      π.st (p3.add (2 : Nat)) [(Go.Value.bool (true))] <|
      J0 (())
    ) (
      π.ite (decide ((↑an : Int) < least)) (
        π.unSome (some (Addr.mk c (0 : Nat) none)) fun p4 =>
        π.st (p4.add (2 : Nat)) [(Go.Value.bool (true))] <|
        J0 (())
      ) (
        π.unSome (some (Addr.mk c (0 : Nat) none)) fun p5 =>
        π.st (p5.add (2 : Nat)) [(Go.Value.bool (decide ((↑an : Int) > most)))] <|
        J0 (())
      )
    )
  ) (fun (_) =>
    π.loop [(false, [.slice]), (false, [.int .i64]), (false, [.int .i64])] (((a, an, ac), ()), ((↑an : Int), ()), ((0 : Int), ()), ()) fun ((((a7 : Option Addr), (n8 : Nat), (c9 : Nat)), _), ((x10 : Int), _), ((x11 : Int), _), _) again6 =>
      π.ite (decide (x11 < x10)) (
        π.guard ((0 : Int) ≤ x11 ∧ x11 < (↑n8 : Int)) <|
        π.unSome (a7) fun p12 =>
        π.ld [.int .i64, .str, .int .i64, .int .i64, .int .i64, .int .i64, .str] (p12.add (x11.toNat * (7 : Nat))) fun ((x13 : Int), (t14 : ByteArray), (x15 : Int), (x16 : Int), (x17 : Int), (x18 : Int), (t19 : ByteArray), _) =>
        π.unSome (some (Addr.mk c (0 : Nat) none)) fun p20 =>
        π.ld [.bool] (p20.add (2 : Nat)) fun ((b21 : Bool), _) =>
        π.ite (b21) (
          π.unSome (some (Addr.mk c (0 : Nat) none)) fun p22 =>
          π.st (p22.add (2 : Nat)) [(Go.Value.bool (true))] <|
          π.unSome (some (Addr.mk c (0 : Nat) none)) fun p23 =>
          π.ld [.bool] (p23.add (2 : Nat)) fun ((b24 : Bool), _) =>
          π.ite (b24) (
            π.ret (Go.Value.tuple #[])
          ) (
            again6 (((a7, n8, c9), ()), (x10, ()), (IntKind.i64.wrap (x11 + (1 : Int)), ()), ())
          )
        ) (
          π.call (145 : Nat) #[(Go.Value.agg #[(Go.Value.int (IntKind.i64) (x13)), (Go.Value.string (t14)), (Go.Value.int (IntKind.i64) (x15)), (Go.Value.int (IntKind.i64) (x16)), (Go.Value.int (IntKind.i64) (x17)), (Go.Value.int (IntKind.i64) (x18)), (Go.Value.string (t19))])] (false, [(false, [.str])]) fun (((t25 : ByteArray), _), _) =>
          π.call (142 : Nat) #[(Go.Value.string (t25))] (false, [(false, [.bool])]) fun (((b26 : Bool), _), _) =>
          π.ite (!b26) (
            π.unSome (some (Addr.mk c (0 : Nat) none)) fun p27 =>
            π.st (p27.add (2 : Nat)) [(Go.Value.bool (true))] <|
            π.unSome (some (Addr.mk c (0 : Nat) none)) fun p28 =>
            π.ld [.bool] (p28.add (2 : Nat)) fun ((b29 : Bool), _) =>
            π.ite (b29) (
              π.ret (Go.Value.tuple #[])
            ) (
              again6 (((a7, n8, c9), ()), (x10, ()), (IntKind.i64.wrap (x11 + (1 : Int)), ()), ())
            )
          ) (
            π.call (145 : Nat) #[(Go.Value.agg #[(Go.Value.int (IntKind.i64) (x13)), (Go.Value.string (t14)), (Go.Value.int (IntKind.i64) (x15)), (Go.Value.int (IntKind.i64) (x16)), (Go.Value.int (IntKind.i64) (x17)), (Go.Value.int (IntKind.i64) (x18)), (Go.Value.string (t19))])] (false, [(false, [.str])]) fun (((t30 : ByteArray), _), _) =>
            π.call (169 : Nat) #[(Go.Value.slice (a) (an) (ac)), (Go.Value.string (t30)), (Go.Value.func (Fn.func (145 : Nat)) #[] #[])] (false, [(false, [.int .i64])]) fun (((x31 : Int), _), _) =>
            π.unSome (some (Addr.mk c (0 : Nat) none)) fun p32 =>
            π.st (p32.add (2 : Nat)) [(Go.Value.bool (x31 != x11))] <|
            π.unSome (some (Addr.mk c (0 : Nat) none)) fun p33 =>
            π.ld [.bool] (p33.add (2 : Nat)) fun ((b34 : Bool), _) =>
            π.ite (b34) (
              π.ret (Go.Value.tuple #[])
            ) (
              again6 (((a7, n8, c9), ()), (x10, ()), (IntKind.i64.wrap (x11 + (1 : Int)), ()), ())
            )
          )
        )
      ) (
        π.ret (Go.Value.tuple #[])
      )
  )
def ann_namesC : Ann := { draws := [], join := [(1, [])], loop := [(2, [(31, 34), (32, 3), (33, 3)])] }
def la_namesC : LA := { ptr := [(11, 11, 0)], ty := [(11, 97)] }
set_option maxRecDepth 100000 in
theorem eq_namesC {W : Type} (π : Prims W) (c : Nat) (a : Option Addr) (an ac : Nat) (least most : Int) : bodyL π Tryz.prog la_namesC ann_namesC (mkFr (maskA [] [.v (.pointer (some ⟨c, 0, none⟩)), .v (.slice a an ac), .v (.int .i64 least), .v (.int .i64 most), .v (.func (.func 145) #[] #[])] 0) 67) Tryz.f144 (bodyOf Tryz.f144) (mkFr (List.map some [.v (.pointer (some ⟨c, 0, none⟩)), .v (.slice a an ac), .v (.int .i64 least), .v (.int .i64 most), .v (.func (.func 145) #[] #[])]) 67) = vc_namesC π c a an ac least most := by kernel_rfl
theorem ok_namesC (c : Nat) (a : Option Addr) (an ac : Nat) (least most : Int) (R : Value → PH → Prop) (s : PH) (h : vc_namesC (RP Tryz.prog R) c a an ac least most s) : DCalls Tryz.prog 144 (List.map AV.val [.v (.pointer (some ⟨c, 0, none⟩)), .v (.slice a an ac), .v (.int .i64 least), .v (.int .i64 most), .v (.func (.func 145) #[] #[])]).toArray s R :=
  calls_vcL (c := bodyOf Tryz.f144) (ann := ann_namesC) la_namesC (by kernel_rfl) Tryz.func144 rfl (by kernel_rfl) [.v (.pointer (some ⟨c, 0, none⟩)), .v (.slice a an ac), .v (.int .i64 least), .v (.int .i64 most), .v (.func (.func 145) #[] #[])] [] (by rw [Tryz.ntmps144]; exact Nat.le_of_ble_eq_true rfl) (by kernel_rfl) (by rw [show Tryz.f144.ntmps = 67 from Tryz.ntmps144, eq_namesC]; exact h)
/-- lintel/schema.names[lintel/api.Index] -/
def vc_namesX {W : Type} (π : Prims W) (c : Nat) (a : Option Addr) (an ac : Nat) (least most : Int) : W :=
  π.join [] (fun J0 =>
    π.unSome (some (Addr.mk c (0 : Nat) none)) fun p1 =>
    π.ld [.bool] (p1.add (2 : Nat)) fun ((b2 : Bool), _) =>
    π.ite (b2) (
      π.unSome (some (Addr.mk c (0 : Nat) none)) fun p3 =>
      π.st (p3.add (2 : Nat)) [(Go.Value.bool (true))] <|
      J0 (())
    ) (
      π.ite (decide ((↑an : Int) < least)) (
        π.unSome (some (Addr.mk c (0 : Nat) none)) fun p4 =>
        π.st (p4.add (2 : Nat)) [(Go.Value.bool (true))] <|
        J0 (())
      ) (
        π.unSome (some (Addr.mk c (0 : Nat) none)) fun p5 =>
        π.st (p5.add (2 : Nat)) [(Go.Value.bool (decide ((↑an : Int) > most)))] <|
        J0 (())
      )
    )
  ) (fun (_) =>
    π.loop [(false, [.slice]), (false, [.int .i64]), (false, [.int .i64])] (((a, an, ac), ()), ((↑an : Int), ()), ((0 : Int), ()), ()) fun ((((a7 : Option Addr), (n8 : Nat), (c9 : Nat)), _), ((x10 : Int), _), ((x11 : Int), _), _) again6 =>
      π.ite (decide (x11 < x10)) (
        π.guard ((0 : Int) ≤ x11 ∧ x11 < (↑n8 : Int)) <|
        π.unSome (a7) fun p12 =>
        π.ld [.int .i64, .str, .int .i64, .bool, .int .i64] (p12.add (x11.toNat * (5 : Nat))) fun ((x13 : Int), (t14 : ByteArray), (x15 : Int), (b16 : Bool), (x17 : Int), _) =>
        π.unSome (some (Addr.mk c (0 : Nat) none)) fun p18 =>
        π.ld [.bool] (p18.add (2 : Nat)) fun ((b19 : Bool), _) =>
        π.ite (b19) (
          π.unSome (some (Addr.mk c (0 : Nat) none)) fun p20 =>
          π.st (p20.add (2 : Nat)) [(Go.Value.bool (true))] <|
          π.unSome (some (Addr.mk c (0 : Nat) none)) fun p21 =>
          π.ld [.bool] (p21.add (2 : Nat)) fun ((b22 : Bool), _) =>
          π.ite (b22) (
            π.ret (Go.Value.tuple #[])
          ) (
            again6 (((a7, n8, c9), ()), (x10, ()), (IntKind.i64.wrap (x11 + (1 : Int)), ()), ())
          )
        ) (
          π.call (147 : Nat) #[(Go.Value.agg #[(Go.Value.int (IntKind.i64) (x13)), (Go.Value.string (t14)), (Go.Value.int (IntKind.i64) (x15)), (Go.Value.bool (b16)), (Go.Value.int (IntKind.i64) (x17))])] (false, [(false, [.str])]) fun (((t23 : ByteArray), _), _) =>
          π.call (142 : Nat) #[(Go.Value.string (t23))] (false, [(false, [.bool])]) fun (((b24 : Bool), _), _) =>
          π.ite (!b24) (
            π.unSome (some (Addr.mk c (0 : Nat) none)) fun p25 =>
            π.st (p25.add (2 : Nat)) [(Go.Value.bool (true))] <|
            π.unSome (some (Addr.mk c (0 : Nat) none)) fun p26 =>
            π.ld [.bool] (p26.add (2 : Nat)) fun ((b27 : Bool), _) =>
            π.ite (b27) (
              π.ret (Go.Value.tuple #[])
            ) (
              again6 (((a7, n8, c9), ()), (x10, ()), (IntKind.i64.wrap (x11 + (1 : Int)), ()), ())
            )
          ) (
            π.call (147 : Nat) #[(Go.Value.agg #[(Go.Value.int (IntKind.i64) (x13)), (Go.Value.string (t14)), (Go.Value.int (IntKind.i64) (x15)), (Go.Value.bool (b16)), (Go.Value.int (IntKind.i64) (x17))])] (false, [(false, [.str])]) fun (((t28 : ByteArray), _), _) =>
            π.call (177 : Nat) #[(Go.Value.slice (a) (an) (ac)), (Go.Value.string (t28)), (Go.Value.func (Fn.func (147 : Nat)) #[] #[])] (false, [(false, [.int .i64])]) fun (((x29 : Int), _), _) =>
            π.unSome (some (Addr.mk c (0 : Nat) none)) fun p30 =>
            π.st (p30.add (2 : Nat)) [(Go.Value.bool (x29 != x11))] <|
            π.unSome (some (Addr.mk c (0 : Nat) none)) fun p31 =>
            π.ld [.bool] (p31.add (2 : Nat)) fun ((b32 : Bool), _) =>
            π.ite (b32) (
              π.ret (Go.Value.tuple #[])
            ) (
              again6 (((a7, n8, c9), ()), (x10, ()), (IntKind.i64.wrap (x11 + (1 : Int)), ()), ())
            )
          )
        )
      ) (
        π.ret (Go.Value.tuple #[])
      )
  )
def ann_namesX : Ann := { draws := [], join := [(1, [])], loop := [(2, [(31, 136), (32, 3), (33, 3)])] }
def la_namesX : LA := { ptr := [(11, 11, 0)], ty := [(11, 142)] }
set_option maxRecDepth 100000 in
theorem eq_namesX {W : Type} (π : Prims W) (c : Nat) (a : Option Addr) (an ac : Nat) (least most : Int) : bodyL π Tryz.prog la_namesX ann_namesX (mkFr (maskA [] [.v (.pointer (some ⟨c, 0, none⟩)), .v (.slice a an ac), .v (.int .i64 least), .v (.int .i64 most), .v (.func (.func 147) #[] #[])] 0) 67) Tryz.f146 (bodyOf Tryz.f146) (mkFr (List.map some [.v (.pointer (some ⟨c, 0, none⟩)), .v (.slice a an ac), .v (.int .i64 least), .v (.int .i64 most), .v (.func (.func 147) #[] #[])]) 67) = vc_namesX π c a an ac least most := by kernel_rfl
theorem ok_namesX (c : Nat) (a : Option Addr) (an ac : Nat) (least most : Int) (R : Value → PH → Prop) (s : PH) (h : vc_namesX (RP Tryz.prog R) c a an ac least most s) : DCalls Tryz.prog 146 (List.map AV.val [.v (.pointer (some ⟨c, 0, none⟩)), .v (.slice a an ac), .v (.int .i64 least), .v (.int .i64 most), .v (.func (.func 147) #[] #[])]).toArray s R :=
  calls_vcL (c := bodyOf Tryz.f146) (ann := ann_namesX) la_namesX (by kernel_rfl) Tryz.func146 rfl (by kernel_rfl) [.v (.pointer (some ⟨c, 0, none⟩)), .v (.slice a an ac), .v (.int .i64 least), .v (.int .i64 most), .v (.func (.func 147) #[] #[])] [] (by rw [Tryz.ntmps146]; exact Nat.le_of_ble_eq_true rfl) (by kernel_rfl) (by rw [show Tryz.f146.ntmps = 67 from Tryz.ntmps146, eq_namesX]; exact h)
/-- lintel/schema.names[lintel/api.Foreign] -/
def vc_namesF {W : Type} (π : Prims W) (c : Nat) (a : Option Addr) (an ac : Nat) (least most : Int) : W :=
  π.join [] (fun J0 =>
    π.unSome (some (Addr.mk c (0 : Nat) none)) fun p1 =>
    π.ld [.bool] (p1.add (2 : Nat)) fun ((b2 : Bool), _) =>
    π.ite (b2) (
      π.unSome (some (Addr.mk c (0 : Nat) none)) fun p3 =>
      π.st (p3.add (2 : Nat)) [(Go.Value.bool (true))] <|
      J0 (())
    ) (
      π.ite (decide ((↑an : Int) < least)) (
        π.unSome (some (Addr.mk c (0 : Nat) none)) fun p4 =>
        π.st (p4.add (2 : Nat)) [(Go.Value.bool (true))] <|
        J0 (())
      ) (
        π.unSome (some (Addr.mk c (0 : Nat) none)) fun p5 =>
        π.st (p5.add (2 : Nat)) [(Go.Value.bool (decide ((↑an : Int) > most)))] <|
        J0 (())
      )
    )
  ) (fun (_) =>
    π.loop [(false, [.slice]), (false, [.int .i64]), (false, [.int .i64])] (((a, an, ac), ()), ((↑an : Int), ()), ((0 : Int), ()), ()) fun ((((a7 : Option Addr), (n8 : Nat), (c9 : Nat)), _), ((x10 : Int), _), ((x11 : Int), _), _) again6 =>
      π.ite (decide (x11 < x10)) (
        π.guard ((0 : Int) ≤ x11 ∧ x11 < (↑n8 : Int)) <|
        π.unSome (a7) fun p12 =>
        π.ld [.int .i64, .str, .int .i64, .int .i64, .int .i64] (p12.add (x11.toNat * (5 : Nat))) fun ((x13 : Int), (t14 : ByteArray), (x15 : Int), (x16 : Int), (x17 : Int), _) =>
        π.unSome (some (Addr.mk c (0 : Nat) none)) fun p18 =>
        π.ld [.bool] (p18.add (2 : Nat)) fun ((b19 : Bool), _) =>
        π.ite (b19) (
          π.unSome (some (Addr.mk c (0 : Nat) none)) fun p20 =>
          π.st (p20.add (2 : Nat)) [(Go.Value.bool (true))] <|
          π.unSome (some (Addr.mk c (0 : Nat) none)) fun p21 =>
          π.ld [.bool] (p21.add (2 : Nat)) fun ((b22 : Bool), _) =>
          π.ite (b22) (
            π.ret (Go.Value.tuple #[])
          ) (
            again6 (((a7, n8, c9), ()), (x10, ()), (IntKind.i64.wrap (x11 + (1 : Int)), ()), ())
          )
        ) (
          π.call (149 : Nat) #[(Go.Value.agg #[(Go.Value.int (IntKind.i64) (x13)), (Go.Value.string (t14)), (Go.Value.int (IntKind.i64) (x15)), (Go.Value.int (IntKind.i64) (x16)), (Go.Value.int (IntKind.i64) (x17))])] (false, [(false, [.str])]) fun (((t23 : ByteArray), _), _) =>
          π.call (142 : Nat) #[(Go.Value.string (t23))] (false, [(false, [.bool])]) fun (((b24 : Bool), _), _) =>
          π.ite (!b24) (
            π.unSome (some (Addr.mk c (0 : Nat) none)) fun p25 =>
            π.st (p25.add (2 : Nat)) [(Go.Value.bool (true))] <|
            π.unSome (some (Addr.mk c (0 : Nat) none)) fun p26 =>
            π.ld [.bool] (p26.add (2 : Nat)) fun ((b27 : Bool), _) =>
            π.ite (b27) (
              π.ret (Go.Value.tuple #[])
            ) (
              again6 (((a7, n8, c9), ()), (x10, ()), (IntKind.i64.wrap (x11 + (1 : Int)), ()), ())
            )
          ) (
            π.call (149 : Nat) #[(Go.Value.agg #[(Go.Value.int (IntKind.i64) (x13)), (Go.Value.string (t14)), (Go.Value.int (IntKind.i64) (x15)), (Go.Value.int (IntKind.i64) (x16)), (Go.Value.int (IntKind.i64) (x17))])] (false, [(false, [.str])]) fun (((t28 : ByteArray), _), _) =>
            π.call (181 : Nat) #[(Go.Value.slice (a) (an) (ac)), (Go.Value.string (t28)), (Go.Value.func (Fn.func (149 : Nat)) #[] #[])] (false, [(false, [.int .i64])]) fun (((x29 : Int), _), _) =>
            π.unSome (some (Addr.mk c (0 : Nat) none)) fun p30 =>
            π.st (p30.add (2 : Nat)) [(Go.Value.bool (x29 != x11))] <|
            π.unSome (some (Addr.mk c (0 : Nat) none)) fun p31 =>
            π.ld [.bool] (p31.add (2 : Nat)) fun ((b32 : Bool), _) =>
            π.ite (b32) (
              π.ret (Go.Value.tuple #[])
            ) (
              again6 (((a7, n8, c9), ()), (x10, ()), (IntKind.i64.wrap (x11 + (1 : Int)), ()), ())
            )
          )
        )
      ) (
        π.ret (Go.Value.tuple #[])
      )
  )
def ann_namesF : Ann := { draws := [], join := [(1, [])], loop := [(2, [(31, 137), (32, 3), (33, 3)])] }
def la_namesF : LA := { ptr := [(11, 11, 0)], ty := [(11, 144)] }
set_option maxRecDepth 100000 in
theorem eq_namesF {W : Type} (π : Prims W) (c : Nat) (a : Option Addr) (an ac : Nat) (least most : Int) : bodyL π Tryz.prog la_namesF ann_namesF (mkFr (maskA [] [.v (.pointer (some ⟨c, 0, none⟩)), .v (.slice a an ac), .v (.int .i64 least), .v (.int .i64 most), .v (.func (.func 149) #[] #[])] 0) 67) Tryz.f148 (bodyOf Tryz.f148) (mkFr (List.map some [.v (.pointer (some ⟨c, 0, none⟩)), .v (.slice a an ac), .v (.int .i64 least), .v (.int .i64 most), .v (.func (.func 149) #[] #[])]) 67) = vc_namesF π c a an ac least most := by kernel_rfl
theorem ok_namesF (c : Nat) (a : Option Addr) (an ac : Nat) (least most : Int) (R : Value → PH → Prop) (s : PH) (h : vc_namesF (RP Tryz.prog R) c a an ac least most s) : DCalls Tryz.prog 148 (List.map AV.val [.v (.pointer (some ⟨c, 0, none⟩)), .v (.slice a an ac), .v (.int .i64 least), .v (.int .i64 most), .v (.func (.func 149) #[] #[])]).toArray s R :=
  calls_vcL (c := bodyOf Tryz.f148) (ann := ann_namesF) la_namesF (by kernel_rfl) Tryz.func148 rfl (by kernel_rfl) [.v (.pointer (some ⟨c, 0, none⟩)), .v (.slice a an ac), .v (.int .i64 least), .v (.int .i64 most), .v (.func (.func 149) #[] #[])] [] (by rw [Tryz.ntmps148]; exact Nat.le_of_ble_eq_true rfl) (by kernel_rfl) (by rw [show Tryz.f148.ntmps = 67 from Tryz.ntmps148, eq_namesF]; exact h)
/-- (*lintel/schema.checker).table -/
def vc_ckTable {W : Type} (π : Prims W) (c : Nat) (sv sl : Int) (sa : Option Addr) (san sac : Nat) (ti : Int) (tn : ByteArray) (ca : Option Addr) (can cac : Nat) (xa : Option Addr) (xan xac : Nat) (ka : Option Addr) (kan kac : Nat) : W :=
  π.call (143 : Nat) #[(Go.Value.pointer (some (Addr.mk c (0 : Nat) none))), (Go.Value.int (IntKind.i64) (ti))] (true, []) fun (_) =>
  π.call (144 : Nat) #[(Go.Value.pointer (some (Addr.mk c (0 : Nat) none))), (Go.Value.slice (ca) (can) (cac)), (Go.Value.int (IntKind.i64) ((1 : Int))), (Go.Value.int (IntKind.i64) ((8 : Int))), (Go.Value.func (Fn.func (145 : Nat)) #[] #[])] (true, []) fun (_) =>
  π.call (146 : Nat) #[(Go.Value.pointer (some (Addr.mk c (0 : Nat) none))), (Go.Value.slice (xa) (xan) (xac)), (Go.Value.int (IntKind.i64) ((0 : Int))), (Go.Value.int (IntKind.i64) ((8 : Int))), (Go.Value.func (Fn.func (147 : Nat)) #[] #[])] (true, []) fun (_) =>
  π.call (148 : Nat) #[(Go.Value.pointer (some (Addr.mk c (0 : Nat) none))), (Go.Value.slice (ka) (kan) (kac)), (Go.Value.int (IntKind.i64) ((0 : Int))), (Go.Value.int (IntKind.i64) ((8 : Int))), (Go.Value.func (Fn.func (149 : Nat)) #[] #[])] (true, []) fun (_) =>
  π.unSome (some (Addr.mk c (0 : Nat) none)) fun p0 =>
  π.ld [.bool] (p0.add (2 : Nat)) fun ((b1 : Bool), _) =>
  π.ite (b1) (
    π.ret (Go.Value.tuple #[])
  ) (
    π.guard ((0 : Int) ≤ (0 : Int) ∧ (0 : Int) < (↑can : Int)) <|
    π.unSome (ca) fun p2 =>
    π.ld [.int .i64] ((p2.add (0 : Nat)).add (3 : Nat)) fun ((x3 : Int), _) =>
    π.unSome (some (Addr.mk c (0 : Nat) none)) fun p4 =>
    π.st (p4.add (2 : Nat)) [(Go.Value.bool (x3 != (3 : Int)))] <|
    π.loop [(true, [.int .i64, .int .i64, .slice]), (true, [.int .i64, .str, .slice, .slice, .slice]), (false, [.slice]), (false, [.int .i64]), (false, [.int .i64])] ((sv, sl, (sa, san, sac), ()), (ti, tn, (ca, can, cac), (xa, xan, xac), (ka, kan, kac), ()), ((ca, can, cac), ()), ((↑can : Int), ()), ((0 : Int), ()), ()) fun (((x6 : Int), (x7 : Int), ((a8 : Option Addr), (n9 : Nat), (c10 : Nat)), _), ((x11 : Int), (t12 : ByteArray), ((a13 : Option Addr), (n14 : Nat), (c15 : Nat)), ((a16 : Option Addr), (n17 : Nat), (c18 : Nat)), ((a19 : Option Addr), (n20 : Nat), (c21 : Nat)), _), (((a22 : Option Addr), (n23 : Nat), (c24 : Nat)), _), ((x25 : Int), _), ((x26 : Int), _), _) again5 =>
      π.ite (decide (x26 < x25)) (
        π.guard ((0 : Int) ≤ x26 ∧ x26 < (↑n23 : Int)) <|
        π.unSome (a22) fun p27 =>
        π.ld [.int .i64, .str, .int .i64, .int .i64, .int .i64, .int .i64, .str] (p27.add (x26.toNat * (7 : Nat))) fun ((x28 : Int), (t29 : ByteArray), (x30 : Int), (x31 : Int), (x32 : Int), (x33 : Int), (t34 : ByteArray), _) =>
        π.call (143 : Nat) #[(Go.Value.pointer (some (Addr.mk c (0 : Nat) none))), (Go.Value.int (IntKind.i64) (x28))] (true, []) fun (_) =>
        π.call (150 : Nat) #[(Go.Value.pointer (some (Addr.mk c (0 : Nat) none))), (Go.Value.int (IntKind.i64) (x31))] (true, []) fun (_) =>
        π.unSome (some (Addr.mk c (0 : Nat) none)) fun p35 =>
        π.ld [.bool] (p35.add (2 : Nat)) fun ((b36 : Bool), _) =>
        π.ite (b36) (
          π.unSome (some (Addr.mk c (0 : Nat) none)) fun p37 =>
          π.st (p37.add (2 : Nat)) [(Go.Value.bool (true))] <|
          again5 ((x6, x7, (a8, n9, c10), ()), (x11, t12, (a13, n14, c15), (a16, n17, c18), (a19, n20, c21), ()), ((a22, n23, c24), ()), (x25, ()), (IntKind.i64.wrap (x26 + (1 : Int)), ()), ())
        ) (
          π.call (151 : Nat) #[(Go.Value.int (IntKind.i64) (x30))] (false, [(false, [.bool])]) fun (((b38 : Bool), _), _) =>
          π.ite (!b38) (
            π.unSome (some (Addr.mk c (0 : Nat) none)) fun p39 =>
            π.st (p39.add (2 : Nat)) [(Go.Value.bool (true))] <|
            again5 ((x6, x7, (a8, n9, c10), ()), (x11, t12, (a13, n14, c15), (a16, n17, c18), (a19, n20, c21), ()), ((a22, n23, c24), ()), (x25, ()), (IntKind.i64.wrap (x26 + (1 : Int)), ()), ())
          ) (
            π.call (152 : Nat) #[(Go.Value.agg #[(Go.Value.int (IntKind.i64) (x32)), (Go.Value.int (IntKind.i64) (x33)), (Go.Value.string (t34))]), (Go.Value.int (IntKind.i64) (x30))] (false, [(false, [.bool])]) fun (((b40 : Bool), _), _) =>
            π.unSome (some (Addr.mk c (0 : Nat) none)) fun p41 =>
            π.st (p41.add (2 : Nat)) [(Go.Value.bool (!b40))] <|
            again5 ((x6, x7, (a8, n9, c10), ()), (x11, t12, (a13, n14, c15), (a16, n17, c18), (a19, n20, c21), ()), ((a22, n23, c24), ()), (x25, ()), (IntKind.i64.wrap (x26 + (1 : Int)), ()), ())
          )
        )
      ) (
        π.loop [(true, [.int .i64, .int .i64, .slice]), (true, [.int .i64, .str, .slice, .slice, .slice]), (false, [.slice]), (false, [.int .i64]), (false, [.int .i64])] ((x6, x7, (a8, n9, c10), ()), (x11, t12, (a13, n14, c15), (a16, n17, c18), (a19, n20, c21), ()), ((a16, n17, c18), ()), ((↑n17 : Int), ()), ((0 : Int), ()), ()) fun (((x43 : Int), (x44 : Int), ((a45 : Option Addr), (n46 : Nat), (c47 : Nat)), _), ((x48 : Int), (t49 : ByteArray), ((a50 : Option Addr), (n51 : Nat), (c52 : Nat)), ((a53 : Option Addr), (n54 : Nat), (c55 : Nat)), ((a56 : Option Addr), (n57 : Nat), (c58 : Nat)), _), (((a59 : Option Addr), (n60 : Nat), (c61 : Nat)), _), ((x62 : Int), _), ((x63 : Int), _), _) again42 =>
          π.ite (decide (x63 < x62)) (
            π.guard ((0 : Int) ≤ x63 ∧ x63 < (↑n60 : Int)) <|
            π.unSome (a59) fun p64 =>
            π.ld [.int .i64, .str, .int .i64, .bool, .int .i64] (p64.add (x63.toNat * (5 : Nat))) fun ((x65 : Int), (t66 : ByteArray), (x67 : Int), (b68 : Bool), (x69 : Int), _) =>
            π.call (143 : Nat) #[(Go.Value.pointer (some (Addr.mk c (0 : Nat) none))), (Go.Value.int (IntKind.i64) (x65))] (true, []) fun (_) =>
            π.call (150 : Nat) #[(Go.Value.pointer (some (Addr.mk c (0 : Nat) none))), (Go.Value.int (IntKind.i64) (x69))] (true, []) fun (_) =>
            π.unSome (some (Addr.mk c (0 : Nat) none)) fun p70 =>
            π.ld [.bool] (p70.add (2 : Nat)) fun ((b71 : Bool), _) =>
            π.ite (b71) (
              π.unSome (some (Addr.mk c (0 : Nat) none)) fun p72 =>
              π.st (p72.add (2 : Nat)) [(Go.Value.bool (true))] <|
              again42 ((x43, x44, (a45, n46, c47), ()), (x48, t49, (a50, n51, c52), (a53, n54, c55), (a56, n57, c58), ()), ((a59, n60, c61), ()), (x62, ()), (IntKind.i64.wrap (x63 + (1 : Int)), ()), ())
            ) (
              π.call (153 : Nat) #[(Go.Value.agg #[(Go.Value.int (IntKind.i64) (x48)), (Go.Value.string (t49)), (Go.Value.slice (a50) (n51) (c52)), (Go.Value.slice (a53) (n54) (c55)), (Go.Value.slice (a56) (n57) (c58))]), (Go.Value.int (IntKind.i64) (x67))] (false, [(false, [.int .i64])]) fun (((x73 : Int), _), _) =>
              π.unSome (some (Addr.mk c (0 : Nat) none)) fun p74 =>
              π.st (p74.add (2 : Nat)) [(Go.Value.bool (decide (x73 < (0 : Int))))] <|
              again42 ((x43, x44, (a45, n46, c47), ()), (x48, t49, (a50, n51, c52), (a53, n54, c55), (a56, n57, c58), ()), ((a59, n60, c61), ()), (x62, ()), (IntKind.i64.wrap (x63 + (1 : Int)), ()), ())
            )
          ) (
            π.loop [(true, [.int .i64, .int .i64, .slice]), (true, [.int .i64, .str, .slice, .slice, .slice]), (false, [.slice]), (false, [.int .i64]), (false, [.int .i64])] ((x43, x44, (a45, n46, c47), ()), (x48, t49, (a50, n51, c52), (a53, n54, c55), (a56, n57, c58), ()), ((a56, n57, c58), ()), ((↑n57 : Int), ()), ((0 : Int), ()), ()) fun (((x76 : Int), (x77 : Int), ((a78 : Option Addr), (n79 : Nat), (c80 : Nat)), _), ((x81 : Int), (t82 : ByteArray), ((a83 : Option Addr), (n84 : Nat), (c85 : Nat)), ((a86 : Option Addr), (n87 : Nat), (c88 : Nat)), ((a89 : Option Addr), (n90 : Nat), (c91 : Nat)), _), (((a92 : Option Addr), (n93 : Nat), (c94 : Nat)), _), ((x95 : Int), _), ((x96 : Int), _), _) again75 =>
              π.ite (decide (x96 < x95)) (
                π.guard ((0 : Int) ≤ x96 ∧ x96 < (↑n93 : Int)) <|
                π.unSome (a92) fun p97 =>
                π.ld [.int .i64, .str, .int .i64, .int .i64, .int .i64] (p97.add (x96.toNat * (5 : Nat))) fun ((x98 : Int), (t99 : ByteArray), (x100 : Int), (x101 : Int), (x102 : Int), _) =>
                π.call (143 : Nat) #[(Go.Value.pointer (some (Addr.mk c (0 : Nat) none))), (Go.Value.int (IntKind.i64) (x98))] (true, []) fun (_) =>
                π.call (150 : Nat) #[(Go.Value.pointer (some (Addr.mk c (0 : Nat) none))), (Go.Value.int (IntKind.i64) (x102))] (true, []) fun (_) =>
                π.callQ (153 : Nat) #[(Go.Value.agg #[(Go.Value.int (IntKind.i64) (x81)), (Go.Value.string (t82)), (Go.Value.slice (a83) (n84) (c85)), (Go.Value.slice (a86) (n87) (c88)), (Go.Value.slice (a89) (n90) (c91))]), (Go.Value.int (IntKind.i64) (x100))] (false, [(false, [.int .i64])]) fun (((x103 : Int), _), _) =>
                π.callQ (154 : Nat) #[(Go.Value.agg #[(Go.Value.int (IntKind.i64) (x76)), (Go.Value.int (IntKind.i64) (x77)), (Go.Value.slice (a78) (n79) (c80))]), (Go.Value.int (IntKind.i64) (x101))] (false, [(false, [.int .i64])]) fun (((x104 : Int), _), _) =>
                π.unSome (some (Addr.mk c (0 : Nat) none)) fun p105 =>
                π.ld [.bool] (p105.add (2 : Nat)) fun ((b106 : Bool), _) =>
                π.ite (b106) (
                  π.unSome (some (Addr.mk c (0 : Nat) none)) fun p107 =>
                  π.st (p107.add (2 : Nat)) [(Go.Value.bool (true))] <|
                  again75 ((x76, x77, (a78, n79, c80), ()), (x81, t82, (a83, n84, c85), (a86, n87, c88), (a89, n90, c91), ()), ((a92, n93, c94), ()), (x95, ()), (IntKind.i64.wrap (x96 + (1 : Int)), ()), ())
                ) (
                  π.ite (decide (x103 < (0 : Int))) (
                    π.unSome (some (Addr.mk c (0 : Nat) none)) fun p108 =>
                    π.st (p108.add (2 : Nat)) [(Go.Value.bool (true))] <|
                    again75 ((x76, x77, (a78, n79, c80), ()), (x81, t82, (a83, n84, c85), (a86, n87, c88), (a89, n90, c91), ()), ((a92, n93, c94), ()), (x95, ()), (IntKind.i64.wrap (x96 + (1 : Int)), ()), ())
                  ) (
                    π.ite (decide (x104 < (0 : Int))) (
                      π.unSome (some (Addr.mk c (0 : Nat) none)) fun p109 =>
                      π.st (p109.add (2 : Nat)) [(Go.Value.bool (true))] <|
                      again75 ((x76, x77, (a78, n79, c80), ()), (x81, t82, (a83, n84, c85), (a86, n87, c88), (a89, n90, c91), ()), ((a92, n93, c94), ()), (x95, ()), (IntKind.i64.wrap (x96 + (1 : Int)), ()), ())
                    ) (
                      π.guard ((0 : Int) ≤ x104 ∧ x104 < (↑n79 : Int)) <|
                      π.unSome (a78) fun p110 =>
                      π.ld [.slice] ((p110.add (x104.toNat * (5 : Nat))).add (2 : Nat)) fun (((a111 : Option Addr), (n112 : Nat), (c113 : Nat)), _) =>
                      π.ite ((↑n112 : Int) == (0 : Int)) (
                        π.unSome (some (Addr.mk c (0 : Nat) none)) fun p114 =>
                        π.st (p114.add (2 : Nat)) [(Go.Value.bool (true))] <|
                        again75 ((x76, x77, (a78, n79, c80), ()), (x81, t82, (a83, n84, c85), (a86, n87, c88), (a89, n90, c91), ()), ((a92, n93, c94), ()), (x95, ()), (IntKind.i64.wrap (x96 + (1 : Int)), ()), ())
                      ) (
                        π.guard ((0 : Int) ≤ x103 ∧ x103 < (↑n84 : Int)) <|
                        π.unSome (a83) fun p115 =>
                        π.ld [.int .i64] ((p115.add (x103.toNat * (7 : Nat))).add (2 : Nat)) fun ((x116 : Int), _) =>
                        π.guard ((0 : Int) ≤ x104 ∧ x104 < (↑n79 : Int)) <|
                        π.unSome (a78) fun p117 =>
                        π.ld [.slice] ((p117.add (x104.toNat * (5 : Nat))).add (2 : Nat)) fun (((a118 : Option Addr), (n119 : Nat), (c120 : Nat)), _) =>
                        π.guard ((0 : Int) ≤ (0 : Int) ∧ (0 : Int) < (↑n119 : Int)) <|
                        π.unSome (a118) fun p121 =>
                        π.ld [.int .i64] ((p121.add (0 : Nat)).add (2 : Nat)) fun ((x122 : Int), _) =>
                        π.unSome (some (Addr.mk c (0 : Nat) none)) fun p123 =>
                        π.st (p123.add (2 : Nat)) [(Go.Value.bool (x116 != x122))] <|
                        again75 ((x76, x77, (a78, n79, c80), ()), (x81, t82, (a83, n84, c85), (a86, n87, c88), (a89, n90, c91), ()), ((a92, n93, c94), ()), (x95, ()), (IntKind.i64.wrap (x96 + (1 : Int)), ()), ())
                      )
                    )
                  )
                )
              ) (
                π.ret (Go.Value.tuple #[])
              )
          )
      )
  )
def ann_ckTable : Ann := { draws := [(26, { A := [0, 1, 2, 3, 4, 5, 6, 7, 8, 9], quiet := [3, 7] }), (27, { A := [0, 1, 2, 3, 4, 5, 6, 7, 8, 9, 10, 11, 12, 13, 14, 15, 16, 17, 18, 19, 20, 21, 22, 23, 24, 25, 26, 27, 28, 29, 30, 31, 32, 33, 34, 35, 36, 37, 38, 39, 40, 41, 42] })], join := [], loop := [(8, [(4, 44), (5, 139), (44, 34), (45, 3), (46, 3)]), (15, [(4, 44), (5, 139), (81, 136), (82, 3), (83, 3)]), (22, [(4, 44), (5, 139), (111, 137), (112, 3), (113, 3)])] }
def la_ckTable : LA := { ptr := [(4, 4, 0), (5, 5, 0), (7, 7, 0), (9, 9, 0), (11, 11, 0), (15, 5, 0), (19, 5, 2), (23, 5, 3), (27, 5, 4), (35, 5, 2), (43, 5, 2), (51, 7, 0), (55, 7, 3), (64, 7, 2), (70, 7, 4), (72, 7, 2), (80, 5, 3), (88, 9, 0), (92, 9, 4), (102, 9, 2), (110, 5, 4), (118, 11, 0), (122, 11, 4), (126, 11, 2), (130, 11, 3), (147, 4, 2), (157, 5, 2), (163, 4, 2)], ty := [(4, 44), (5, 139), (7, 97), (9, 142), (11, 144)] }
set_option maxRecDepth 100000 in
theorem eq_ckTable {W : Type} (π : Prims W) (c : Nat) (sv sl : Int) (sa : Option Addr) (san sac : Nat) (ti : Int) (tn : ByteArray) (ca : Option Addr) (can cac : Nat) (xa : Option Addr) (xan xac : Nat) (ka : Option Addr) (kan kac : Nat) : bodyL π Tryz.prog la_ckTable ann_ckTable (mkFr (maskA [] [.v (.pointer (some ⟨c, 0, none⟩)), .v (.agg #[.int .i64 sv, .int .i64 sl, .slice sa san sac]), .v (.agg #[.int .i64 ti, .string tn, .slice ca can cac, .slice xa xan xac, .slice ka kan kac])] 0) 177) Tryz.f113 (bodyOf Tryz.f113) (mkFr (List.map some [.v (.pointer (some ⟨c, 0, none⟩)), .v (.agg #[.int .i64 sv, .int .i64 sl, .slice sa san sac]), .v (.agg #[.int .i64 ti, .string tn, .slice ca can cac, .slice xa xan xac, .slice ka kan kac])]) 177) = vc_ckTable π c sv sl sa san sac ti tn ca can cac xa xan xac ka kan kac := by kernel_rfl
theorem ok_ckTable (c : Nat) (sv sl : Int) (sa : Option Addr) (san sac : Nat) (ti : Int) (tn : ByteArray) (ca : Option Addr) (can cac : Nat) (xa : Option Addr) (xan xac : Nat) (ka : Option Addr) (kan kac : Nat) (R : Value → PH → Prop) (s : PH) (h : vc_ckTable (RP Tryz.prog R) c sv sl sa san sac ti tn ca can cac xa xan xac ka kan kac s) : DCalls Tryz.prog 113 (List.map AV.val [.v (.pointer (some ⟨c, 0, none⟩)), .v (.agg #[.int .i64 sv, .int .i64 sl, .slice sa san sac]), .v (.agg #[.int .i64 ti, .string tn, .slice ca can cac, .slice xa xan xac, .slice ka kan kac])]).toArray s R :=
  calls_vcL (c := bodyOf Tryz.f113) (ann := ann_ckTable) la_ckTable (by kernel_rfl) Tryz.func113 rfl (by kernel_rfl) [.v (.pointer (some ⟨c, 0, none⟩)), .v (.agg #[.int .i64 sv, .int .i64 sl, .slice sa san sac]), .v (.agg #[.int .i64 ti, .string tn, .slice ca can cac, .slice xa xan xac, .slice ka kan kac])] [] (by rw [Tryz.ntmps113]; exact Nat.le_of_ble_eq_true rfl) (by kernel_rfl) (by rw [show Tryz.f113.ntmps = 177 from Tryz.ntmps113, eq_ckTable]; exact h)
/-- lintel/schema.Check -/
def vc_Check {W : Type} (π : Prims W) (sv sl : Int) (sa : Option Addr) (san sac : Nat) : W :=
  π.join [(true, [.int .i64, .int .i64, .slice]), (false, [.ptr])] (fun J0 =>
    π.nw (Obj.map #[] (0 : Nat)) fun r1 =>
    π.ite (decide (sv < (0 : Int))) (
      π.nw (Go.Obj.cells #[(Go.Value.int (IntKind.i64) (sl)), (Go.Value.map (some r1)), (Go.Value.bool (true))] (201 : Nat) ((0 : Nat), (0 : Nat))) fun r2 =>
      J0 ((sv, sl, (sa, san, sac), ()), (some (Addr.mk r2 (0 : Nat) none), ()), ())
    ) (
      π.ite (decide (sv > (1125899906842624 : Int))) (
        π.nw (Go.Obj.cells #[(Go.Value.int (IntKind.i64) (sl)), (Go.Value.map (some r1)), (Go.Value.bool (true))] (201 : Nat) ((0 : Nat), (0 : Nat))) fun r3 =>
        J0 ((sv, sl, (sa, san, sac), ()), (some (Addr.mk r3 (0 : Nat) none), ()), ())
      ) (
        π.ite (decide (sl < (0 : Int))) (
          π.nw (Go.Obj.cells #[(Go.Value.int (IntKind.i64) (sl)), (Go.Value.map (some r1)), (Go.Value.bool (true))] (201 : Nat) ((0 : Nat), (0 : Nat))) fun r4 =>
          J0 ((sv, sl, (sa, san, sac), ()), (some (Addr.mk r4 (0 : Nat) none), ()), ())
        ) (
          π.nw (Go.Obj.cells #[(Go.Value.int (IntKind.i64) (sl)), (Go.Value.map (some r1)), (Go.Value.bool (decide (sl > (1125899906842624 : Int))))] (201 : Nat) ((0 : Nat), (0 : Nat))) fun r5 =>
          J0 ((sv, sl, (sa, san, sac), ()), (some (Addr.mk r5 (0 : Nat) none), ()), ())
        )
      )
    )
  ) (fun (((x6 : Int), (x7 : Int), ((a8 : Option Addr), (n9 : Nat), (c10 : Nat)), _), (p11, _), _) =>
    π.call (111 : Nat) #[(Go.Value.pointer (p11)), (Go.Value.slice (a8) (n9) (c10)), (Go.Value.int (IntKind.i64) ((0 : Int))), (Go.Value.int (IntKind.i64) ((6 : Int))), (Go.Value.func (Fn.func (112 : Nat)) #[] #[])] (true, []) fun (_) =>
    π.loop [(true, [.int .i64, .int .i64, .slice]), (false, [.ptr]), (false, [.slice]), (false, [.int .i64]), (false, [.int .i64])] ((x6, x7, (a8, n9, c10), ()), (p11, ()), ((a8, n9, c10), ()), ((↑n9 : Int), ()), ((0 : Int), ()), ()) fun (((x13 : Int), (x14 : Int), ((a15 : Option Addr), (n16 : Nat), (c17 : Nat)), _), (p18, _), (((a19 : Option Addr), (n20 : Nat), (c21 : Nat)), _), ((x22 : Int), _), ((x23 : Int), _), _) again12 =>
      π.ite (decide (x23 < x22)) (
        π.guard ((0 : Int) ≤ x23 ∧ x23 < (↑n20 : Int)) <|
        π.unSome (a19) fun p24 =>
        π.ld [.int .i64, .str, .slice, .slice, .slice] (p24.add (x23.toNat * (5 : Nat))) fun ((x25 : Int), (t26 : ByteArray), ((a27 : Option Addr), (n28 : Nat), (c29 : Nat)), ((a30 : Option Addr), (n31 : Nat), (c32 : Nat)), ((a33 : Option Addr), (n34 : Nat), (c35 : Nat)), _) =>
        π.unSome (p18) fun p36 =>
        π.ld [.bool] (p36.add (2 : Nat)) fun ((b37 : Bool), _) =>
        π.ite (b37) (
          π.ret (Go.Value.int (IntKind.i64) ((100 : Int)))
        ) (
          π.call (113 : Nat) #[(Go.Value.pointer (p18)), (Go.Value.agg #[(Go.Value.int (IntKind.i64) (x13)), (Go.Value.int (IntKind.i64) (x14)), (Go.Value.slice (a15) (n16) (c17))]), (Go.Value.agg #[(Go.Value.int (IntKind.i64) (x25)), (Go.Value.string (t26)), (Go.Value.slice (a27) (n28) (c29)), (Go.Value.slice (a30) (n31) (c32)), (Go.Value.slice (a33) (n34) (c35))])] (true, []) fun (_) =>
          again12 ((x13, x14, (a15, n16, c17), ()), (p18, ()), ((a19, n20, c21), ()), (x22, ()), (IntKind.i64.wrap (x23 + (1 : Int)), ()), ())
        )
      ) (
        π.unSome (p18) fun p38 =>
        π.ld [.bool] (p38.add (2 : Nat)) fun ((b39 : Bool), _) =>
        π.ite (b39) (
          π.ret (Go.Value.int (IntKind.i64) ((100 : Int)))
        ) (
          π.ret (Go.Value.int (IntKind.i64) ((0 : Int)))
        )
      )
  )
def ann_Check : Ann := { draws := [], join := [(2, [(1, 44), (3, 198)])], loop := [(4, [(1, 44), (3, 198), (34, 42), (35, 3), (36, 3)])] }
def la_Check : LA := { ptr := [(1, 1, 0), (5, 5, 0), (6, 1, 1), (9, 1, 0), (13, 1, 0), (18, 1, 1), (23, 1, 1), (30, 1, 2), (33, 1, 2)], ty := [(1, 44), (5, 139)] }
set_option maxRecDepth 100000 in
theorem eq_Check {W : Type} (π : Prims W) (sv sl : Int) (sa : Option Addr) (san sac : Nat) : bodyL π Tryz.prog la_Check ann_Check (mkFr (maskA [] [.v (.agg #[.int .i64 sv, .int .i64 sl, .slice sa san sac])] 0) 53) Tryz.f80 (bodyOf Tryz.f80) (mkFr (List.map some [.v (.agg #[.int .i64 sv, .int .i64 sl, .slice sa san sac])]) 53) = vc_Check π sv sl sa san sac := by kernel_rfl
theorem ok_Check (sv sl : Int) (sa : Option Addr) (san sac : Nat) (R : Value → PH → Prop) (s : PH) (h : vc_Check (RP Tryz.prog R) sv sl sa san sac s) : DCalls Tryz.prog 80 (List.map AV.val [.v (.agg #[.int .i64 sv, .int .i64 sl, .slice sa san sac])]).toArray s R :=
  calls_vcL (c := bodyOf Tryz.f80) (ann := ann_Check) la_Check (by kernel_rfl) Tryz.func80 rfl (by kernel_rfl) [.v (.agg #[.int .i64 sv, .int .i64 sl, .slice sa san sac])] [] (by rw [Tryz.ntmps80]; exact Nat.le_of_ble_eq_true rfl) (by kernel_rfl) (by rw [show Tryz.f80.ntmps = 53 from Tryz.ntmps80, eq_Check]; exact h)
/-- lintel/schema.doubled -/
def vc_doubled {W : Type} (π : Prims W) (a : Option Addr) (an ac : Nat) : W :=
  π.nw (Obj.map #[] (0 : Nat)) fun r0 =>
  π.loop [(false, [.map]), (false, [.slice]), (false, [.int .i64]), (false, [.int .i64])] ((some r0, ()), ((a, an, ac), ()), ((↑an : Int), ()), ((0 : Int), ()), ()) fun (((m2 : Option Nat), _), (((a3 : Option Addr), (n4 : Nat), (c5 : Nat)), _), ((x6 : Int), _), ((x7 : Int), _), _) again1 =>
    π.ite (decide (x7 < x6)) (
      π.guard ((0 : Int) ≤ x7 ∧ x7 < (↑n4 : Int)) <|
      π.unSome (a3) fun p8 =>
      π.ld [.int .i64, .str, .int .i64, .int .i64, .int .i64, .int .i64, .str] (p8.add (x7.toNat * (7 : Nat))) fun ((x9 : Int), (t10 : ByteArray), (x11 : Int), (x12 : Int), (x13 : Int), (x14 : Int), (t15 : ByteArray), _) =>
      π.look (TypeDesc.string) (m2) (Go.Value.string (t10)) (Go.Value.bool (false)) (false, [.bool]) fun ((b17 : Bool), _) b16 =>
      π.ite (b17) (
        π.ret (Go.Value.bool (true))
      ) (
        π.mset (TypeDesc.string) (m2) (Go.Value.string (t10)) (Go.Value.bool (true)) <|
        again1 ((m2, ()), ((a3, n4, c5), ()), (x6, ()), (IntKind.i64.wrap (x7 + (1 : Int)), ()), ())
      )
    ) (
      π.ret (Go.Value.bool (false))
    )
def ann_doubled : Ann := { draws := [], join := [], loop := [(3, [(3, 279), (7, 34), (8, 3), (9, 3)])] }
def la_doubled : LA := { ptr := [(5, 5, 0), (14, 5, 1), (18, 5, 1)], ty := [(5, 97)] }
set_option maxRecDepth 100000 in
theorem eq_doubled {W : Type} (π : Prims W) (a : Option Addr) (an ac : Nat) : bodyL π Tryz.prog la_doubled ann_doubled (mkFr (maskA [] [.v (.slice a an ac)] 0) 21) Tryz.f168 (bodyOf Tryz.f168) (mkFr (List.map some [.v (.slice a an ac)]) 21) = vc_doubled π a an ac := by kernel_rfl
theorem ok_doubled (a : Option Addr) (an ac : Nat) (R : Value → PH → Prop) (s : PH) (h : vc_doubled (RP Tryz.prog R) a an ac s) : DCalls Tryz.prog 168 (List.map AV.val [.v (.slice a an ac)]).toArray s R :=
  calls_vcL (c := bodyOf Tryz.f168) (ann := ann_doubled) la_doubled (by kernel_rfl) Tryz.func168 rfl (by kernel_rfl) [.v (.slice a an ac)] [] (by rw [Tryz.ntmps168]; exact Nat.le_of_ble_eq_true rfl) (by kernel_rfl) (by rw [show Tryz.f168.ntmps = 21 from Tryz.ntmps168, eq_doubled]; exact h)
/-- lintel/schema.public -/
def vc_public {W : Type} (π : Prims W) (t : Addr) (name : ByteArray) : W :=
  π.unSome (some t) fun p0 =>
  π.ld [.slice] (p0.add (2 : Nat)) fun (((a1 : Option Addr), (n2 : Nat), (c3 : Nat)), _) =>
  π.call (169 : Nat) #[(Go.Value.slice (a1) (n2) (c3)), (Go.Value.string (name)), (Go.Value.func (Fn.func (145 : Nat)) #[] #[])] (false, [(false, [.int .i64])]) fun (((x4 : Int), _), _) =>
  π.ite (decide (x4 ≥ (0 : Int))) (
    π.unSome (some t) fun p5 =>
    π.ld [.slice] (p5.add (2 : Nat)) fun (((a6 : Option Addr), (n7 : Nat), (c8 : Nat)), _) =>
    π.guard ((0 : Int) ≤ x4 ∧ x4 < (↑n7 : Int)) <|
    π.unSome (a6) fun p9 =>
    π.ld [.int .i64] ((p9.add (x4.toNat * (7 : Nat))).add (3 : Nat)) fun ((x10 : Int), _) =>
    π.ite (x10 != (3 : Int)) (
      π.ret (Go.Value.int (IntKind.i64) ((-1 : Int)))
    ) (
      π.ret (Go.Value.int (IntKind.i64) (x4))
    )
  ) (
    π.ret (Go.Value.int (IntKind.i64) (x4))
  )
def ann_public : Ann := { draws := [], join := [], loop := [] }
def la_public : LA := { ptr := [], ty := [] }
set_option maxRecDepth 100000 in
theorem eq_public {W : Type} (π : Prims W) (t : Addr) (name : ByteArray) : bodyL π Tryz.prog la_public ann_public (mkFr (maskA [] [.v (.pointer (some t)), .v (.string name)] 0) 26) Tryz.f178 (bodyOf Tryz.f178) (mkFr (List.map some [.v (.pointer (some t)), .v (.string name)]) 26) = vc_public π t name := by kernel_rfl
theorem ok_public (t : Addr) (name : ByteArray) (R : Value → PH → Prop) (s : PH) (h : vc_public (RP Tryz.prog R) t name s) : DCalls Tryz.prog 178 (List.map AV.val [.v (.pointer (some t)), .v (.string name)]).toArray s R :=
  calls_vcL (c := bodyOf Tryz.f178) (ann := ann_public) la_public (by kernel_rfl) Tryz.func178 rfl (by kernel_rfl) [.v (.pointer (some t)), .v (.string name)] [] (by rw [Tryz.ntmps178]; exact Nat.le_of_ble_eq_true rfl) (by kernel_rfl) (by rw [show Tryz.f178.ntmps = 26 from Tryz.ntmps178, eq_public]; exact h)
/-- lintel/schema.columns$1 -/
def vc_colsX {W : Type} (π : Prims W) (xi : Int) (xn : ByteArray) (xc : Int) (xu : Bool) (xs : Int) (p : Nat) : W :=
  π.ld [.int .i64] (Addr.mk p (0 : Nat) none) fun ((x0 : Int), _) =>
  π.ret (Go.Value.bool (xc == x0))
def ann_colsX : Ann := { draws := [], join := [], loop := [] }
def la_colsX : LA := { ptr := [(2, 2, 0), (4, 2, 2)], ty := [(2, 142)] }
set_option maxRecDepth 100000 in
theorem eq_colsX {W : Type} (π : Prims W) (xi : Int) (xn : ByteArray) (xc : Int) (xu : Bool) (xs : Int) (p : Nat) : bodyL π Tryz.prog la_colsX ann_colsX (mkFr (maskA [] [.v (.agg #[.int .i64 xi, .string xn, .int .i64 xc, .bool xu, .int .i64 xs]), .v (.pointer (some ⟨p, 0, none⟩))] 0) 8) Tryz.f172 (bodyOf Tryz.f172) (mkFr (List.map some [.v (.agg #[.int .i64 xi, .string xn, .int .i64 xc, .bool xu, .int .i64 xs]), .v (.pointer (some ⟨p, 0, none⟩))]) 8) = vc_colsX π xi xn xc xu xs p := by kernel_rfl
theorem ok_colsX (xi : Int) (xn : ByteArray) (xc : Int) (xu : Bool) (xs : Int) (p : Nat) (R : Value → PH → Prop) (s : PH) (h : vc_colsX (RP Tryz.prog R) xi xn xc xu xs p s) : DCalls Tryz.prog 172 (List.map AV.val [.v (.agg #[.int .i64 xi, .string xn, .int .i64 xc, .bool xu, .int .i64 xs]), .v (.pointer (some ⟨p, 0, none⟩))]).toArray s R :=
  calls_vcL (c := bodyOf Tryz.f172) (ann := ann_colsX) la_colsX (by kernel_rfl) Tryz.func172 rfl (by kernel_rfl) [.v (.agg #[.int .i64 xi, .string xn, .int .i64 xc, .bool xu, .int .i64 xs]), .v (.pointer (some ⟨p, 0, none⟩))] [] (by rw [Tryz.ntmps172]; exact Nat.le_of_ble_eq_true rfl) (by kernel_rfl) (by rw [show Tryz.f172.ntmps = 8 from Tryz.ntmps172, eq_colsX]; exact h)
/-- lintel/schema.columns$2 -/
def vc_colsF {W : Type} (π : Prims W) (fi : Int) (fn : ByteArray) (fc fp fs : Int) (p : Nat) : W :=
  π.ld [.int .i64] (Addr.mk p (0 : Nat) none) fun ((x0 : Int), _) =>
  π.ret (Go.Value.bool (fc == x0))
def ann_colsF : Ann := { draws := [], join := [], loop := [] }
def la_colsF : LA := { ptr := [(2, 2, 0), (4, 2, 2)], ty := [(2, 144)] }
set_option maxRecDepth 100000 in
theorem eq_colsF {W : Type} (π : Prims W) (fi : Int) (fn : ByteArray) (fc fp fs : Int) (p : Nat) : bodyL π Tryz.prog la_colsF ann_colsF (mkFr (maskA [] [.v (.agg #[.int .i64 fi, .string fn, .int .i64 fc, .int .i64 fp, .int .i64 fs]), .v (.pointer (some ⟨p, 0, none⟩))] 0) 8) Tryz.f174 (bodyOf Tryz.f174) (mkFr (List.map some [.v (.agg #[.int .i64 fi, .string fn, .int .i64 fc, .int .i64 fp, .int .i64 fs]), .v (.pointer (some ⟨p, 0, none⟩))]) 8) = vc_colsF π fi fn fc fp fs p := by kernel_rfl
theorem ok_colsF (fi : Int) (fn : ByteArray) (fc fp fs : Int) (p : Nat) (R : Value → PH → Prop) (s : PH) (h : vc_colsF (RP Tryz.prog R) fi fn fc fp fs p s) : DCalls Tryz.prog 174 (List.map AV.val [.v (.agg #[.int .i64 fi, .string fn, .int .i64 fc, .int .i64 fp, .int .i64 fs]), .v (.pointer (some ⟨p, 0, none⟩))]).toArray s R :=
  calls_vcL (c := bodyOf Tryz.f174) (ann := ann_colsF) la_colsF (by kernel_rfl) Tryz.func174 rfl (by kernel_rfl) [.v (.agg #[.int .i64 fi, .string fn, .int .i64 fc, .int .i64 fp, .int .i64 fs]), .v (.pointer (some ⟨p, 0, none⟩))] [] (by rw [Tryz.ntmps174]; exact Nat.le_of_ble_eq_true rfl) (by kernel_rfl) (by rw [show Tryz.f174.ntmps = 8 from Tryz.ntmps174, eq_colsF]; exact h)
/-- slices.IndexFunc[[]lintel/api.Index,lintel/api.Index] -/
def vc_IndexFuncXc {W : Type} (π : Prims W) (a : Option Addr) (an ac : Nat) (p : Nat) : W :=
  π.loop [(false, [.int .i64]), (false, [.int .i64])] (((↑an : Int), ()), ((0 : Int), ()), ()) fun (((x1 : Int), _), ((x2 : Int), _), _) again0 =>
    π.ite (decide (x2 < x1)) (
      π.guard ((0 : Int) ≤ x2 ∧ x2 < (↑an : Int)) <|
      π.unSome (a) fun p3 =>
      π.ld [.int .i64, .str, .int .i64, .bool, .int .i64] (p3.add (x2.toNat * (5 : Nat))) fun ((x4 : Int), (t5 : ByteArray), (x6 : Int), (b7 : Bool), (x8 : Int), _) =>
      π.call (172 : Nat) #[(Go.Value.agg #[(Go.Value.int (IntKind.i64) (x4)), (Go.Value.string (t5)), (Go.Value.int (IntKind.i64) (x6)), (Go.Value.bool (b7)), (Go.Value.int (IntKind.i64) (x8))]), (Go.Value.pointer (some (Addr.mk p (0 : Nat) none)))] (false, [(false, [.bool])]) fun (((b9 : Bool), _), _) =>
      π.ite (b9) (
        π.ret (Go.Value.int (IntKind.i64) (x2))
      ) (
        again0 ((x1, ()), (IntKind.i64.wrap (x2 + (1 : Int)), ()), ())
      )
    ) (
      π.ret (Go.Value.int (IntKind.i64) ((-1 : Int)))
    )
def ann_IndexFuncXc : Ann := { draws := [], join := [], loop := [(2, [(7, 3), (8, 3)])] }
def la_IndexFuncXc : LA := { ptr := [], ty := [] }
set_option maxRecDepth 100000 in
theorem eq_IndexFuncXc {W : Type} (π : Prims W) (a : Option Addr) (an ac : Nat) (p : Nat) : bodyL π Tryz.prog la_IndexFuncXc ann_IndexFuncXc (mkFr (maskA [] [.v (.slice a an ac), .v (.func (.func 172) #[] #[.pointer (some ⟨p, 0, none⟩)])] 0) 19) Tryz.f82 (bodyOf Tryz.f82) (mkFr (List.map some [.v (.slice a an ac), .v (.func (.func 172) #[] #[.pointer (some ⟨p, 0, none⟩)])]) 19) = vc_IndexFuncXc π a an ac p := by kernel_rfl
theorem ok_IndexFuncXc (a : Option Addr) (an ac : Nat) (p : Nat) (R : Value → PH → Prop) (s : PH) (h : vc_IndexFuncXc (RP Tryz.prog R) a an ac p s) : DCalls Tryz.prog 82 (List.map AV.val [.v (.slice a an ac), .v (.func (.func 172) #[] #[.pointer (some ⟨p, 0, none⟩)])]).toArray s R :=
  calls_vcL (c := bodyOf Tryz.f82) (ann := ann_IndexFuncXc) la_IndexFuncXc (by kernel_rfl) Tryz.func82 rfl (by kernel_rfl) [.v (.slice a an ac), .v (.func (.func 172) #[] #[.pointer (some ⟨p, 0, none⟩)])] [] (by rw [Tryz.ntmps82]; exact Nat.le_of_ble_eq_true rfl) (by kernel_rfl) (by rw [show Tryz.f82.ntmps = 19 from Tryz.ntmps82, eq_IndexFuncXc]; exact h)
/-- slices.IndexFunc[[]lintel/api.Foreign,lintel/api.Foreign] -/
def vc_IndexFuncFc {W : Type} (π : Prims W) (a : Option Addr) (an ac : Nat) (p : Nat) : W :=
  π.loop [(false, [.int .i64]), (false, [.int .i64])] (((↑an : Int), ()), ((0 : Int), ()), ()) fun (((x1 : Int), _), ((x2 : Int), _), _) again0 =>
    π.ite (decide (x2 < x1)) (
      π.guard ((0 : Int) ≤ x2 ∧ x2 < (↑an : Int)) <|
      π.unSome (a) fun p3 =>
      π.ld [.int .i64, .str, .int .i64, .int .i64, .int .i64] (p3.add (x2.toNat * (5 : Nat))) fun ((x4 : Int), (t5 : ByteArray), (x6 : Int), (x7 : Int), (x8 : Int), _) =>
      π.call (174 : Nat) #[(Go.Value.agg #[(Go.Value.int (IntKind.i64) (x4)), (Go.Value.string (t5)), (Go.Value.int (IntKind.i64) (x6)), (Go.Value.int (IntKind.i64) (x7)), (Go.Value.int (IntKind.i64) (x8))]), (Go.Value.pointer (some (Addr.mk p (0 : Nat) none)))] (false, [(false, [.bool])]) fun (((b9 : Bool), _), _) =>
      π.ite (b9) (
        π.ret (Go.Value.int (IntKind.i64) (x2))
      ) (
        again0 ((x1, ()), (IntKind.i64.wrap (x2 + (1 : Int)), ()), ())
      )
    ) (
      π.ret (Go.Value.int (IntKind.i64) ((-1 : Int)))
    )
def ann_IndexFuncFc : Ann := { draws := [], join := [], loop := [(2, [(7, 3), (8, 3)])] }
def la_IndexFuncFc : LA := { ptr := [], ty := [] }
set_option maxRecDepth 100000 in
theorem eq_IndexFuncFc {W : Type} (π : Prims W) (a : Option Addr) (an ac : Nat) (p : Nat) : bodyL π Tryz.prog la_IndexFuncFc ann_IndexFuncFc (mkFr (maskA [] [.v (.slice a an ac), .v (.func (.func 174) #[] #[.pointer (some ⟨p, 0, none⟩)])] 0) 19) Tryz.f86 (bodyOf Tryz.f86) (mkFr (List.map some [.v (.slice a an ac), .v (.func (.func 174) #[] #[.pointer (some ⟨p, 0, none⟩)])]) 19) = vc_IndexFuncFc π a an ac p := by kernel_rfl
theorem ok_IndexFuncFc (a : Option Addr) (an ac : Nat) (p : Nat) (R : Value → PH → Prop) (s : PH) (h : vc_IndexFuncFc (RP Tryz.prog R) a an ac p s) : DCalls Tryz.prog 86 (List.map AV.val [.v (.slice a an ac), .v (.func (.func 174) #[] #[.pointer (some ⟨p, 0, none⟩)])]).toArray s R :=
  calls_vcL (c := bodyOf Tryz.f86) (ann := ann_IndexFuncFc) la_IndexFuncFc (by kernel_rfl) Tryz.func86 rfl (by kernel_rfl) [.v (.slice a an ac), .v (.func (.func 174) #[] #[.pointer (some ⟨p, 0, none⟩)])] [] (by rw [Tryz.ntmps86]; exact Nat.le_of_ble_eq_true rfl) (by kernel_rfl) (by rw [show Tryz.f86.ntmps = 19 from Tryz.ntmps86, eq_IndexFuncFc]; exact h)
/-- slices.ContainsFunc[[]lintel/api.Index,lintel/api.Index] -/
def vc_ContainsX {W : Type} (π : Prims W) (a : Option Addr) (an ac : Nat) (p : Nat) : W :=
  π.call (82 : Nat) #[(Go.Value.slice (a) (an) (ac)), (Go.Value.func (Fn.func (172 : Nat)) #[] #[(Go.Value.pointer (some (Addr.mk p (0 : Nat) none)))])] (false, [(false, [.int .i64])]) fun (((x0 : Int), _), _) =>
  π.ret (Go.Value.bool (decide (x0 ≥ (0 : Int))))
def ann_ContainsX : Ann := { draws := [], join := [], loop := [] }
def la_ContainsX : LA := { ptr := [], ty := [] }
set_option maxRecDepth 100000 in
theorem eq_ContainsX {W : Type} (π : Prims W) (a : Option Addr) (an ac : Nat) (p : Nat) : bodyL π Tryz.prog la_ContainsX ann_ContainsX (mkFr (maskA [] [.v (.slice a an ac), .v (.func (.func 172) #[] #[.pointer (some ⟨p, 0, none⟩)])] 0) 9) Tryz.f171 (bodyOf Tryz.f171) (mkFr (List.map some [.v (.slice a an ac), .v (.func (.func 172) #[] #[.pointer (some ⟨p, 0, none⟩)])]) 9) = vc_ContainsX π a an ac p := by kernel_rfl
theorem ok_ContainsX (a : Option Addr) (an ac : Nat) (p : Nat) (R : Value → PH → Prop) (s : PH) (h : vc_ContainsX (RP Tryz.prog R) a an ac p s) : DCalls Tryz.prog 171 (List.map AV.val [.v (.slice a an ac), .v (.func (.func 172) #[] #[.pointer (some ⟨p, 0, none⟩)])]).toArray s R :=
  calls_vcL (c := bodyOf Tryz.f171) (ann := ann_ContainsX) la_ContainsX (by kernel_rfl) Tryz.func171 rfl (by kernel_rfl) [.v (.slice a an ac), .v (.func (.func 172) #[] #[.pointer (some ⟨p, 0, none⟩)])] [] (by rw [Tryz.ntmps171]; exact Nat.le_of_ble_eq_true rfl) (by kernel_rfl) (by rw [show Tryz.f171.ntmps = 9 from Tryz.ntmps171, eq_ContainsX]; exact h)
/-- slices.ContainsFunc[[]lintel/api.Foreign,lintel/api.Foreign] -/
def vc_ContainsF {W : Type} (π : Prims W) (a : Option Addr) (an ac : Nat) (p : Nat) : W :=
  π.call (86 : Nat) #[(Go.Value.slice (a) (an) (ac)), (Go.Value.func (Fn.func (174 : Nat)) #[] #[(Go.Value.pointer (some (Addr.mk p (0 : Nat) none)))])] (false, [(false, [.int .i64])]) fun (((x0 : Int), _), _) =>
  π.ret (Go.Value.bool (decide (x0 ≥ (0 : Int))))
def ann_ContainsF : Ann := { draws := [], join := [], loop := [] }
def la_ContainsF : LA := { ptr := [], ty := [] }
set_option maxRecDepth 100000 in
theorem eq_ContainsF {W : Type} (π : Prims W) (a : Option Addr) (an ac : Nat) (p : Nat) : bodyL π Tryz.prog la_ContainsF ann_ContainsF (mkFr (maskA [] [.v (.slice a an ac), .v (.func (.func 174) #[] #[.pointer (some ⟨p, 0, none⟩)])] 0) 9) Tryz.f173 (bodyOf Tryz.f173) (mkFr (List.map some [.v (.slice a an ac), .v (.func (.func 174) #[] #[.pointer (some ⟨p, 0, none⟩)])]) 9) = vc_ContainsF π a an ac p := by kernel_rfl
theorem ok_ContainsF (a : Option Addr) (an ac : Nat) (p : Nat) (R : Value → PH → Prop) (s : PH) (h : vc_ContainsF (RP Tryz.prog R) a an ac p s) : DCalls Tryz.prog 173 (List.map AV.val [.v (.slice a an ac), .v (.func (.func 174) #[] #[.pointer (some ⟨p, 0, none⟩)])]).toArray s R :=
  calls_vcL (c := bodyOf Tryz.f173) (ann := ann_ContainsF) la_ContainsF (by kernel_rfl) Tryz.func173 rfl (by kernel_rfl) [.v (.slice a an ac), .v (.func (.func 174) #[] #[.pointer (some ⟨p, 0, none⟩)])] [] (by rw [Tryz.ntmps173]; exact Nat.le_of_ble_eq_true rfl) (by kernel_rfl) (by rw [show Tryz.f173.ntmps = 9 from Tryz.ntmps173, eq_ContainsF]; exact h)
/-- lintel/schema.columns$3 -/
def vc_stateC {W : Type} (π : Prims W) (a : Addr) : W :=
  π.unSome (some a) fun p0 =>
  π.ret (Go.Value.pointer (some (p0.add (3 : Nat))))
def ann_stateC : Ann := { draws := [], join := [], loop := [] }
def la_stateC : LA := { ptr := [], ty := [] }
set_option maxRecDepth 100000 in
theorem eq_stateC {W : Type} (π : Prims W) (a : Addr) : bodyL π Tryz.prog la_stateC ann_stateC (mkFr (maskA [] [.v (.pointer (some a))] 0) 6) Tryz.f176 (bodyOf Tryz.f176) (mkFr (List.map some [.v (.pointer (some a))]) 6) = vc_stateC π a := by kernel_rfl
theorem ok_stateC (a : Addr) (R : Value → PH → Prop) (s : PH) (h : vc_stateC (RP Tryz.prog R) a s) : DCalls Tryz.prog 176 (List.map AV.val [.v (.pointer (some a))]).toArray s R :=
  calls_vcL (c := bodyOf Tryz.f176) (ann := ann_stateC) la_stateC (by kernel_rfl) Tryz.func176 rfl (by kernel_rfl) [.v (.pointer (some a))] [] (by rw [Tryz.ntmps176]; exact Nat.le_of_ble_eq_true rfl) (by kernel_rfl) (by rw [show Tryz.f176.ntmps = 6 from Tryz.ntmps176, eq_stateC]; exact h)
/-- lintel/schema.indexes$1 -/
def vc_stateX {W : Type} (π : Prims W) (a : Addr) : W :=
  π.unSome (some a) fun p0 =>
  π.ret (Go.Value.pointer (some (p0.add (4 : Nat))))
def ann_stateX : Ann := { draws := [], join := [], loop := [] }
def la_stateX : LA := { ptr := [], ty := [] }
set_option maxRecDepth 100000 in
theorem eq_stateX {W : Type} (π : Prims W) (a : Addr) : bodyL π Tryz.prog la_stateX ann_stateX (mkFr (maskA [] [.v (.pointer (some a))] 0) 6) Tryz.f180 (bodyOf Tryz.f180) (mkFr (List.map some [.v (.pointer (some a))]) 6) = vc_stateX π a := by kernel_rfl
theorem ok_stateX (a : Addr) (R : Value → PH → Prop) (s : PH) (h : vc_stateX (RP Tryz.prog R) a s) : DCalls Tryz.prog 180 (List.map AV.val [.v (.pointer (some a))]).toArray s R :=
  calls_vcL (c := bodyOf Tryz.f180) (ann := ann_stateX) la_stateX (by kernel_rfl) Tryz.func180 rfl (by kernel_rfl) [.v (.pointer (some a))] [] (by rw [Tryz.ntmps180]; exact Nat.le_of_ble_eq_true rfl) (by kernel_rfl) (by rw [show Tryz.f180.ntmps = 6 from Tryz.ntmps180, eq_stateX]; exact h)
/-- lintel/schema.foreigns$1 -/
def vc_stateF {W : Type} (π : Prims W) (a : Addr) : W :=
  π.unSome (some a) fun p0 =>
  π.ret (Go.Value.pointer (some (p0.add (4 : Nat))))
def ann_stateF : Ann := { draws := [], join := [], loop := [] }
def la_stateF : LA := { ptr := [], ty := [] }
set_option maxRecDepth 100000 in
theorem eq_stateF {W : Type} (π : Prims W) (a : Addr) : bodyL π Tryz.prog la_stateF ann_stateF (mkFr (maskA [] [.v (.pointer (some a))] 0) 6) Tryz.f183 (bodyOf Tryz.f183) (mkFr (List.map some [.v (.pointer (some a))]) 6) = vc_stateF π a := by kernel_rfl
theorem ok_stateF (a : Addr) (R : Value → PH → Prop) (s : PH) (h : vc_stateF (RP Tryz.prog R) a s) : DCalls Tryz.prog 183 (List.map AV.val [.v (.pointer (some a))]).toArray s R :=
  calls_vcL (c := bodyOf Tryz.f183) (ann := ann_stateF) la_stateF (by kernel_rfl) Tryz.func183 rfl (by kernel_rfl) [.v (.pointer (some a))] [] (by rw [Tryz.ntmps183]; exact Nat.le_of_ble_eq_true rfl) (by kernel_rfl) (by rw [show Tryz.f183.ntmps = 6 from Tryz.ntmps183, eq_stateF]; exact h)
/-- slices.Delete[[]lintel/api.Column,lintel/api.Column] -/
def vc_DeleteC {W : Type} (π : Prims W) (a : Option Addr) (an ac : Nat) (i j : Int) : W :=
  π.guard ((0 : Int) ≤ i ∧ i ≤ j ∧ j ≤ (↑an : Int) ∧ (↑an : Int) ≤ (↑ac : Int)) <|
  π.ite (i == j) (
    π.ret (Go.Value.slice (a) (an) (ac))
  ) (
    π.guard ((0 : Int) ≤ (0 : Int) ∧ (0 : Int) ≤ i ∧ i ≤ (↑ac : Int)) <|
    π.guard ((0 : Int) ≤ j ∧ j ≤ (↑an : Int) ∧ (↑an : Int) ≤ (↑ac : Int)) <|
    π.app (97 : Nat) (7 : Nat) (72 : Nat) [(Go.Value.int (IntKind.i64) ((0 : Int))), (Go.Value.string (ByteArray.mk #[])), (Go.Value.int (IntKind.i64) ((0 : Int))), (Go.Value.int (IntKind.i64) ((0 : Int))), (Go.Value.int (IntKind.i64) ((0 : Int))), (Go.Value.int (IntKind.i64) ((0 : Int))), (Go.Value.string (ByteArray.mk #[]))] (if ac = (0 : Nat) then a else Option.map (fun x => x.add (0 : Nat)) a) (i.toNat - (0 : Nat)) (ac - (0 : Nat)) (Src.sl (if ac = j.toNat then a else Option.map (fun x => x.add (j.toNat * (7 : Nat))) a) ((↑an : Int).toNat - j.toNat)) fun a0 n1 c2 =>
    π.guard ((0 : Int) ≤ (↑n1 : Int) ∧ (↑n1 : Int) ≤ (↑an : Int) ∧ (↑an : Int) ≤ (↑c2 : Int)) <|
    π.clr [(Go.Value.int (IntKind.i64) ((0 : Int))), (Go.Value.string (ByteArray.mk #[])), (Go.Value.int (IntKind.i64) ((0 : Int))), (Go.Value.int (IntKind.i64) ((0 : Int))), (Go.Value.int (IntKind.i64) ((0 : Int))), (Go.Value.int (IntKind.i64) ((0 : Int))), (Go.Value.string (ByteArray.mk #[]))] (if c2 = (↑n1 : Int).toNat then a0 else Option.map (fun x => x.add ((↑n1 : Int).toNat * (7 : Nat))) a0) ((↑an : Int).toNat - (↑n1 : Int).toNat) <|
    π.ret (Go.Value.slice (a0) (n1) (c2))
  )
def ann_DeleteC : Ann := { draws := [(5, { A := [0, 1, 2, 3, 4, 5] })], join := [], loop := [] }
def la_DeleteC : LA := { ptr := [], ty := [] }
set_option maxRecDepth 100000 in
theorem eq_DeleteC {W : Type} (π : Prims W) (a : Option Addr) (an ac : Nat) (i j : Int) : bodyL π Tryz.prog la_DeleteC ann_DeleteC (mkFr (maskA [0] [.v (.slice a an ac), .v (.int .i64 i), .v (.int .i64 j)] 0) 33) Tryz.f194 (bodyOf Tryz.f194) (mkFr (List.map some [.v (.slice a an ac), .v (.int .i64 i), .v (.int .i64 j)]) 33) = vc_DeleteC π a an ac i j := by kernel_rfl
theorem ok_DeleteC (a : Option Addr) (an ac : Nat) (i j : Int) (R : Value → PH → Prop) (s : PH) (h : vc_DeleteC (RP Tryz.prog R) a an ac i j s) : DCalls Tryz.prog 194 (List.map AV.val [.v (.slice a an ac), .v (.int .i64 i), .v (.int .i64 j)]).toArray s R :=
  calls_vcL (c := bodyOf Tryz.f194) (ann := ann_DeleteC) la_DeleteC (by kernel_rfl) Tryz.func194 rfl (by kernel_rfl) [.v (.slice a an ac), .v (.int .i64 i), .v (.int .i64 j)] [0] (by rw [Tryz.ntmps194]; exact Nat.le_of_ble_eq_true rfl) (by kernel_rfl) (by rw [show Tryz.f194.ntmps = 33 from Tryz.ntmps194, eq_DeleteC]; exact h)
/-- slices.Delete[[]lintel/api.Index,lintel/api.Index] -/
def vc_DeleteX {W : Type} (π : Prims W) (a : Option Addr) (an ac : Nat) (i j : Int) : W :=
  π.guard ((0 : Int) ≤ i ∧ i ≤ j ∧ j ≤ (↑an : Int) ∧ (↑an : Int) ≤ (↑ac : Int)) <|
  π.ite (i == j) (
    π.ret (Go.Value.slice (a) (an) (ac))
  ) (
    π.guard ((0 : Int) ≤ (0 : Int) ∧ (0 : Int) ≤ i ∧ i ≤ (↑ac : Int)) <|
    π.guard ((0 : Int) ≤ j ∧ j ≤ (↑an : Int) ∧ (↑an : Int) ≤ (↑ac : Int)) <|
    π.app (142 : Nat) (5 : Nat) (48 : Nat) [(Go.Value.int (IntKind.i64) ((0 : Int))), (Go.Value.string (ByteArray.mk #[])), (Go.Value.int (IntKind.i64) ((0 : Int))), (Go.Value.bool (false)), (Go.Value.int (IntKind.i64) ((0 : Int)))] (if ac = (0 : Nat) then a else Option.map (fun x => x.add (0 : Nat)) a) (i.toNat - (0 : Nat)) (ac - (0 : Nat)) (Src.sl (if ac = j.toNat then a else Option.map (fun x => x.add (j.toNat * (5 : Nat))) a) ((↑an : Int).toNat - j.toNat)) fun a0 n1 c2 =>
    π.guard ((0 : Int) ≤ (↑n1 : Int) ∧ (↑n1 : Int) ≤ (↑an : Int) ∧ (↑an : Int) ≤ (↑c2 : Int)) <|
    π.clr [(Go.Value.int (IntKind.i64) ((0 : Int))), (Go.Value.string (ByteArray.mk #[])), (Go.Value.int (IntKind.i64) ((0 : Int))), (Go.Value.bool (false)), (Go.Value.int (IntKind.i64) ((0 : Int)))] (if c2 = (↑n1 : Int).toNat then a0 else Option.map (fun x => x.add ((↑n1 : Int).toNat * (5 : Nat))) a0) ((↑an : Int).toNat - (↑n1 : Int).toNat) <|
    π.ret (Go.Value.slice (a0) (n1) (c2))
  )
def ann_DeleteX : Ann := { draws := [(5, { A := [0, 1, 2, 3, 4, 5] })], join := [], loop := [] }
def la_DeleteX : LA := { ptr := [], ty := [] }
set_option maxRecDepth 100000 in
theorem eq_DeleteX {W : Type} (π : Prims W) (a : Option Addr) (an ac : Nat) (i j : Int) : bodyL π Tryz.prog la_DeleteX ann_DeleteX (mkFr (maskA [0] [.v (.slice a an ac), .v (.int .i64 i), .v (.int .i64 j)] 0) 33) Tryz.f196 (bodyOf Tryz.f196) (mkFr (List.map some [.v (.slice a an ac), .v (.int .i64 i), .v (.int .i64 j)]) 33) = vc_DeleteX π a an ac i j := by kernel_rfl
theorem ok_DeleteX (a : Option Addr) (an ac : Nat) (i j : Int) (R : Value → PH → Prop) (s : PH) (h : vc_DeleteX (RP Tryz.prog R) a an ac i j s) : DCalls Tryz.prog 196 (List.map AV.val [.v (.slice a an ac), .v (.int .i64 i), .v (.int .i64 j)]).toArray s R :=
  calls_vcL (c := bodyOf Tryz.f196) (ann := ann_DeleteX) la_DeleteX (by kernel_rfl) Tryz.func196 rfl (by kernel_rfl) [.v (.slice a an ac), .v (.int .i64 i), .v (.int .i64 j)] [0] (by rw [Tryz.ntmps196]; exact Nat.le_of_ble_eq_true rfl) (by kernel_rfl) (by rw [show Tryz.f196.ntmps = 33 from Tryz.ntmps196, eq_DeleteX]; exact h)
/-- slices.Delete[[]lintel/api.Foreign,lintel/api.Foreign] -/
def vc_DeleteF {W : Type} (π : Prims W) (a : Option Addr) (an ac : Nat) (i j : Int) : W :=
  π.guard ((0 : Int) ≤ i ∧ i ≤ j ∧ j ≤ (↑an : Int) ∧ (↑an : Int) ≤ (↑ac : Int)) <|
  π.ite (i == j) (
    π.ret (Go.Value.slice (a) (an) (ac))
  ) (
    π.guard ((0 : Int) ≤ (0 : Int) ∧ (0 : Int) ≤ i ∧ i ≤ (↑ac : Int)) <|
    π.guard ((0 : Int) ≤ j ∧ j ≤ (↑an : Int) ∧ (↑an : Int) ≤ (↑ac : Int)) <|
    π.app (144 : Nat) (5 : Nat) (48 : Nat) [(Go.Value.int (IntKind.i64) ((0 : Int))), (Go.Value.string (ByteArray.mk #[])), (Go.Value.int (IntKind.i64) ((0 : Int))), (Go.Value.int (IntKind.i64) ((0 : Int))), (Go.Value.int (IntKind.i64) ((0 : Int)))] (if ac = (0 : Nat) then a else Option.map (fun x => x.add (0 : Nat)) a) (i.toNat - (0 : Nat)) (ac - (0 : Nat)) (Src.sl (if ac = j.toNat then a else Option.map (fun x => x.add (j.toNat * (5 : Nat))) a) ((↑an : Int).toNat - j.toNat)) fun a0 n1 c2 =>
    π.guard ((0 : Int) ≤ (↑n1 : Int) ∧ (↑n1 : Int) ≤ (↑an : Int) ∧ (↑an : Int) ≤ (↑c2 : Int)) <|
    π.clr [(Go.Value.int (IntKind.i64) ((0 : Int))), (Go.Value.string (ByteArray.mk #[])), (Go.Value.int (IntKind.i64) ((0 : Int))), (Go.Value.int (IntKind.i64) ((0 : Int))), (Go.Value.int (IntKind.i64) ((0 : Int)))] (if c2 = (↑n1 : Int).toNat then a0 else Option.map (fun x => x.add ((↑n1 : Int).toNat * (5 : Nat))) a0) ((↑an : Int).toNat - (↑n1 : Int).toNat) <|
    π.ret (Go.Value.slice (a0) (n1) (c2))
  )
def ann_DeleteF : Ann := { draws := [(5, { A := [0, 1, 2, 3, 4, 5] })], join := [], loop := [] }
def la_DeleteF : LA := { ptr := [], ty := [] }
set_option maxRecDepth 100000 in
theorem eq_DeleteF {W : Type} (π : Prims W) (a : Option Addr) (an ac : Nat) (i j : Int) : bodyL π Tryz.prog la_DeleteF ann_DeleteF (mkFr (maskA [0] [.v (.slice a an ac), .v (.int .i64 i), .v (.int .i64 j)] 0) 33) Tryz.f198 (bodyOf Tryz.f198) (mkFr (List.map some [.v (.slice a an ac), .v (.int .i64 i), .v (.int .i64 j)]) 33) = vc_DeleteF π a an ac i j := by kernel_rfl
theorem ok_DeleteF (a : Option Addr) (an ac : Nat) (i j : Int) (R : Value → PH → Prop) (s : PH) (h : vc_DeleteF (RP Tryz.prog R) a an ac i j s) : DCalls Tryz.prog 198 (List.map AV.val [.v (.slice a an ac), .v (.int .i64 i), .v (.int .i64 j)]).toArray s R :=
  calls_vcL (c := bodyOf Tryz.f198) (ann := ann_DeleteF) la_DeleteF (by kernel_rfl) Tryz.func198 rfl (by kernel_rfl) [.v (.slice a an ac), .v (.int .i64 i), .v (.int .i64 j)] [0] (by rw [Tryz.ntmps198]; exact Nat.le_of_ble_eq_true rfl) (by kernel_rfl) (by rw [show Tryz.f198.ntmps = 33 from Tryz.ntmps198, eq_DeleteF]; exact h)
/-- lintel/schema.place[lintel/api.Column] -/
def vc_placeC {W : Type} (π : Prims W) (l : Addr) (i state : Int) : W :=
  π.ite (state == (0 : Int)) (
    π.unSome (some l) fun p0 =>
    π.ld [.slice] (p0) fun (((a1 : Option Addr), (n2 : Nat), (c3 : Nat)), _) =>
    π.call (194 : Nat) #[(Go.Value.slice (a1) (n2) (c3)), (Go.Value.int (IntKind.i64) (i)), (Go.Value.int (IntKind.i64) (IntKind.i64.wrap (i + (1 : Int))))] (false, [(false, [.slice])]) fun ((((a4 : Option Addr), (n5 : Nat), (c6 : Nat)), _), _) =>
    π.unSome (some l) fun p7 =>
    π.st (p7) [(Go.Value.slice (a4) (n5) (c6))] <|
    π.ret (Go.Value.tuple #[])
  ) (
    π.unSome (some l) fun p8 =>
    π.ld [.slice] (p8) fun (((a9 : Option Addr), (n10 : Nat), (c11 : Nat)), _) =>
    π.guard ((0 : Int) ≤ i ∧ i < (↑n10 : Int)) <|
    π.unSome (a9) fun p12 =>
    π.call (176 : Nat) #[(Go.Value.pointer (some (p12.add (i.toNat * (7 : Nat)))))] (false, [(false, [.ptr])]) fun ((p13, _), _) =>
    π.unSome (p13) fun p14 =>
    π.st (p14) [(Go.Value.int (IntKind.i64) (state))] <|
    π.ret (Go.Value.tuple #[])
  )
def ann_placeC : Ann := { draws := [], join := [], loop := [] }
def la_placeC : LA := { ptr := [], ty := [] }
set_option maxRecDepth 100000 in
theorem eq_placeC {W : Type} (π : Prims W) (l : Addr) (i state : Int) : bodyL π Tryz.prog la_placeC ann_placeC (mkFr (maskA [] [.v (.pointer (some l)), .v (.int .i64 i), .v (.int .i64 state), .v (.func (.func 176) #[] #[])] 0) 28) Tryz.f175 (bodyOf Tryz.f175) (mkFr (List.map some [.v (.pointer (some l)), .v (.int .i64 i), .v (.int .i64 state), .v (.func (.func 176) #[] #[])]) 28) = vc_placeC π l i state := by kernel_rfl
theorem ok_placeC (l : Addr) (i state : Int) (R : Value → PH → Prop) (s : PH) (h : vc_placeC (RP Tryz.prog R) l i state s) : DCalls Tryz.prog 175 (List.map AV.val [.v (.pointer (some l)), .v (.int .i64 i), .v (.int .i64 state), .v (.func (.func 176) #[] #[])]).toArray s R :=
  calls_vcL (c := bodyOf Tryz.f175) (ann := ann_placeC) la_placeC (by kernel_rfl) Tryz.func175 rfl (by kernel_rfl) [.v (.pointer (some l)), .v (.int .i64 i), .v (.int .i64 state), .v (.func (.func 176) #[] #[])] [] (by rw [Tryz.ntmps175]; exact Nat.le_of_ble_eq_true rfl) (by kernel_rfl) (by rw [show Tryz.f175.ntmps = 28 from Tryz.ntmps175, eq_placeC]; exact h)
/-- lintel/schema.place[lintel/api.Index] -/
def vc_placeX {W : Type} (π : Prims W) (l : Addr) (i state : Int) : W :=
  π.ite (state == (0 : Int)) (
    π.unSome (some l) fun p0 =>
    π.ld [.slice] (p0) fun (((a1 : Option Addr), (n2 : Nat), (c3 : Nat)), _) =>
    π.call (196 : Nat) #[(Go.Value.slice (a1) (n2) (c3)), (Go.Value.int (IntKind.i64) (i)), (Go.Value.int (IntKind.i64) (IntKind.i64.wrap (i + (1 : Int))))] (false, [(false, [.slice])]) fun ((((a4 : Option Addr), (n5 : Nat), (c6 : Nat)), _), _) =>
    π.unSome (some l) fun p7 =>
    π.st (p7) [(Go.Value.slice (a4) (n5) (c6))] <|
    π.ret (Go.Value.tuple #[])
  ) (
    π.unSome (some l) fun p8 =>
    π.ld [.slice] (p8) fun (((a9 : Option Addr), (n10 : Nat), (c11 : Nat)), _) =>
    π.guard ((0 : Int) ≤ i ∧ i < (↑n10 : Int)) <|
    π.unSome (a9) fun p12 =>
    π.call (180 : Nat) #[(Go.Value.pointer (some (p12.add (i.toNat * (5 : Nat)))))] (false, [(false, [.ptr])]) fun ((p13, _), _) =>
    π.unSome (p13) fun p14 =>
    π.st (p14) [(Go.Value.int (IntKind.i64) (state))] <|
    π.ret (Go.Value.tuple #[])
  )
def ann_placeX : Ann := { draws := [], join := [], loop := [] }
def la_placeX : LA := { ptr := [], ty := [] }
set_option maxRecDepth 100000 in
theorem eq_placeX {W : Type} (π : Prims W) (l : Addr) (i state : Int) : bodyL π Tryz.prog la_placeX ann_placeX (mkFr (maskA [] [.v (.pointer (some l)), .v (.int .i64 i), .v (.int .i64 state), .v (.func (.func 180) #[] #[])] 0) 28) Tryz.f179 (bodyOf Tryz.f179) (mkFr (List.map some [.v (.pointer (some l)), .v (.int .i64 i), .v (.int .i64 state), .v (.func (.func 180) #[] #[])]) 28) = vc_placeX π l i state := by kernel_rfl
theorem ok_placeX (l : Addr) (i state : Int) (R : Value → PH → Prop) (s : PH) (h : vc_placeX (RP Tryz.prog R) l i state s) : DCalls Tryz.prog 179 (List.map AV.val [.v (.pointer (some l)), .v (.int .i64 i), .v (.int .i64 state), .v (.func (.func 180) #[] #[])]).toArray s R :=
  calls_vcL (c := bodyOf Tryz.f179) (ann := ann_placeX) la_placeX (by kernel_rfl) Tryz.func179 rfl (by kernel_rfl) [.v (.pointer (some l)), .v (.int .i64 i), .v (.int .i64 state), .v (.func (.func 180) #[] #[])] [] (by rw [Tryz.ntmps179]; exact Nat.le_of_ble_eq_true rfl) (by kernel_rfl) (by rw [show Tryz.f179.ntmps = 28 from Tryz.ntmps179, eq_placeX]; exact h)
/-- lintel/schema.place[lintel/api.Foreign] -/
def vc_placeF {W : Type} (π : Prims W) (l : Addr) (i state : Int) : W :=
  π.ite (state == (0 : Int)) (
    π.unSome (some l) fun p0 =>
    π.ld [.slice] (p0) fun (((a1 : Option Addr), (n2 : Nat), (c3 : Nat)), _) =>
    π.call (198 : Nat) #[(Go.Value.slice (a1) (n2) (c3)), (Go.Value.int (IntKind.i64) (i)), (Go.Value.int (IntKind.i64) (IntKind.i64.wrap (i + (1 : Int))))] (false, [(false, [.slice])]) fun ((((a4 : Option Addr), (n5 : Nat), (c6 : Nat)), _), _) =>
    π.unSome (some l) fun p7 =>
    π.st (p7) [(Go.Value.slice (a4) (n5) (c6))] <|
    π.ret (Go.Value.tuple #[])
  ) (
    π.unSome (some l) fun p8 =>
    π.ld [.slice] (p8) fun (((a9 : Option Addr), (n10 : Nat), (c11 : Nat)), _) =>
    π.guard ((0 : Int) ≤ i ∧ i < (↑n10 : Int)) <|
    π.unSome (a9) fun p12 =>
    π.call (183 : Nat) #[(Go.Value.pointer (some (p12.add (i.toNat * (5 : Nat)))))] (false, [(false, [.ptr])]) fun ((p13, _), _) =>
    π.unSome (p13) fun p14 =>
    π.st (p14) [(Go.Value.int (IntKind.i64) (state))] <|
    π.ret (Go.Value.tuple #[])
  )
def ann_placeF : Ann := { draws := [], join := [], loop := [] }
def la_placeF : LA := { ptr := [], ty := [] }
set_option maxRecDepth 100000 in
theorem eq_placeF {W : Type} (π : Prims W) (l : Addr) (i state : Int) : bodyL π Tryz.prog la_placeF ann_placeF (mkFr (maskA [] [.v (.pointer (some l)), .v (.int .i64 i), .v (.int .i64 state), .v (.func (.func 183) #[] #[])] 0) 28) Tryz.f182 (bodyOf Tryz.f182) (mkFr (List.map some [.v (.pointer (some l)), .v (.int .i64 i), .v (.int .i64 state), .v (.func (.func 183) #[] #[])]) 28) = vc_placeF π l i state := by kernel_rfl
theorem ok_placeF (l : Addr) (i state : Int) (R : Value → PH → Prop) (s : PH) (h : vc_placeF (RP Tryz.prog R) l i state s) : DCalls Tryz.prog 182 (List.map AV.val [.v (.pointer (some l)), .v (.int .i64 i), .v (.int .i64 state), .v (.func (.func 183) #[] #[])]).toArray s R :=
  calls_vcL (c := bodyOf Tryz.f182) (ann := ann_placeF) la_placeF (by kernel_rfl) Tryz.func182 rfl (by kernel_rfl) [.v (.pointer (some l)), .v (.int .i64 i), .v (.int .i64 state), .v (.func (.func 183) #[] #[])] [] (by rw [Tryz.ntmps182]; exact Nat.le_of_ble_eq_true rfl) (by kernel_rfl) (by rw [show Tryz.f182.ntmps = 28 from Tryz.ntmps182, eq_placeF]; exact h)
/-- lintel/schema.create -/
def vc_create {W : Type} (π : Prims W) (b : Nat) (dk : Int) (dt dn dc dp : ByteArray) (du : Bool) (dy vk vn : Int) (vs : ByteArray) (da : Option Addr) (dan dac : Nat) (state there : Int) : W :=
  π.call (142 : Nat) #[(Go.Value.string (dt))] (false, [(false, [.bool])]) fun (((b0 : Bool), _), _) =>
  π.loop [(true, [.int .i64, .str, .str, .str, .str, .bool, .int .i64, .int .i64, .int .i64, .str, .slice]), (false, [.bool]), (false, [.bool]), (false, [.slice]), (false, [.int .i64]), (false, [.int .i64])] ((dk, dt, dn, dc, dp, du, dy, vk, vn, vs, (da, dan, dac), ()), (b0, ()), (true, ()), ((da, dan, dac), ()), ((↑dan : Int), ()), ((0 : Int), ()), ()) fun (((x2 : Int), (t3 : ByteArray), (t4 : ByteArray), (t5 : ByteArray), (t6 : ByteArray), (b7 : Bool), (x8 : Int), (x9 : Int), (x10 : Int), (t11 : ByteArray), ((a12 : Option Addr), (n13 : Nat), (c14 : Nat)), _), ((b15 : Bool), _), ((b16 : Bool), _), (((a17 : Option Addr), (n18 : Nat), (c19 : Nat)), _), ((x20 : Int), _), ((x21 : Int), _), _) again1 =>
    π.ite (decide (x21 < x20)) (
      π.guard ((0 : Int) ≤ x21 ∧ x21 < (↑n18 : Int)) <|
      π.unSome (a17) fun p22 =>
      π.ld [.int .i64, .str, .int .i64, .int .i64, .int .i64, .int .i64, .str] (p22.add (x21.toNat * (7 : Nat))) fun ((x23 : Int), (t24 : ByteArray), (x25 : Int), (x26 : Int), (x27 : Int), (x28 : Int), (t29 : ByteArray), _) =>
      π.ite (b15) (
        π.call (142 : Nat) #[(Go.Value.string (t24))] (false, [(false, [.bool])]) fun (((b30 : Bool), _), _) =>
        π.ite (b16) (
          π.call (151 : Nat) #[(Go.Value.int (IntKind.i64) (x25))] (false, [(false, [.bool])]) fun (((b31 : Bool), _), _) =>
          again1 ((x2, t3, t4, t5, t6, b7, x8, x9, x10, t11, (a12, n13, c14), ()), (b30, ()), (b31, ()), ((a17, n18, c19), ()), (x20, ()), (IntKind.i64.wrap (x21 + (1 : Int)), ()), ())
        ) (
          again1 ((x2, t3, t4, t5, t6, b7, x8, x9, x10, t11, (a12, n13, c14), ()), (b30, ()), (false, ()), ((a17, n18, c19), ()), (x20, ()), (IntKind.i64.wrap (x21 + (1 : Int)), ()), ())
        )
      ) (
        π.ite (b16) (
          π.call (151 : Nat) #[(Go.Value.int (IntKind.i64) (x25))] (false, [(false, [.bool])]) fun (((b32 : Bool), _), _) =>
          again1 ((x2, t3, t4, t5, t6, b7, x8, x9, x10, t11, (a12, n13, c14), ()), (false, ()), (b32, ()), ((a17, n18, c19), ()), (x20, ()), (IntKind.i64.wrap (x21 + (1 : Int)), ()), ())
        ) (
          again1 ((x2, t3, t4, t5, t6, b7, x8, x9, x10, t11, (a12, n13, c14), ()), (false, ()), (false, ()), ((a17, n18, c19), ()), (x20, ()), (IntKind.i64.wrap (x21 + (1 : Int)), ()), ())
        )
      )
    ) (
      π.join [(true, [.int .i64, .str, .str, .str, .str, .bool, .int .i64, .int .i64, .int .i64, .str, .slice])] (fun J33 =>
        π.ite (!b15) (
          π.ret (Go.Value.int (IntKind.i64) ((100 : Int)))
        ) (
          π.join [(true, [.int .i64, .str, .str, .str, .str, .bool, .int .i64, .int .i64, .int .i64, .str, .slice]), (false, [.bool]), (false, [.bool])] (fun J34 =>
            π.ite (decide (there ≥ (0 : Int))) (
              J34 ((x2, t3, t4, t5, t6, b7, x8, x9, x10, t11, (a12, n13, c14), ()), (b16, ()), (true, ()), ())
            ) (
              π.call (168 : Nat) #[(Go.Value.slice (a12) (n13) (c14))] (false, [(false, [.bool])]) fun (((b35 : Bool), _), _) =>
              J34 ((x2, t3, t4, t5, t6, b7, x8, x9, x10, t11, (a12, n13, c14), ()), (b16, ()), (b35, ()), ())
            )
          ) (fun (((x36 : Int), (t37 : ByteArray), (t38 : ByteArray), (t39 : ByteArray), (t40 : ByteArray), (b41 : Bool), (x42 : Int), (x43 : Int), (x44 : Int), (t45 : ByteArray), ((a46 : Option Addr), (n47 : Nat), (c48 : Nat)), _), ((b49 : Bool), _), ((b50 : Bool), _), _) =>
            π.ite (b50) (
              π.ret (Go.Value.int (IntKind.i64) ((152 : Int)))
            ) (
              π.unSome (some (Addr.mk b (0 : Nat) none)) fun p51 =>
              π.ld [.slice] (p51.add (2 : Nat)) fun (((a52 : Option Addr), (n53 : Nat), (c54 : Nat)), _) =>
              π.ite ((↑n53 : Int) == (6 : Int)) (
                π.ret (Go.Value.int (IntKind.i64) ((156 : Int)))
              ) (
                π.ite (decide ((↑n47 : Int) < (1 : Int))) (
                  π.ret (Go.Value.int (IntKind.i64) ((156 : Int)))
                ) (
                  π.ite (decide ((↑n47 : Int) > (8 : Int))) (
                    π.ret (Go.Value.int (IntKind.i64) ((156 : Int)))
                  ) (
                    π.ite (!b49) (
                      π.ret (Go.Value.int (IntKind.i64) ((154 : Int)))
                    ) (
                      π.ite (state != (3 : Int)) (
                        π.ret (Go.Value.int (IntKind.i64) ((1 : Int)))
                      ) (
                        J33 ((x36, t37, t38, t39, t40, b41, x42, x43, x44, t45, (a46, n47, c48), ()), ())
                      )
                    )
                  )
                )
              )
            )
          )
        )
      ) (fun (((x55 : Int), (t56 : ByteArray), (t57 : ByteArray), (t58 : ByteArray), (t59 : ByteArray), (b60 : Bool), (x61 : Int), (x62 : Int), (x63 : Int), (t64 : ByteArray), ((a65 : Option Addr), (n66 : Nat), (c67 : Nat)), _), _) =>
        π.unSome (some (Addr.mk b (0 : Nat) none)) fun p68 =>
        π.ld [.int .i64] (p68.add (1 : Nat)) fun ((x69 : Int), _) =>
        π.unSome (some (Addr.mk b (0 : Nat) none)) fun p70 =>
        π.st (p70.add (1 : Nat)) [(Go.Value.int (IntKind.i64) (IntKind.i64.wrap (x69 + (1 : Int))))] <|
        π.unSome (some (Addr.mk b (0 : Nat) none)) fun p71 =>
        π.ld [.int .i64] (p71.add (1 : Nat)) fun ((x72 : Int), _) =>
        π.loop [(true, [.int .i64, .str, .slice, .slice, .slice]), (false, [.slice]), (false, [.int .i64]), (false, [.int .i64])] ((x72, t56, (none, (0 : Nat), (0 : Nat)), (none, (0 : Nat), (0 : Nat)), (none, (0 : Nat), (0 : Nat)), ()), ((a65, n66, c67), ()), ((↑n66 : Int), ()), ((0 : Int), ()), ()) fun (((x74 : Int), (t75 : ByteArray), ((a76 : Option Addr), (n77 : Nat), (c78 : Nat)), ((a79 : Option Addr), (n80 : Nat), (c81 : Nat)), ((a82 : Option Addr), (n83 : Nat), (c84 : Nat)), _), (((a85 : Option Addr), (n86 : Nat), (c87 : Nat)), _), ((x88 : Int), _), ((x89 : Int), _), _) again73 =>
          π.ite (decide (x89 < x88)) (
            π.guard ((0 : Int) ≤ x89 ∧ x89 < (↑n86 : Int)) <|
            π.unSome (a85) fun p90 =>
            π.ld [.int .i64, .str, .int .i64, .int .i64, .int .i64, .int .i64, .str] (p90.add (x89.toNat * (7 : Nat))) fun ((x91 : Int), (t92 : ByteArray), (x93 : Int), (x94 : Int), (x95 : Int), (x96 : Int), (t97 : ByteArray), _) =>
            π.unSome (some (Addr.mk b (0 : Nat) none)) fun p98 =>
            π.ld [.int .i64] (p98.add (1 : Nat)) fun ((x99 : Int), _) =>
            π.unSome (some (Addr.mk b (0 : Nat) none)) fun p100 =>
            π.st (p100.add (1 : Nat)) [(Go.Value.int (IntKind.i64) (IntKind.i64.wrap (x99 + (1 : Int))))] <|
            π.unSome (some (Addr.mk b (0 : Nat) none)) fun p101 =>
            π.ld [.int .i64] (p101.add (1 : Nat)) fun ((x102 : Int), _) =>
            π.nw (Go.Obj.cells #[(Go.Value.int (IntKind.i64) (x102)), (Go.Value.string (t92)), (Go.Value.int (IntKind.i64) (x93)), (Go.Value.int (IntKind.i64) ((3 : Int))), (Go.Value.int (IntKind.i64) ((0 : Int))), (Go.Value.int (IntKind.i64) ((0 : Int))), (Go.Value.string (ByteArray.mk #[]))] (97 : Nat) ((0 : Nat), (0 : Nat))) fun r103 =>
            π.app (97 : Nat) (7 : Nat) (72 : Nat) [(Go.Value.int (IntKind.i64) ((0 : Int))), (Go.Value.string (ByteArray.mk #[])), (Go.Value.int (IntKind.i64) ((0 : Int))), (Go.Value.int (IntKind.i64) ((0 : Int))), (Go.Value.int (IntKind.i64) ((0 : Int))), (Go.Value.int (IntKind.i64) ((0 : Int))), (Go.Value.string (ByteArray.mk #[]))] (a76) (n77) (c78) (Src.sl (some (Addr.mk r103 (0 : Nat) none)) (1 : Nat)) fun a104 n105 c106 =>
            again73 ((x74, t75, (a104, n105, c106), (a79, n80, c81), (a82, n83, c84), ()), ((a85, n86, c87), ()), (x88, ()), (IntKind.i64.wrap (x89 + (1 : Int)), ()), ())
          ) (
            π.unSome (some (Addr.mk b (0 : Nat) none)) fun p107 =>
            π.ld [.slice] (p107.add (2 : Nat)) fun (((a108 : Option Addr), (n109 : Nat), (c110 : Nat)), _) =>
            π.nw (Go.Obj.cells #[(Go.Value.int (IntKind.i64) (x74)), (Go.Value.string (t75)), (Go.Value.slice (a76) (n77) (c78)), (Go.Value.slice (a79) (n80) (c81)), (Go.Value.slice (a82) (n83) (c84))] (139 : Nat) ((0 : Nat), (0 : Nat))) fun r111 =>
            π.app (139 : Nat) (5 : Nat) (96 : Nat) [(Go.Value.int (IntKind.i64) ((0 : Int))), (Go.Value.string (ByteArray.mk #[])), (Go.Value.slice (none) ((0 : Nat)) ((0 : Nat))), (Go.Value.slice (none) ((0 : Nat)) ((0 : Nat))), (Go.Value.slice (none) ((0 : Nat)) ((0 : Nat)))] (a108) (n109) (c110) (Src.sl (some (Addr.mk r111 (0 : Nat) none)) (1 : Nat)) fun a112 n113 c114 =>
            π.unSome (some (Addr.mk b (0 : Nat) none)) fun p115 =>
            π.st (p115.add (2 : Nat)) [(Go.Value.slice (a112) (n113) (c114))] <|
            π.ret (Go.Value.int (IntKind.i64) ((0 : Int)))
          )
      )
    )
def ann_create : Ann := { draws := [(19, { A := [0, 1, 2, 3, 4, 5, 6] }), (24, { A := [0, 1, 2, 3, 4, 5, 6, 7, 8, 9, 10], eag := [13] }), (26, { A := [0, 1, 2, 3, 4, 5], eag := [8, 9] })], join := [(11, [(5, 36), (10, 4), (42, 4)]), (18, [(5, 36)])], loop := [(3, [(5, 36), (9, 4), (10, 4), (20, 34), (21, 3), (22, 3)]), (21, [(13, 139), (90, 34), (91, 3), (92, 3)])] }
def la_create : LA := { ptr := [(5, 5, 0), (12, 12, 0), (13, 13, 0), (15, 15, 0), (16, 5, 1), (19, 5, 10), (28, 12, 1), (34, 12, 2), (46, 5, 10), (58, 5, 10), (64, 5, 10), (86, 5, 1), (89, 5, 10), (103, 13, 2), (109, 15, 1), (111, 15, 2), (116, 13, 2)], ty := [(5, 36), (12, 97), (13, 139), (15, 97)] }
set_option maxRecDepth 100000 in
theorem eq_create {W : Type} (π : Prims W) (b : Nat) (dk : Int) (dt dn dc dp : ByteArray) (du : Bool) (dy vk vn : Int) (vs : ByteArray) (da : Option Addr) (dan dac : Nat) (state there : Int) : bodyL π Tryz.prog la_create ann_create (mkFr (maskA [] [.v (.pointer (some ⟨b, 0, none⟩)), .v (.agg #[.int .i64 dk, .string dt, .string dn, .string dc, .string dp, .bool du, .int .i64 dy, .int .i64 vk, .int .i64 vn, .string vs, .slice da dan dac]), .v (.int .i64 state), .v (.int .i64 there)] 0) 128) Tryz.f138 (bodyOf Tryz.f138) (mkFr (List.map some [.v (.pointer (some ⟨b, 0, none⟩)), .v (.agg #[.int .i64 dk, .string dt, .string dn, .string dc, .string dp, .bool du, .int .i64 dy, .int .i64 vk, .int .i64 vn, .string vs, .slice da dan dac]), .v (.int .i64 state), .v (.int .i64 there)]) 128) = vc_create π b dk dt dn dc dp du dy vk vn vs da dan dac state there := by kernel_rfl
theorem ok_create (b : Nat) (dk : Int) (dt dn dc dp : ByteArray) (du : Bool) (dy vk vn : Int) (vs : ByteArray) (da : Option Addr) (dan dac : Nat) (state there : Int) (R : Value → PH → Prop) (s : PH) (h : vc_create (RP Tryz.prog R) b dk dt dn dc dp du dy vk vn vs da dan dac state there s) : DCalls Tryz.prog 138 (List.map AV.val [.v (.pointer (some ⟨b, 0, none⟩)), .v (.agg #[.int .i64 dk, .string dt, .string dn, .string dc, .string dp, .bool du, .int .i64 dy, .int .i64 vk, .int .i64 vn, .string vs, .slice da dan dac]), .v (.int .i64 state), .v (.int .i64 there)]).toArray s R :=
  calls_vcL (c := bodyOf Tryz.f138) (ann := ann_create) la_create (by kernel_rfl) Tryz.func138 rfl (by kernel_rfl) [.v (.pointer (some ⟨b, 0, none⟩)), .v (.agg #[.int .i64 dk, .string dt, .string dn, .string dc, .string dp, .bool du, .int .i64 dy, .int .i64 vk, .int .i64 vn, .string vs, .slice da dan dac]), .v (.int .i64 state), .v (.int .i64 there)] [] (by rw [Tryz.ntmps138]; exact Nat.le_of_ble_eq_true rfl) (by kernel_rfl) (by rw [show Tryz.f138.ntmps = 128 from Tryz.ntmps138, eq_create]; exact h)
/-- lintel/schema.columns -/
def vc_columns {W : Type} (π : Prims W) (b : Nat) (t : Addr) (dk : Int) (dt dn dc dp : ByteArray) (du : Bool) (dy vk vn : Int) (vs : ByteArray) (da : Option Addr) (dan dac : Nat) (state : Int) : W :=
  π.unSome (some t) fun p0 =>
  π.ld [.slice] (p0.add (2 : Nat)) fun (((a1 : Option Addr), (n2 : Nat), (c3 : Nat)), _) =>
  π.callQ (169 : Nat) #[(Go.Value.slice (a1) (n2) (c3)), (Go.Value.string (dc)), (Go.Value.func (Fn.func (145 : Nat)) #[] #[])] (false, [(false, [.int .i64])]) fun (((x4 : Int), _), _) =>
  π.join [(true, [.int .i64, .str, .str, .str, .str, .bool, .int .i64, .int .i64, .int .i64, .str, .slice]), (false, [.int .i64])] (fun J5 =>
    π.join [(true, [.int .i64, .str, .str, .str, .str, .bool, .int .i64, .int .i64, .int .i64, .str, .slice]), (false, [.int .i64]), (false, [.bool])] (fun J6 =>
      π.ite (dk == (4 : Int)) (
        J6 ((dk, dt, dn, dc, dp, du, dy, vk, vn, vs, (da, dan, dac), ()), (x4, ()), (decide (x4 < (0 : Int)), ()), ())
      ) (
        J6 ((dk, dt, dn, dc, dp, du, dy, vk, vn, vs, (da, dan, dac), ()), (x4, ()), (false, ()), ())
      )
    ) (fun (((x7 : Int), (t8 : ByteArray), (t9 : ByteArray), (t10 : ByteArray), (t11 : ByteArray), (b12 : Bool), (x13 : Int), (x14 : Int), (x15 : Int), (t16 : ByteArray), ((a17 : Option Addr), (n18 : Nat), (c19 : Nat)), _), ((x20 : Int), _), ((b21 : Bool), _), _) =>
      π.ite (b21) (
        π.unSome (some t) fun p22 =>
        π.ld [.slice] (p22.add (2 : Nat)) fun (((a23 : Option Addr), (n24 : Nat), (c25 : Nat)), _) =>
        π.callQ (170 : Nat) #[(Go.Value.string (t10)), (Go.Value.int (IntKind.i64) ((↑n24 : Int)))] (false, [(false, [.int .i64])]) fun (((x26 : Int), _), _) =>
        π.ite (x26 != (0 : Int)) (
          π.ret (Go.Value.int (IntKind.i64) (x26))
        ) (
          π.join [(true, [.int .i64, .str, .str, .str, .str, .bool, .int .i64, .int .i64, .int .i64, .str, .slice])] (fun J27 =>
            π.call (151 : Nat) #[(Go.Value.int (IntKind.i64) (x13))] (false, [(false, [.bool])]) fun (((b28 : Bool), _), _) =>
            π.ite (!b28) (
              π.ret (Go.Value.int (IntKind.i64) ((154 : Int)))
            ) (
              π.call (152 : Nat) #[(Go.Value.agg #[(Go.Value.int (IntKind.i64) (x14)), (Go.Value.int (IntKind.i64) (x15)), (Go.Value.string (t16))]), (Go.Value.int (IntKind.i64) (x13))] (false, [(false, [.bool])]) fun (((b29 : Bool), _), _) =>
              π.ite (!b29) (
                π.ret (Go.Value.int (IntKind.i64) ((154 : Int)))
              ) (
                J27 ((x7, t8, t9, t10, t11, b12, x13, x14, x15, t16, (a17, n18, c19), ()), ())
              )
            )
          ) (fun (((x30 : Int), (t31 : ByteArray), (t32 : ByteArray), (t33 : ByteArray), (t34 : ByteArray), (b35 : Bool), (x36 : Int), (x37 : Int), (x38 : Int), (t39 : ByteArray), ((a40 : Option Addr), (n41 : Nat), (c42 : Nat)), _), _) =>
            π.ite (state == (0 : Int)) (
              π.ret (Go.Value.int (IntKind.i64) ((1 : Int)))
            ) (
              π.unSome (some (Addr.mk b (0 : Nat) none)) fun p43 =>
              π.ld [.int .i64] (p43.add (1 : Nat)) fun ((x44 : Int), _) =>
              π.unSome (some (Addr.mk b (0 : Nat) none)) fun p45 =>
              π.st (p45.add (1 : Nat)) [(Go.Value.int (IntKind.i64) (IntKind.i64.wrap (x44 + (1 : Int))))] <|
              π.unSome (some t) fun p46 =>
              π.ld [.slice] (p46.add (2 : Nat)) fun (((a47 : Option Addr), (n48 : Nat), (c49 : Nat)), _) =>
              π.unSome (some (Addr.mk b (0 : Nat) none)) fun p50 =>
              π.ld [.int .i64] (p50.add (1 : Nat)) fun ((x51 : Int), _) =>
              π.nw (Go.Obj.cells #[(Go.Value.int (IntKind.i64) (x51)), (Go.Value.string (t33)), (Go.Value.int (IntKind.i64) (x36)), (Go.Value.int (IntKind.i64) (state)), (Go.Value.int (IntKind.i64) (x37)), (Go.Value.int (IntKind.i64) (x38)), (Go.Value.string (t39))] (97 : Nat) ((0 : Nat), (0 : Nat))) fun r52 =>
              π.app (97 : Nat) (7 : Nat) (72 : Nat) [(Go.Value.int (IntKind.i64) ((0 : Int))), (Go.Value.string (ByteArray.mk #[])), (Go.Value.int (IntKind.i64) ((0 : Int))), (Go.Value.int (IntKind.i64) ((0 : Int))), (Go.Value.int (IntKind.i64) ((0 : Int))), (Go.Value.int (IntKind.i64) ((0 : Int))), (Go.Value.string (ByteArray.mk #[]))] (a47) (n48) (c49) (Src.sl (some (Addr.mk r52 (0 : Nat) none)) (1 : Nat)) fun a53 n54 c55 =>
              π.unSome (some t) fun p56 =>
              π.st (p56.add (2 : Nat)) [(Go.Value.slice (a53) (n54) (c55))] <|
              π.ret (Go.Value.int (IntKind.i64) ((0 : Int)))
            )
          )
        )
      ) (
        π.ite (x7 == (4 : Int)) (
          π.unSome (some t) fun p57 =>
          π.ld [.slice] (p57.add (2 : Nat)) fun (((a58 : Option Addr), (n59 : Nat), (c60 : Nat)), _) =>
          π.guard ((0 : Int) ≤ x20 ∧ x20 < (↑n59 : Int)) <|
          π.unSome (a58) fun p61 =>
          π.ld [.int .i64] ((p61.add (x20.toNat * (7 : Nat))).add (3 : Nat)) fun ((x62 : Int), _) =>
          π.ite (x62 == (3 : Int)) (
            π.ret (Go.Value.int (IntKind.i64) ((152 : Int)))
          ) (
            π.ite (decide (x20 < (0 : Int))) (
              π.ret (Go.Value.int (IntKind.i64) ((151 : Int)))
            ) (
              J5 ((x7, t8, t9, t10, t11, b12, x13, x14, x15, t16, (a17, n18, c19), ()), (x20, ()), ())
            )
          )
        ) (
          π.ite (decide (x20 < (0 : Int))) (
            π.ret (Go.Value.int (IntKind.i64) ((151 : Int)))
          ) (
            J5 ((x7, t8, t9, t10, t11, b12, x13, x14, x15, t16, (a17, n18, c19), ()), (x20, ()), ())
          )
        )
      )
    )
  ) (fun (((x63 : Int), (t64 : ByteArray), (t65 : ByteArray), (t66 : ByteArray), (t67 : ByteArray), (b68 : Bool), (x69 : Int), (x70 : Int), (x71 : Int), (t72 : ByteArray), ((a73 : Option Addr), (n74 : Nat), (c75 : Nat)), _), ((x76 : Int), _), _) =>
    π.unSome (some t) fun p77 =>
    π.ld [.slice] (p77.add (2 : Nat)) fun (((a78 : Option Addr), (n79 : Nat), (c80 : Nat)), _) =>
    π.guard ((0 : Int) ≤ x76 ∧ x76 < (↑n79 : Int)) <|
    π.unSome (a78) fun p81 =>
    π.ld [.int .i64] ((p81.add (x76.toNat * (7 : Nat))).add (0 : Nat)) fun ((x82 : Int), _) =>
    π.nw (Go.Obj.cells #[(Go.Value.int (IntKind.i64) ((0 : Int)))] (3 : Nat) ((0 : Nat), (0 : Nat))) fun r83 =>
    π.st (Addr.mk r83 (0 : Nat) none) [(Go.Value.int (IntKind.i64) (x82))] <|
    π.ite (x76 == (0 : Int)) (
      π.ite (x63 == (5 : Int)) (
        π.ret (Go.Value.int (IntKind.i64) ((155 : Int)))
      ) (
        π.unSome (some t) fun p84 =>
        π.call (175 : Nat) #[(Go.Value.pointer (some (p84.add (2 : Nat)))), (Go.Value.int (IntKind.i64) (x76)), (Go.Value.int (IntKind.i64) (state)), (Go.Value.func (Fn.func (176 : Nat)) #[] #[])] (true, []) fun (_) =>
        π.ret (Go.Value.int (IntKind.i64) ((0 : Int)))
      )
    ) (
      π.unSome (some t) fun p85 =>
      π.ld [.slice] (p85.add (3 : Nat)) fun (((a86 : Option Addr), (n87 : Nat), (c88 : Nat)), _) =>
      π.call (171 : Nat) #[(Go.Value.slice (a86) (n87) (c88)), (Go.Value.func (Fn.func (172 : Nat)) #[] #[(Go.Value.pointer (some (Addr.mk r83 (0 : Nat) none)))])] (false, [(false, [.bool])]) fun (((b89 : Bool), _), _) =>
      π.ite (b89) (
        π.ite (x63 == (5 : Int)) (
          π.ret (Go.Value.int (IntKind.i64) ((155 : Int)))
        ) (
          π.unSome (some t) fun p90 =>
          π.call (175 : Nat) #[(Go.Value.pointer (some (p90.add (2 : Nat)))), (Go.Value.int (IntKind.i64) (x76)), (Go.Value.int (IntKind.i64) (state)), (Go.Value.func (Fn.func (176 : Nat)) #[] #[])] (true, []) fun (_) =>
          π.ret (Go.Value.int (IntKind.i64) ((0 : Int)))
        )
      ) (
        π.unSome (some t) fun p91 =>
        π.ld [.slice] (p91.add (4 : Nat)) fun (((a92 : Option Addr), (n93 : Nat), (c94 : Nat)), _) =>
        π.call (173 : Nat) #[(Go.Value.slice (a92) (n93) (c94)), (Go.Value.func (Fn.func (174 : Nat)) #[] #[(Go.Value.pointer (some (Addr.mk r83 (0 : Nat) none)))])] (false, [(false, [.bool])]) fun (((b95 : Bool), _), _) =>
        π.ite (x63 == (5 : Int)) (
          π.ite (b95) (
            π.ret (Go.Value.int (IntKind.i64) ((155 : Int)))
          ) (
            π.unSome (some t) fun p96 =>
            π.call (175 : Nat) #[(Go.Value.pointer (some (p96.add (2 : Nat)))), (Go.Value.int (IntKind.i64) (x76)), (Go.Value.int (IntKind.i64) (state)), (Go.Value.func (Fn.func (176 : Nat)) #[] #[])] (true, []) fun (_) =>
            π.ret (Go.Value.int (IntKind.i64) ((0 : Int)))
          )
        ) (
          π.unSome (some t) fun p97 =>
          π.call (175 : Nat) #[(Go.Value.pointer (some (p97.add (2 : Nat)))), (Go.Value.int (IntKind.i64) (x76)), (Go.Value.int (IntKind.i64) (state)), (Go.Value.func (Fn.func (176 : Nat)) #[] #[])] (true, []) fun (_) =>
          π.ret (Go.Value.int (IntKind.i64) ((0 : Int)))
        )
      )
    )
  )
def ann_columns : Ann := { draws := [(1, { A := [0, 1, 2, 3, 4, 5, 6, 7], quiet := [6] }), (3, { A := [0, 1, 2, 3, 4, 5, 6, 7, 8], quiet := [7] }), (11, { A := [0, 1, 2, 3, 4, 5, 6, 7, 8, 9, 10, 11, 12, 13, 14, 15, 16], eag := [19, 20] })], join := [(3, [(6, 36), (9, 3), (20, 4)]), (8, [(6, 36)]), (17, [(6, 36), (9, 3)])], loop := [] }
def la_columns : LA := { ptr := [(6, 6, 0), (17, 6, 3), (21, 6, 0), (28, 6, 3), (39, 6, 6), (44, 6, 7), (46, 6, 6), (69, 6, 3), (71, 6, 6), (74, 6, 7), (82, 6, 0), (125, 6, 0)], ty := [(6, 36)] }
set_option maxRecDepth 100000 in
theorem eq_columns {W : Type} (π : Prims W) (b : Nat) (t : Addr) (dk : Int) (dt dn dc dp : ByteArray) (du : Bool) (dy vk vn : Int) (vs : ByteArray) (da : Option Addr) (dan dac : Nat) (state : Int) : bodyL π Tryz.prog la_columns ann_columns (mkFr (maskA [] [.v (.pointer (some ⟨b, 0, none⟩)), .v (.pointer (some t)), .v (.agg #[.int .i64 dk, .string dt, .string dn, .string dc, .string dp, .bool du, .int .i64 dy, .int .i64 vk, .int .i64 vn, .string vs, .slice da dan dac]), .v (.int .i64 state)] 0) 137) Tryz.f139 (bodyOf Tryz.f139) (mkFr (List.map some [.v (.pointer (some ⟨b, 0, none⟩)), .v (.pointer (some t)), .v (.agg #[.int .i64 dk, .string dt, .string dn, .string dc, .string dp, .bool du, .int .i64 dy, .int .i64 vk, .int .i64 vn, .string vs, .slice da dan dac]), .v (.int .i64 state)]) 137) = vc_columns π b t dk dt dn dc dp du dy vk vn vs da dan dac state := by kernel_rfl
theorem ok_columns (b : Nat) (t : Addr) (dk : Int) (dt dn dc dp : ByteArray) (du : Bool) (dy vk vn : Int) (vs : ByteArray) (da : Option Addr) (dan dac : Nat) (state : Int) (R : Value → PH → Prop) (s : PH) (h : vc_columns (RP Tryz.prog R) b t dk dt dn dc dp du dy vk vn vs da dan dac state s) : DCalls Tryz.prog 139 (List.map AV.val [.v (.pointer (some ⟨b, 0, none⟩)), .v (.pointer (some t)), .v (.agg #[.int .i64 dk, .string dt, .string dn, .string dc, .string dp, .bool du, .int .i64 dy, .int .i64 vk, .int .i64 vn, .string vs, .slice da dan dac]), .v (.int .i64 state)]).toArray s R :=
  calls_vcL (c := bodyOf Tryz.f139) (ann := ann_columns) la_columns (by kernel_rfl) Tryz.func139 rfl (by kernel_rfl) [.v (.pointer (some ⟨b, 0, none⟩)), .v (.pointer (some t)), .v (.agg #[.int .i64 dk, .string dt, .string dn, .string dc, .string dp, .bool du, .int .i64 dy, .int .i64 vk, .int .i64 vn, .string vs, .slice da dan dac]), .v (.int .i64 state)] [] (by rw [Tryz.ntmps139]; exact Nat.le_of_ble_eq_true rfl) (by kernel_rfl) (by rw [show Tryz.f139.ntmps = 137 from Tryz.ntmps139, eq_columns]; exact h)
/-- lintel/schema.indexes -/
def vc_indexes {W : Type} (π : Prims W) (b : Nat) (t : Addr) (dk : Int) (dt dn dc dp : ByteArray) (du : Bool) (dy vk vn : Int) (vs : ByteArray) (da : Option Addr) (dan dac : Nat) (state : Int) : W :=
  π.unSome (some t) fun p0 =>
  π.ld [.slice] (p0.add (3 : Nat)) fun (((a1 : Option Addr), (n2 : Nat), (c3 : Nat)), _) =>
  π.callQ (177 : Nat) #[(Go.Value.slice (a1) (n2) (c3)), (Go.Value.string (dn)), (Go.Value.func (Fn.func (147 : Nat)) #[] #[])] (false, [(false, [.int .i64])]) fun (((x4 : Int), _), _) =>
  π.join [(true, [.int .i64, .str, .str, .str, .str, .bool, .int .i64, .int .i64, .int .i64, .str, .slice]), (false, [.int .i64]), (false, [.bool])] (fun J5 =>
    π.ite (dk == (2 : Int)) (
      J5 ((dk, dt, dn, dc, dp, du, dy, vk, vn, vs, (da, dan, dac), ()), (x4, ()), (decide (x4 < (0 : Int)), ()), ())
    ) (
      J5 ((dk, dt, dn, dc, dp, du, dy, vk, vn, vs, (da, dan, dac), ()), (x4, ()), (false, ()), ())
    )
  ) (fun (((x6 : Int), (t7 : ByteArray), (t8 : ByteArray), (t9 : ByteArray), (t10 : ByteArray), (b11 : Bool), (x12 : Int), (x13 : Int), (x14 : Int), (t15 : ByteArray), ((a16 : Option Addr), (n17 : Nat), (c18 : Nat)), _), ((x19 : Int), _), ((b20 : Bool), _), _) =>
    π.ite (b20) (
      π.unSome (some t) fun p21 =>
      π.ld [.slice] (p21.add (3 : Nat)) fun (((a22 : Option Addr), (n23 : Nat), (c24 : Nat)), _) =>
      π.callQ (170 : Nat) #[(Go.Value.string (t8)), (Go.Value.int (IntKind.i64) ((↑n23 : Int)))] (false, [(false, [.int .i64])]) fun (((x25 : Int), _), _) =>
      π.ite (x25 != (0 : Int)) (
        π.ret (Go.Value.int (IntKind.i64) (x25))
      ) (
        π.call (178 : Nat) #[(Go.Value.pointer (some t)), (Go.Value.string (t9))] (false, [(false, [.int .i64])]) fun (((x26 : Int), _), _) =>
        π.ite (decide (x26 < (0 : Int))) (
          π.ret (Go.Value.int (IntKind.i64) ((151 : Int)))
        ) (
          π.ite (state == (0 : Int)) (
            π.ret (Go.Value.int (IntKind.i64) ((1 : Int)))
          ) (
            π.unSome (some (Addr.mk b (0 : Nat) none)) fun p27 =>
            π.ld [.int .i64] (p27.add (1 : Nat)) fun ((x28 : Int), _) =>
            π.unSome (some (Addr.mk b (0 : Nat) none)) fun p29 =>
            π.st (p29.add (1 : Nat)) [(Go.Value.int (IntKind.i64) (IntKind.i64.wrap (x28 + (1 : Int))))] <|
            π.unSome (some t) fun p30 =>
            π.ld [.slice] (p30.add (3 : Nat)) fun (((a31 : Option Addr), (n32 : Nat), (c33 : Nat)), _) =>
            π.unSome (some (Addr.mk b (0 : Nat) none)) fun p34 =>
            π.ld [.int .i64] (p34.add (1 : Nat)) fun ((x35 : Int), _) =>
            π.unSome (some t) fun p36 =>
            π.ld [.slice] (p36.add (2 : Nat)) fun (((a37 : Option Addr), (n38 : Nat), (c39 : Nat)), _) =>
            π.guard ((0 : Int) ≤ x26 ∧ x26 < (↑n38 : Int)) <|
            π.unSome (a37) fun p40 =>
            π.ld [.int .i64] ((p40.add (x26.toNat * (7 : Nat))).add (0 : Nat)) fun ((x41 : Int), _) =>
            π.nw (Go.Obj.cells #[(Go.Value.int (IntKind.i64) (x35)), (Go.Value.string (t8)), (Go.Value.int (IntKind.i64) (x41)), (Go.Value.bool (b11)), (Go.Value.int (IntKind.i64) (state))] (142 : Nat) ((0 : Nat), (0 : Nat))) fun r42 =>
            π.app (142 : Nat) (5 : Nat) (48 : Nat) [(Go.Value.int (IntKind.i64) ((0 : Int))), (Go.Value.string (ByteArray.mk #[])), (Go.Value.int (IntKind.i64) ((0 : Int))), (Go.Value.bool (false)), (Go.Value.int (IntKind.i64) ((0 : Int)))] (a31) (n32) (c33) (Src.sl (some (Addr.mk r42 (0 : Nat) none)) (1 : Nat)) fun a43 n44 c45 =>
            π.unSome (some t) fun p46 =>
            π.st (p46.add (3 : Nat)) [(Go.Value.slice (a43) (n44) (c45))] <|
            π.ret (Go.Value.int (IntKind.i64) ((0 : Int)))
          )
        )
      )
    ) (
      π.ite (x6 == (2 : Int)) (
        π.unSome (some t) fun p47 =>
        π.ld [.slice] (p47.add (3 : Nat)) fun (((a48 : Option Addr), (n49 : Nat), (c50 : Nat)), _) =>
        π.guard ((0 : Int) ≤ x19 ∧ x19 < (↑n49 : Int)) <|
        π.unSome (a48) fun p51 =>
        π.ld [.int .i64] ((p51.add (x19.toNat * (5 : Nat))).add (4 : Nat)) fun ((x52 : Int), _) =>
        π.ite (x52 == (3 : Int)) (
          π.ret (Go.Value.int (IntKind.i64) ((152 : Int)))
        ) (
          π.ite (decide (x19 < (0 : Int))) (
            π.ret (Go.Value.int (IntKind.i64) ((153 : Int)))
          ) (
            π.unSome (some t) fun p53 =>
            π.call (179 : Nat) #[(Go.Value.pointer (some (p53.add (3 : Nat)))), (Go.Value.int (IntKind.i64) (x19)), (Go.Value.int (IntKind.i64) (state)), (Go.Value.func (Fn.func (180 : Nat)) #[] #[])] (true, []) fun (_) =>
            π.ret (Go.Value.int (IntKind.i64) ((0 : Int)))
          )
        )
      ) (
        π.ite (decide (x19 < (0 : Int))) (
          π.ret (Go.Value.int (IntKind.i64) ((153 : Int)))
        ) (
          π.unSome (some t) fun p54 =>
          π.call (179 : Nat) #[(Go.Value.pointer (some (p54.add (3 : Nat)))), (Go.Value.int (IntKind.i64) (x19)), (Go.Value.int (IntKind.i64) (state)), (Go.Value.func (Fn.func (180 : Nat)) #[] #[])] (true, []) fun (_) =>
          π.ret (Go.Value.int (IntKind.i64) ((0 : Int)))
        )
      )
    )
  )
def ann_indexes : Ann := { draws := [(1, { A := [0, 1, 2, 3, 4, 5, 6, 7], quiet := [6] }), (3, { A := [0, 1, 2, 3, 4, 5, 6, 7, 8], quiet := [7] }), (12, { A := [0, 1, 2, 3, 4, 5, 6, 7, 8, 9, 10, 11, 12, 13, 14, 15, 16, 17, 18, 19, 20, 21, 22], eag := [25, 26] })], join := [(3, [(6, 36), (9, 3), (19, 4)])], loop := [] }
def la_indexes : LA := { ptr := [(6, 6, 0), (16, 6, 2), (20, 6, 0), (27, 6, 2), (39, 6, 3), (62, 6, 2), (72, 6, 5), (81, 6, 0)], ty := [(6, 36)] }
set_option maxRecDepth 100000 in
theorem eq_indexes {W : Type} (π : Prims W) (b : Nat) (t : Addr) (dk : Int) (dt dn dc dp : ByteArray) (du : Bool) (dy vk vn : Int) (vs : ByteArray) (da : Option Addr) (dan dac : Nat) (state : Int) : bodyL π Tryz.prog la_indexes ann_indexes (mkFr (maskA [] [.v (.pointer (some ⟨b, 0, none⟩)), .v (.pointer (some t)), .v (.agg #[.int .i64 dk, .string dt, .string dn, .string dc, .string dp, .bool du, .int .i64 dy, .int .i64 vk, .int .i64 vn, .string vs, .slice da dan dac]), .v (.int .i64 state)] 0) 104) Tryz.f140 (bodyOf Tryz.f140) (mkFr (List.map some [.v (.pointer (some ⟨b, 0, none⟩)), .v (.pointer (some t)), .v (.agg #[.int .i64 dk, .string dt, .string dn, .string dc, .string dp, .bool du, .int .i64 dy, .int .i64 vk, .int .i64 vn, .string vs, .slice da dan dac]), .v (.int .i64 state)]) 104) = vc_indexes π b t dk dt dn dc dp du dy vk vn vs da dan dac state := by kernel_rfl
theorem ok_indexes (b : Nat) (t : Addr) (dk : Int) (dt dn dc dp : ByteArray) (du : Bool) (dy vk vn : Int) (vs : ByteArray) (da : Option Addr) (dan dac : Nat) (state : Int) (R : Value → PH → Prop) (s : PH) (h : vc_indexes (RP Tryz.prog R) b t dk dt dn dc dp du dy vk vn vs da dan dac state s) : DCalls Tryz.prog 140 (List.map AV.val [.v (.pointer (some ⟨b, 0, none⟩)), .v (.pointer (some t)), .v (.agg #[.int .i64 dk, .string dt, .string dn, .string dc, .string dp, .bool du, .int .i64 dy, .int .i64 vk, .int .i64 vn, .string vs, .slice da dan dac]), .v (.int .i64 state)]).toArray s R :=
  calls_vcL (c := bodyOf Tryz.f140) (ann := ann_indexes) la_indexes (by kernel_rfl) Tryz.func140 rfl (by kernel_rfl) [.v (.pointer (some ⟨b, 0, none⟩)), .v (.pointer (some t)), .v (.agg #[.int .i64 dk, .string dt, .string dn, .string dc, .string dp, .bool du, .int .i64 dy, .int .i64 vk, .int .i64 vn, .string vs, .slice da dan dac]), .v (.int .i64 state)] [] (by rw [Tryz.ntmps140]; exact Nat.le_of_ble_eq_true rfl) (by kernel_rfl) (by rw [show Tryz.f140.ntmps = 104 from Tryz.ntmps140, eq_indexes]; exact h)
/-- lintel/schema.foreigns -/
def vc_foreigns {W : Type} (π : Prims W) (b : Nat) (t : Addr) (dk : Int) (dt dn dc dp : ByteArray) (du : Bool) (dy vk vn : Int) (vs : ByteArray) (da : Option Addr) (dan dac : Nat) (state : Int) : W :=
  π.unSome (some t) fun p0 =>
  π.ld [.slice] (p0.add (4 : Nat)) fun (((a1 : Option Addr), (n2 : Nat), (c3 : Nat)), _) =>
  π.callQ (181 : Nat) #[(Go.Value.slice (a1) (n2) (c3)), (Go.Value.string (dn)), (Go.Value.func (Fn.func (149 : Nat)) #[] #[])] (false, [(false, [.int .i64])]) fun (((x4 : Int), _), _) =>
  π.join [(true, [.int .i64, .str, .str, .str, .str, .bool, .int .i64, .int .i64, .int .i64, .str, .slice]), (false, [.int .i64]), (false, [.bool])] (fun J5 =>
    π.ite (dk == (6 : Int)) (
      J5 ((dk, dt, dn, dc, dp, du, dy, vk, vn, vs, (da, dan, dac), ()), (x4, ()), (decide (x4 < (0 : Int)), ()), ())
    ) (
      J5 ((dk, dt, dn, dc, dp, du, dy, vk, vn, vs, (da, dan, dac), ()), (x4, ()), (false, ()), ())
    )
  ) (fun (((x6 : Int), (t7 : ByteArray), (t8 : ByteArray), (t9 : ByteArray), (t10 : ByteArray), (b11 : Bool), (x12 : Int), (x13 : Int), (x14 : Int), (t15 : ByteArray), ((a16 : Option Addr), (n17 : Nat), (c18 : Nat)), _), ((x19 : Int), _), ((b20 : Bool), _), _) =>
    π.ite (b20) (
      π.unSome (some t) fun p21 =>
      π.ld [.slice] (p21.add (4 : Nat)) fun (((a22 : Option Addr), (n23 : Nat), (c24 : Nat)), _) =>
      π.callQ (170 : Nat) #[(Go.Value.string (t8)), (Go.Value.int (IntKind.i64) ((↑n23 : Int)))] (false, [(false, [.int .i64])]) fun (((x25 : Int), _), _) =>
      π.ite (x25 != (0 : Int)) (
        π.ret (Go.Value.int (IntKind.i64) (x25))
      ) (
        π.callQ (178 : Nat) #[(Go.Value.pointer (some t)), (Go.Value.string (t9))] (false, [(false, [.int .i64])]) fun (((x26 : Int), _), _) =>
        π.unSome (some (Addr.mk b (0 : Nat) none)) fun p27 =>
        π.ld [.slice] (p27.add (2 : Nat)) fun (((a28 : Option Addr), (n29 : Nat), (c30 : Nat)), _) =>
        π.callQ (114 : Nat) #[(Go.Value.slice (a28) (n29) (c30)), (Go.Value.string (t10)), (Go.Value.func (Fn.func (112 : Nat)) #[] #[])] (false, [(false, [.int .i64])]) fun (((x31 : Int), _), _) =>
        π.ite (decide (x26 < (0 : Int))) (
          π.ret (Go.Value.int (IntKind.i64) ((151 : Int)))
        ) (
          π.ite (decide (x31 < (0 : Int))) (
            π.ret (Go.Value.int (IntKind.i64) ((150 : Int)))
          ) (
            π.unSome (some t) fun p32 =>
            π.ld [.slice] (p32.add (2 : Nat)) fun (((a33 : Option Addr), (n34 : Nat), (c35 : Nat)), _) =>
            π.guard ((0 : Int) ≤ x26 ∧ x26 < (↑n34 : Int)) <|
            π.unSome (a33) fun p36 =>
            π.ld [.int .i64] ((p36.add (x26.toNat * (7 : Nat))).add (2 : Nat)) fun ((x37 : Int), _) =>
            π.unSome (some (Addr.mk b (0 : Nat) none)) fun p38 =>
            π.ld [.slice] (p38.add (2 : Nat)) fun (((a39 : Option Addr), (n40 : Nat), (c41 : Nat)), _) =>
            π.guard ((0 : Int) ≤ x31 ∧ x31 < (↑n40 : Int)) <|
            π.unSome (a39) fun p42 =>
            π.ld [.slice] ((p42.add (x31.toNat * (5 : Nat))).add (2 : Nat)) fun (((a43 : Option Addr), (n44 : Nat), (c45 : Nat)), _) =>
            π.guard ((0 : Int) ≤ (0 : Int) ∧ (0 : Int) < (↑n44 : Int)) <|
            π.unSome (a43) fun p46 =>
            π.ld [.int .i64] ((p46.add (0 : Nat)).add (2 : Nat)) fun ((x47 : Int), _) =>
            π.ite (x37 != x47) (
              π.ret (Go.Value.int (IntKind.i64) ((154 : Int)))
            ) (
              π.ite (state == (0 : Int)) (
                π.ret (Go.Value.int (IntKind.i64) ((1 : Int)))
              ) (
                π.unSome (some (Addr.mk b (0 : Nat) none)) fun p48 =>
                π.ld [.int .i64] (p48.add (1 : Nat)) fun ((x49 : Int), _) =>
                π.unSome (some (Addr.mk b (0 : Nat) none)) fun p50 =>
                π.st (p50.add (1 : Nat)) [(Go.Value.int (IntKind.i64) (IntKind.i64.wrap (x49 + (1 : Int))))] <|
                π.unSome (some t) fun p51 =>
                π.ld [.slice] (p51.add (4 : Nat)) fun (((a52 : Option Addr), (n53 : Nat), (c54 : Nat)), _) =>
                π.unSome (some (Addr.mk b (0 : Nat) none)) fun p55 =>
                π.ld [.int .i64] (p55.add (1 : Nat)) fun ((x56 : Int), _) =>
                π.unSome (some t) fun p57 =>
                π.ld [.slice] (p57.add (2 : Nat)) fun (((a58 : Option Addr), (n59 : Nat), (c60 : Nat)), _) =>
                π.guard ((0 : Int) ≤ x26 ∧ x26 < (↑n59 : Int)) <|
                π.unSome (a58) fun p61 =>
                π.ld [.int .i64] ((p61.add (x26.toNat * (7 : Nat))).add (0 : Nat)) fun ((x62 : Int), _) =>
                π.unSome (some (Addr.mk b (0 : Nat) none)) fun p63 =>
                π.ld [.slice] (p63.add (2 : Nat)) fun (((a64 : Option Addr), (n65 : Nat), (c66 : Nat)), _) =>
                π.guard ((0 : Int) ≤ x31 ∧ x31 < (↑n65 : Int)) <|
                π.unSome (a64) fun p67 =>
                π.ld [.int .i64] ((p67.add (x31.toNat * (5 : Nat))).add (0 : Nat)) fun ((x68 : Int), _) =>
                π.nw (Go.Obj.cells #[(Go.Value.int (IntKind.i64) (x56)), (Go.Value.string (t8)), (Go.Value.int (IntKind.i64) (x62)), (Go.Value.int (IntKind.i64) (x68)), (Go.Value.int (IntKind.i64) (state))] (144 : Nat) ((0 : Nat), (0 : Nat))) fun r69 =>
                π.app (144 : Nat) (5 : Nat) (48 : Nat) [(Go.Value.int (IntKind.i64) ((0 : Int))), (Go.Value.string (ByteArray.mk #[])), (Go.Value.int (IntKind.i64) ((0 : Int))), (Go.Value.int (IntKind.i64) ((0 : Int))), (Go.Value.int (IntKind.i64) ((0 : Int)))] (a52) (n53) (c54) (Src.sl (some (Addr.mk r69 (0 : Nat) none)) (1 : Nat)) fun a70 n71 c72 =>
                π.unSome (some t) fun p73 =>
                π.st (p73.add (4 : Nat)) [(Go.Value.slice (a70) (n71) (c72))] <|
                π.ret (Go.Value.int (IntKind.i64) ((0 : Int)))
              )
            )
          )
        )
      )
    ) (
      π.ite (x6 == (6 : Int)) (
        π.unSome (some t) fun p74 =>
        π.ld [.slice] (p74.add (4 : Nat)) fun (((a75 : Option Addr), (n76 : Nat), (c77 : Nat)), _) =>
        π.guard ((0 : Int) ≤ x19 ∧ x19 < (↑n76 : Int)) <|
        π.unSome (a75) fun p78 =>
        π.ld [.int .i64] ((p78.add (x19.toNat * (5 : Nat))).add (4 : Nat)) fun ((x79 : Int), _) =>
        π.ite (x79 == (3 : Int)) (
          π.ret (Go.Value.int (IntKind.i64) ((152 : Int)))
        ) (
          π.ite (decide (x19 < (0 : Int))) (
            π.ret (Go.Value.int (IntKind.i64) ((153 : Int)))
          ) (
            π.unSome (some t) fun p80 =>
            π.call (182 : Nat) #[(Go.Value.pointer (some (p80.add (4 : Nat)))), (Go.Value.int (IntKind.i64) (x19)), (Go.Value.int (IntKind.i64) (state)), (Go.Value.func (Fn.func (183 : Nat)) #[] #[])] (true, []) fun (_) =>
            π.ret (Go.Value.int (IntKind.i64) ((0 : Int)))
          )
        )
      ) (
        π.ite (decide (x19 < (0 : Int))) (
          π.ret (Go.Value.int (IntKind.i64) ((153 : Int)))
        ) (
          π.unSome (some t) fun p81 =>
          π.call (182 : Nat) #[(Go.Value.pointer (some (p81.add (4 : Nat)))), (Go.Value.int (IntKind.i64) (x19)), (Go.Value.int (IntKind.i64) (state)), (Go.Value.func (Fn.func (183 : Nat)) #[] #[])] (true, []) fun (_) =>
          π.ret (Go.Value.int (IntKind.i64) ((0 : Int)))
        )
      )
    )
  )
def ann_foreigns : Ann := { draws := [(1, { A := [0, 1, 2, 3, 4, 5, 6, 7], quiet := [6] }), (3, { A := [0, 1, 2, 3, 4, 5, 6, 7, 8], quiet := [7] }), (6, { A := [0, 1, 2, 3, 4, 5, 6, 7, 8, 9, 10, 11, 12], quiet := [3, 10] }), (11, { A := [0, 1, 2, 3, 4, 5, 6, 7, 8, 9, 10, 11, 12, 13, 14, 15, 16, 17, 18, 19, 20] }), (16, { A := [0, 1, 2, 3, 4, 5, 6, 7, 8, 9, 10, 11, 12, 13, 14, 15, 16, 17, 18, 19, 20, 21, 22, 23, 24, 25, 26, 27, 28], eag := [31, 32] })], join := [(3, [(6, 36), (9, 3), (20, 4)])], loop := [] }
def la_foreigns : LA := { ptr := [(6, 6, 0), (17, 6, 2), (21, 6, 0), (28, 6, 2), (40, 6, 3), (47, 6, 4), (96, 6, 2), (121, 6, 0)], ty := [(6, 36)] }
set_option maxRecDepth 100000 in
theorem eq_foreigns {W : Type} (π : Prims W) (b : Nat) (t : Addr) (dk : Int) (dt dn dc dp : ByteArray) (du : Bool) (dy vk vn : Int) (vs : ByteArray) (da : Option Addr) (dan dac : Nat) (state : Int) : bodyL π Tryz.prog la_foreigns ann_foreigns (mkFr (maskA [] [.v (.pointer (some ⟨b, 0, none⟩)), .v (.pointer (some t)), .v (.agg #[.int .i64 dk, .string dt, .string dn, .string dc, .string dp, .bool du, .int .i64 dy, .int .i64 vk, .int .i64 vn, .string vs, .slice da dan dac]), .v (.int .i64 state)] 0) 144) Tryz.f141 (bodyOf Tryz.f141) (mkFr (List.map some [.v (.pointer (some ⟨b, 0, none⟩)), .v (.pointer (some t)), .v (.agg #[.int .i64 dk, .string dt, .string dn, .string dc, .string dp, .bool du, .int .i64 dy, .int .i64 vk, .int .i64 vn, .string vs, .slice da dan dac]), .v (.int .i64 state)]) 144) = vc_foreigns π b t dk dt dn dc dp du dy vk vn vs da dan dac state := by kernel_rfl
theorem ok_foreigns (b : Nat) (t : Addr) (dk : Int) (dt dn dc dp : ByteArray) (du : Bool) (dy vk vn : Int) (vs : ByteArray) (da : Option Addr) (dan dac : Nat) (state : Int) (R : Value → PH → Prop) (s : PH) (h : vc_foreigns (RP Tryz.prog R) b t dk dt dn dc dp du dy vk vn vs da dan dac state s) : DCalls Tryz.prog 141 (List.map AV.val [.v (.pointer (some ⟨b, 0, none⟩)), .v (.pointer (some t)), .v (.agg #[.int .i64 dk, .string dt, .string dn, .string dc, .string dp, .bool du, .int .i64 dy, .int .i64 vk, .int .i64 vn, .string vs, .slice da dan dac]), .v (.int .i64 state)]).toArray s R :=
  calls_vcL (c := bodyOf Tryz.f141) (ann := ann_foreigns) la_foreigns (by kernel_rfl) Tryz.func141 rfl (by kernel_rfl) [.v (.pointer (some ⟨b, 0, none⟩)), .v (.pointer (some t)), .v (.agg #[.int .i64 dk, .string dt, .string dn, .string dc, .string dp, .bool du, .int .i64 dy, .int .i64 vk, .int .i64 vn, .string vs, .slice da dan dac]), .v (.int .i64 state)] [] (by rw [Tryz.ntmps141]; exact Nat.le_of_ble_eq_true rfl) (by kernel_rfl) (by rw [show Tryz.f141.ntmps = 144 from Tryz.ntmps141, eq_foreigns]; exact h)
/-- lintel/schema.turn -/
def vc_turn {W : Type} (π : Prims W) (b : Nat) (dk : Int) (dt dn dc dp : ByteArray) (du : Bool) (dy vk vn : Int) (vs : ByteArray) (da : Option Addr) (dan dac : Nat) (state : Int) : W :=
  π.unSome (some (Addr.mk b (0 : Nat) none)) fun p0 =>
  π.ld [.slice] (p0.add (2 : Nat)) fun (((a1 : Option Addr), (n2 : Nat), (c3 : Nat)), _) =>
  π.callQ (114 : Nat) #[(Go.Value.slice (a1) (n2) (c3)), (Go.Value.string (dt)), (Go.Value.func (Fn.func (112 : Nat)) #[] #[])] (false, [(false, [.int .i64])]) fun (((x4 : Int), _), _) =>
  π.ite (dk == (1 : Int)) (
    π.call (138 : Nat) #[(Go.Value.pointer (some (Addr.mk b (0 : Nat) none))), (Go.Value.agg #[(Go.Value.int (IntKind.i64) (dk)), (Go.Value.string (dt)), (Go.Value.string (dn)), (Go.Value.string (dc)), (Go.Value.string (dp)), (Go.Value.bool (du)), (Go.Value.int (IntKind.i64) (dy)), (Go.Value.int (IntKind.i64) (vk)), (Go.Value.int (IntKind.i64) (vn)), (Go.Value.string (vs)), (Go.Value.slice (da) (dan) (dac))]), (Go.Value.int (IntKind.i64) (state)), (Go.Value.int (IntKind.i64) (x4))] (false, [(false, [.int .i64])]) fun (((x5 : Int), _), _) =>
    π.ret (Go.Value.int (IntKind.i64) (x5))
  ) (
    π.ite (decide (x4 < (0 : Int))) (
      π.ret (Go.Value.int (IntKind.i64) ((150 : Int)))
    ) (
      π.unSome (some (Addr.mk b (0 : Nat) none)) fun p6 =>
      π.ld [.slice] (p6.add (2 : Nat)) fun (((a7 : Option Addr), (n8 : Nat), (c9 : Nat)), _) =>
      π.guard ((0 : Int) ≤ x4 ∧ x4 < (↑n8 : Int)) <|
      π.unSome (a7) fun p10 =>
      π.join [(true, [.int .i64, .str, .str, .str, .str, .bool, .int .i64, .int .i64, .int .i64, .str, .slice]), (false, [.ptr]), (false, [.int .i64]), (false, [.bool])] (fun J11 =>
        π.ite (dk == (4 : Int)) (
          J11 ((dk, dt, dn, dc, dp, du, dy, vk, vn, vs, (da, dan, dac), ()), (some (p10.add (x4.toNat * (5 : Nat))), ()), (dk, ()), (true, ()), ())
        ) (
          J11 ((dk, dt, dn, dc, dp, du, dy, vk, vn, vs, (da, dan, dac), ()), (some (p10.add (x4.toNat * (5 : Nat))), ()), (dk, ()), (dk == (5 : Int), ()), ())
        )
      ) (fun (((x12 : Int), (t13 : ByteArray), (t14 : ByteArray), (t15 : ByteArray), (t16 : ByteArray), (b17 : Bool), (x18 : Int), (x19 : Int), (x20 : Int), (t21 : ByteArray), ((a22 : Option Addr), (n23 : Nat), (c24 : Nat)), _), (p25, _), ((x26 : Int), _), ((b27 : Bool), _), _) =>
        π.ite (b27) (
          π.call (139 : Nat) #[(Go.Value.pointer (some (Addr.mk b (0 : Nat) none))), (Go.Value.pointer (p25)), (Go.Value.agg #[(Go.Value.int (IntKind.i64) (x12)), (Go.Value.string (t13)), (Go.Value.string (t14)), (Go.Value.string (t15)), (Go.Value.string (t16)), (Go.Value.bool (b17)), (Go.Value.int (IntKind.i64) (x18)), (Go.Value.int (IntKind.i64) (x19)), (Go.Value.int (IntKind.i64) (x20)), (Go.Value.string (t21)), (Go.Value.slice (a22) (n23) (c24))]), (Go.Value.int (IntKind.i64) (state))] (false, [(false, [.int .i64])]) fun (((x28 : Int), _), _) =>
          π.ret (Go.Value.int (IntKind.i64) (x28))
        ) (
          π.ite (x26 == (2 : Int)) (
            π.call (140 : Nat) #[(Go.Value.pointer (some (Addr.mk b (0 : Nat) none))), (Go.Value.pointer (p25)), (Go.Value.agg #[(Go.Value.int (IntKind.i64) (x12)), (Go.Value.string (t13)), (Go.Value.string (t14)), (Go.Value.string (t15)), (Go.Value.string (t16)), (Go.Value.bool (b17)), (Go.Value.int (IntKind.i64) (x18)), (Go.Value.int (IntKind.i64) (x19)), (Go.Value.int (IntKind.i64) (x20)), (Go.Value.string (t21)), (Go.Value.slice (a22) (n23) (c24))]), (Go.Value.int (IntKind.i64) (state))] (false, [(false, [.int .i64])]) fun (((x29 : Int), _), _) =>
            π.ret (Go.Value.int (IntKind.i64) (x29))
          ) (
            π.ite (x26 == (3 : Int)) (
              π.call (140 : Nat) #[(Go.Value.pointer (some (Addr.mk b (0 : Nat) none))), (Go.Value.pointer (p25)), (Go.Value.agg #[(Go.Value.int (IntKind.i64) (x12)), (Go.Value.string (t13)), (Go.Value.string (t14)), (Go.Value.string (t15)), (Go.Value.string (t16)), (Go.Value.bool (b17)), (Go.Value.int (IntKind.i64) (x18)), (Go.Value.int (IntKind.i64) (x19)), (Go.Value.int (IntKind.i64) (x20)), (Go.Value.string (t21)), (Go.Value.slice (a22) (n23) (c24))]), (Go.Value.int (IntKind.i64) (state))] (false, [(false, [.int .i64])]) fun (((x30 : Int), _), _) =>
              π.ret (Go.Value.int (IntKind.i64) (x30))
            ) (
              π.call (141 : Nat) #[(Go.Value.pointer (some (Addr.mk b (0 : Nat) none))), (Go.Value.pointer (p25)), (Go.Value.agg #[(Go.Value.int (IntKind.i64) (x12)), (Go.Value.string (t13)), (Go.Value.string (t14)), (Go.Value.string (t15)), (Go.Value.string (t16)), (Go.Value.bool (b17)), (Go.Value.int (IntKind.i64) (x18)), (Go.Value.int (IntKind.i64) (x19)), (Go.Value.int (IntKind.i64) (x20)), (Go.Value.string (t21)), (Go.Value.slice (a22) (n23) (c24))]), (Go.Value.int (IntKind.i64) (state))] (false, [(false, [.int .i64])]) fun (((x31 : Int), _), _) =>
              π.ret (Go.Value.int (IntKind.i64) (x31))
            )
          )
        )
      )
    )
  )
def ann_turn : Ann := { draws := [(1, { A := [0, 1, 2, 3, 4, 5, 6, 7], quiet := [6] })], join := [(10, [(4, 36), (8, 228), (33, 3), (34, 4)])], loop := [] }
def la_turn : LA := { ptr := [(4, 4, 0), (13, 4, 1), (16, 4, 0), (32, 4, 0)], ty := [(4, 36)] }
set_option maxRecDepth 100000 in
theorem eq_turn {W : Type} (π : Prims W) (b : Nat) (dk : Int) (dt dn dc dp : ByteArray) (du : Bool) (dy vk vn : Int) (vs : ByteArray) (da : Option Addr) (dan dac : Nat) (state : Int) : bodyL π Tryz.prog la_turn ann_turn (mkFr (maskA [] [.v (.pointer (some ⟨b, 0, none⟩)), .v (.agg #[.int .i64 dk, .string dt, .string dn, .string dc, .string dp, .bool du, .int .i64 dy, .int .i64 vk, .int .i64 vn, .string vs, .slice da dan dac]), .v (.int .i64 state)] 0) 55) Tryz.f96 (bodyOf Tryz.f96) (mkFr (List.map some [.v (.pointer (some ⟨b, 0, none⟩)), .v (.agg #[.int .i64 dk, .string dt, .string dn, .string dc, .string dp, .bool du, .int .i64 dy, .int .i64 vk, .int .i64 vn, .string vs, .slice da dan dac]), .v (.int .i64 state)]) 55) = vc_turn π b dk dt dn dc dp du dy vk vn vs da dan dac state := by kernel_rfl
theorem ok_turn (b : Nat) (dk : Int) (dt dn dc dp : ByteArray) (du : Bool) (dy vk vn : Int) (vs : ByteArray) (da : Option Addr) (dan dac : Nat) (state : Int) (R : Value → PH → Prop) (s : PH) (h : vc_turn (RP Tryz.prog R) b dk dt dn dc dp du dy vk vn vs da dan dac state s) : DCalls Tryz.prog 96 (List.map AV.val [.v (.pointer (some ⟨b, 0, none⟩)), .v (.agg #[.int .i64 dk, .string dt, .string dn, .string dc, .string dp, .bool du, .int .i64 dy, .int .i64 vk, .int .i64 vn, .string vs, .slice da dan dac]), .v (.int .i64 state)]).toArray s R :=
  calls_vcL (c := bodyOf Tryz.f96) (ann := ann_turn) la_turn (by kernel_rfl) Tryz.func96 rfl (by kernel_rfl) [.v (.pointer (some ⟨b, 0, none⟩)), .v (.agg #[.int .i64 dk, .string dt, .string dn, .string dc, .string dp, .bool du, .int .i64 dy, .int .i64 vk, .int .i64 vn, .string vs, .slice da dan dac]), .v (.int .i64 state)] [] (by rw [Tryz.ntmps96]; exact Nat.le_of_ble_eq_true rfl) (by kernel_rfl) (by rw [show Tryz.f96.ntmps = 55 from Tryz.ntmps96, eq_turn]; exact h)
/-- lintel/schema.Turn -/
def vc_Turn {W : Type} (π : Prims W) (sv sl : Int) (sa : Option Addr) (san sac : Nat) (dk : Int) (dt dn dc dp : ByteArray) (du : Bool) (dy vk vn : Int) (vs : ByteArray) (da : Option Addr) (dan dac : Nat) (state : Int) : W :=
  π.join [(true, [.int .i64, .int .i64, .slice]), (true, [.int .i64, .str, .str, .str, .str, .bool, .int .i64, .int .i64, .int .i64, .str, .slice]), (true, [.int .i64, .int .i64, .slice])] (fun J0 =>
    π.call (80 : Nat) #[(Go.Value.agg #[(Go.Value.int (IntKind.i64) (sv)), (Go.Value.int (IntKind.i64) (sl)), (Go.Value.slice (sa) (san) (sac))])] (false, [(false, [.int .i64])]) fun (((x1 : Int), _), _) =>
    π.ite (x1 != (0 : Int)) (
      π.ret (Go.Value.tuple #[(Go.Value.agg #[(Go.Value.int (IntKind.i64) ((0 : Int))), (Go.Value.int (IntKind.i64) ((0 : Int))), (Go.Value.slice (none) ((0 : Nat)) ((0 : Nat)))]), (Go.Value.int (IntKind.i64) ((100 : Int)))])
    ) (
      π.ite (decide (state < (0 : Int))) (
        π.ret (Go.Value.tuple #[(Go.Value.agg #[(Go.Value.int (IntKind.i64) ((0 : Int))), (Go.Value.int (IntKind.i64) ((0 : Int))), (Go.Value.slice (none) ((0 : Nat)) ((0 : Nat)))]), (Go.Value.int (IntKind.i64) ((100 : Int)))])
      ) (
        π.ite (decide (state > (3 : Int))) (
          π.ret (Go.Value.tuple #[(Go.Value.agg #[(Go.Value.int (IntKind.i64) ((0 : Int))), (Go.Value.int (IntKind.i64) ((0 : Int))), (Go.Value.slice (none) ((0 : Nat)) ((0 : Nat)))]), (Go.Value.int (IntKind.i64) ((100 : Int)))])
        ) (
          J0 ((sv, sl, (sa, san, sac), ()), (dk, dt, dn, dc, dp, du, dy, vk, vn, vs, (da, dan, dac), ()), ((0 : Int), (0 : Int), (none, (0 : Nat), (0 : Nat)), ()), ())
        )
      )
    )
  ) (fun (((x2 : Int), (x3 : Int), ((a4 : Option Addr), (n5 : Nat), (c6 : Nat)), _), ((x7 : Int), (t8 : ByteArray), (t9 : ByteArray), (t10 : ByteArray), (t11 : ByteArray), (b12 : Bool), (x13 : Int), (x14 : Int), (x15 : Int), (t16 : ByteArray), ((a17 : Option Addr), (n18 : Nat), (c19 : Nat)), _), ((x20 : Int), (x21 : Int), ((a22 : Option Addr), (n23 : Nat), (c24 : Nat)), _), _) =>
    π.join [(true, [.int .i64, .int .i64, .slice]), (true, [.int .i64, .str, .str, .str, .str, .bool, .int .i64, .int .i64, .int .i64, .str, .slice]), (true, [.int .i64, .int .i64, .slice])] (fun J25 =>
      π.ite (decide (x7 < (1 : Int))) (
        π.ret (Go.Value.tuple #[(Go.Value.agg #[(Go.Value.int (IntKind.i64) ((0 : Int))), (Go.Value.int (IntKind.i64) ((0 : Int))), (Go.Value.slice (none) ((0 : Nat)) ((0 : Nat)))]), (Go.Value.int (IntKind.i64) ((1 : Int)))])
      ) (
        π.ite (decide (x7 > (7 : Int))) (
          π.ret (Go.Value.tuple #[(Go.Value.agg #[(Go.Value.int (IntKind.i64) ((0 : Int))), (Go.Value.int (IntKind.i64) ((0 : Int))), (Go.Value.slice (none) ((0 : Nat)) ((0 : Nat)))]), (Go.Value.int (IntKind.i64) ((1 : Int)))])
        ) (
          J25 ((x2, x3, (a4, n5, c6), ()), (x7, t8, t9, t10, t11, b12, x13, x14, x15, t16, (a17, n18, c19), ()), (x20, x21, (a22, n23, c24), ()), ())
        )
      )
    ) (fun (((x26 : Int), (x27 : Int), ((a28 : Option Addr), (n29 : Nat), (c30 : Nat)), _), ((x31 : Int), (t32 : ByteArray), (t33 : ByteArray), (t34 : ByteArray), (t35 : ByteArray), (b36 : Bool), (x37 : Int), (x38 : Int), (x39 : Int), (t40 : ByteArray), ((a41 : Option Addr), (n42 : Nat), (c43 : Nat)), _), ((x44 : Int), (x45 : Int), ((a46 : Option Addr), (n47 : Nat), (c48 : Nat)), _), _) =>
      π.nw (Go.Obj.cells #[(Go.Value.int (IntKind.i64) ((0 : Int))), (Go.Value.int (IntKind.i64) ((0 : Int))), (Go.Value.slice (none) ((0 : Nat)) ((0 : Nat)))] (44 : Nat) ((0 : Nat), (0 : Nat))) fun r49 =>
      π.st (Addr.mk r49 (0 : Nat) none) [(Go.Value.int (IntKind.i64) (x26)), (Go.Value.int (IntKind.i64) (x27)), (Go.Value.slice (a28) (n29) (c30))] <|
      π.ld [.int .i64] ((Addr.mk r49 (0 : Nat) none).add (0 : Nat)) fun ((x50 : Int), _) =>
      π.st ((Addr.mk r49 (0 : Nat) none).add (0 : Nat)) [(Go.Value.int (IntKind.i64) (IntKind.i64.wrap (x50 + (1 : Int))))] <|
      π.st ((Addr.mk r49 (0 : Nat) none).add (2 : Nat)) [(Go.Value.slice (none) ((0 : Nat)) ((0 : Nat)))] <|
      π.loop [(true, [.int .i64, .str, .str, .str, .str, .bool, .int .i64, .int .i64, .int .i64, .str, .slice]), (true, [.int .i64, .int .i64, .slice]), (false, [.addr]), (false, [.slice]), (false, [.int .i64]), (false, [.int .i64])] ((x31, t32, t33, t34, t35, b36, x37, x38, x39, t40, (a41, n42, c43), ()), (x44, x45, (a46, n47, c48), ()), (Addr.mk r49 (0 : Nat) none, ()), ((a28, n29, c30), ()), ((↑n29 : Int), ()), ((0 : Int), ()), ()) fun (((x52 : Int), (t53 : ByteArray), (t54 : ByteArray), (t55 : ByteArray), (t56 : ByteArray), (b57 : Bool), (x58 : Int), (x59 : Int), (x60 : Int), (t61 : ByteArray), ((a62 : Option Addr), (n63 : Nat), (c64 : Nat)), _), ((x65 : Int), (x66 : Int), ((a67 : Option Addr), (n68 : Nat), (c69 : Nat)), _), (p70, _), (((a71 : Option Addr), (n72 : Nat), (c73 : Nat)), _), ((x74 : Int), _), ((x75 : Int), _), _) again51 =>
        π.ite (decide (x75 < x74)) (
          π.guard ((0 : Int) ≤ x75 ∧ x75 < (↑n72 : Int)) <|
          π.unSome (a71) fun p76 =>
          π.ld [.int .i64, .str, .slice, .slice, .slice] (p76.add (x75.toNat * (5 : Nat))) fun ((x77 : Int), (t78 : ByteArray), ((a79 : Option Addr), (n80 : Nat), (c81 : Nat)), ((a82 : Option Addr), (n83 : Nat), (c84 : Nat)), ((a85 : Option Addr), (n86 : Nat), (c87 : Nat)), _) =>
          π.ld [.slice] (p70.add (2 : Nat)) fun (((a88 : Option Addr), (n89 : Nat), (c90 : Nat)), _) =>
          π.call (95 : Nat) #[(Go.Value.agg #[(Go.Value.int (IntKind.i64) (x77)), (Go.Value.string (t78)), (Go.Value.slice (a79) (n80) (c81)), (Go.Value.slice (a82) (n83) (c84)), (Go.Value.slice (a85) (n86) (c87))])] (false, [(true, [.int .i64, .str, .slice, .slice, .slice])]) fun (((x91 : Int), (t92 : ByteArray), ((a93 : Option Addr), (n94 : Nat), (c95 : Nat)), ((a96 : Option Addr), (n97 : Nat), (c98 : Nat)), ((a99 : Option Addr), (n100 : Nat), (c101 : Nat)), _), _) =>
          π.still [.slice] (p70.add (2 : Nat)) ((a88, n89, c90), ()) <|
          π.nw (Go.Obj.cells #[(Go.Value.int (IntKind.i64) (x91)), (Go.Value.string (t92)), (Go.Value.slice (a93) (n94) (c95)), (Go.Value.slice (a96) (n97) (c98)), (Go.Value.slice (a99) (n100) (c101))] (139 : Nat) ((0 : Nat), (0 : Nat))) fun r102 =>
          π.app (139 : Nat) (5 : Nat) (96 : Nat) [(Go.Value.int (IntKind.i64) ((0 : Int))), (Go.Value.string (ByteArray.mk #[])), (Go.Value.slice (none) ((0 : Nat)) ((0 : Nat))), (Go.Value.slice (none) ((0 : Nat)) ((0 : Nat))), (Go.Value.slice (none) ((0 : Nat)) ((0 : Nat)))] (a88) (n89) (c90) (Src.sl (some (Addr.mk r102 (0 : Nat) none)) (1 : Nat)) fun a103 n104 c105 =>
          π.st (p70.add (2 : Nat)) [(Go.Value.slice (a103) (n104) (c105))] <|
          again51 ((x52, t53, t54, t55, t56, b57, x58, x59, x60, t61, (a62, n63, c64), ()), (x65, x66, (a67, n68, c69), ()), (p70, ()), ((a71, n72, c73), ()), (x74, ()), (IntKind.i64.wrap (x75 + (1 : Int)), ()), ())
        ) (
          π.call (96 : Nat) #[(Go.Value.pointer (some p70)), (Go.Value.agg #[(Go.Value.int (IntKind.i64) (x52)), (Go.Value.string (t53)), (Go.Value.string (t54)), (Go.Value.string (t55)), (Go.Value.string (t56)), (Go.Value.bool (b57)), (Go.Value.int (IntKind.i64) (x58)), (Go.Value.int (IntKind.i64) (x59)), (Go.Value.int (IntKind.i64) (x60)), (Go.Value.string (t61)), (Go.Value.slice (a62) (n63) (c64))]), (Go.Value.int (IntKind.i64) (state))] (false, [(false, [.int .i64])]) fun (((x106 : Int), _), _) =>
          π.ite (x106 != (0 : Int)) (
            π.ret (Go.Value.tuple #[(Go.Value.agg #[(Go.Value.int (IntKind.i64) ((0 : Int))), (Go.Value.int (IntKind.i64) ((0 : Int))), (Go.Value.slice (none) ((0 : Nat)) ((0 : Nat)))]), (Go.Value.int (IntKind.i64) (x106))])
          ) (
            π.ld [.int .i64, .int .i64, .slice] (p70) fun ((x107 : Int), (x108 : Int), ((a109 : Option Addr), (n110 : Nat), (c111 : Nat)), _) =>
            π.ret (Go.Value.tuple #[(Go.Value.agg #[(Go.Value.int (IntKind.i64) (x107)), (Go.Value.int (IntKind.i64) (x108)), (Go.Value.slice (a109) (n110) (c111))]), (Go.Value.int (IntKind.i64) ((0 : Int)))])
          )
        )
    )
  )
def ann_Turn : Ann := { draws := [(11, { A := [0, 1, 2], chkL := [(3, [1])], eag := [6] })], join := [(3, [(3, 44), (4, 36), (6, 44)]), (5, [(3, 44), (4, 36), (6, 44)])], loop := [(9, [(4, 36), (6, 44), (8, 1000000), (40, 42), (41, 3), (42, 3)])] }
def la_Turn : LA := { ptr := [(3, 3, 0), (4, 4, 0), (6, 6, 0), (10, 10, 0), (24, 4, 0), (28, 4, 0), (39, 3, 2)], ty := [(3, 44), (4, 36), (6, 44), (10, 139)] }
set_option maxRecDepth 100000 in
theorem eq_Turn {W : Type} (π : Prims W) (sv sl : Int) (sa : Option Addr) (san sac : Nat) (dk : Int) (dt dn dc dp : ByteArray) (du : Bool) (dy vk vn : Int) (vs : ByteArray) (da : Option Addr) (dan dac : Nat) (state : Int) : bodyL π Tryz.prog la_Turn ann_Turn (mkFr (maskA [] [.v (.agg #[.int .i64 sv, .int .i64 sl, .slice sa san sac]), .v (.agg #[.int .i64 dk, .string dt, .string dn, .string dc, .string dp, .bool du, .int .i64 dy, .int .i64 vk, .int .i64 vn, .string vs, .slice da dan dac]), .v (.int .i64 state)] 0) 62) Tryz.f64 (bodyOf Tryz.f64) (mkFr (List.map some [.v (.agg #[.int .i64 sv, .int .i64 sl, .slice sa san sac]), .v (.agg #[.int .i64 dk, .string dt, .string dn, .string dc, .string dp, .bool du, .int .i64 dy, .int .i64 vk, .int .i64 vn, .string vs, .slice da dan dac]), .v (.int .i64 state)]) 62) = vc_Turn π sv sl sa san sac dk dt dn dc dp du dy vk vn vs da dan dac state := by kernel_rfl
theorem ok_Turn (sv sl : Int) (sa : Option Addr) (san sac : Nat) (dk : Int) (dt dn dc dp : ByteArray) (du : Bool) (dy vk vn : Int) (vs : ByteArray) (da : Option Addr) (dan dac : Nat) (state : Int) (R : Value → PH → Prop) (s : PH) (h : vc_Turn (RP Tryz.prog R) sv sl sa san sac dk dt dn dc dp du dy vk vn vs da dan dac state s) : DCalls Tryz.prog 64 (List.map AV.val [.v (.agg #[.int .i64 sv, .int .i64 sl, .slice sa san sac]), .v (.agg #[.int .i64 dk, .string dt, .string dn, .string dc, .string dp, .bool du, .int .i64 dy, .int .i64 vk, .int .i64 vn, .string vs, .slice da dan dac]), .v (.int .i64 state)]).toArray s R :=
  calls_vcL (c := bodyOf Tryz.f64) (ann := ann_Turn) la_Turn (by kernel_rfl) Tryz.func64 rfl (by kernel_rfl) [.v (.agg #[.int .i64 sv, .int .i64 sl, .slice sa san sac]), .v (.agg #[.int .i64 dk, .string dt, .string dn, .string dc, .string dp, .bool du, .int .i64 dy, .int .i64 vk, .int .i64 vn, .string vs, .slice da dan dac]), .v (.int .i64 state)] [] (by rw [Tryz.ntmps64]; exact Nat.le_of_ble_eq_true rfl) (by kernel_rfl) (by rw [show Tryz.f64.ntmps = 62 from Tryz.ntmps64, eq_Turn]; exact h)
/-- lintel/schema.Path$1 -/
def vc_bump {W : Type} (π : Prims W) (state : Int) : W :=
  π.ret (Go.Value.agg #[(Go.Value.int (IntKind.i64) ((1 : Int))), (Go.Value.int (IntKind.i64) (state))])
def ann_bump : Ann := { draws := [], join := [], loop := [] }
def la_bump : LA := { ptr := [(2, 2, 0)], ty := [(2, 61)] }
set_option maxRecDepth 100000 in
theorem eq_bump {W : Type} (π : Prims W) (state : Int) : bodyL π Tryz.prog la_bump ann_bump (mkFr (maskA [] [.v (.int .i64 state)] 0) 5) Tryz.f93 (bodyOf Tryz.f93) (mkFr (List.map some [.v (.int .i64 state)]) 5) = vc_bump π state := by kernel_rfl
theorem ok_bump (state : Int) (R : Value → PH → Prop) (s : PH) (h : vc_bump (RP Tryz.prog R) state s) : DCalls Tryz.prog 93 (List.map AV.val [.v (.int .i64 state)]).toArray s R :=
  calls_vcL (c := bodyOf Tryz.f93) (ann := ann_bump) la_bump (by kernel_rfl) Tryz.func93 rfl (by kernel_rfl) [.v (.int .i64 state)] [] (by rw [Tryz.ntmps93]; exact Nat.le_of_ble_eq_true rfl) (by kernel_rfl) (by rw [show Tryz.f93.ntmps = 5 from Tryz.ntmps93, eq_bump]; exact h)
/-- lintel/schema.Path -/
def vc_Path {W : Type} (π : Prims W) (dk : Int) (dt dn dc dp : ByteArray) (du : Bool) (dy vk vn : Int) (vs : ByteArray) (da : Option Addr) (dan dac : Nat) (back : Bool) : W :=
  π.join [(true, [.int .i64, .str, .str, .str, .str, .bool, .int .i64, .int .i64, .int .i64, .str, .slice]), (false, [.raw]), (true, [.int .i64, .int .i64]), (true, [.int .i64, .int .i64]), (true, [.int .i64, .int .i64])] (fun J0 =>
    π.join [(true, [.int .i64, .str, .str, .str, .str, .bool, .int .i64, .int .i64, .int .i64, .str, .slice]), (false, [.raw]), (true, [.int .i64, .int .i64]), (true, [.int .i64, .int .i64]), (true, [.int .i64, .int .i64]), (false, [.bool])] (fun J1 =>
      π.ite (back) (
        J1 ((dk, dt, dn, dc, dp, du, dy, vk, vn, vs, (da, dan, dac), ()), ((Go.Value.func (Fn.func (93 : Nat)) #[] #[]), ()), ((3 : Int), (0 : Int), ()), ((4 : Int), (0 : Int), ()), ((5 : Int), (0 : Int), ()), (dk == (2 : Int), ()), ())
      ) (
        J1 ((dk, dt, dn, dc, dp, du, dy, vk, vn, vs, (da, dan, dac), ()), ((Go.Value.func (Fn.func (93 : Nat)) #[] #[]), ()), ((3 : Int), (0 : Int), ()), ((4 : Int), (0 : Int), ()), ((5 : Int), (0 : Int), ()), (false, ()), ())
      )
    ) (fun (((x2 : Int), (t3 : ByteArray), (t4 : ByteArray), (t5 : ByteArray), (t6 : ByteArray), (b7 : Bool), (x8 : Int), (x9 : Int), (x10 : Int), (t11 : ByteArray), ((a12 : Option Addr), (n13 : Nat), (c14 : Nat)), _), ((v15 : Value), _), ((x16 : Int), (x17 : Int), _), ((x18 : Int), (x19 : Int), _), ((x20 : Int), (x21 : Int), _), ((b22 : Bool), _), _) =>
      π.ite (b22) (
        π.callV v15 #[(Go.Value.int (IntKind.i64) ((1 : Int)))] (false, [(true, [.int .i64, .int .i64])]) fun (((x23 : Int), (x24 : Int), _), _) =>
        π.callV v15 #[(Go.Value.int (IntKind.i64) ((0 : Int)))] (false, [(true, [.int .i64, .int .i64])]) fun (((x25 : Int), (x26 : Int), _), _) =>
        π.nw (Go.Obj.cells #[(Go.Value.int (IntKind.i64) (x23)), (Go.Value.int (IntKind.i64) (x24)), (Go.Value.int (IntKind.i64) (x16)), (Go.Value.int (IntKind.i64) (x17)), (Go.Value.int (IntKind.i64) (x20)), (Go.Value.int (IntKind.i64) (x21)), (Go.Value.int (IntKind.i64) (x25)), (Go.Value.int (IntKind.i64) (x26))] (61 : Nat) ((0 : Nat), (0 : Nat))) fun r27 =>
        π.ret (Go.Value.slice (some (Addr.mk r27 (0 : Nat) none)) ((4 : Nat)) ((4 : Nat)))
      ) (
        π.join [(true, [.int .i64, .str, .str, .str, .str, .bool, .int .i64, .int .i64, .int .i64, .str, .slice]), (false, [.raw]), (true, [.int .i64, .int .i64]), (true, [.int .i64, .int .i64]), (true, [.int .i64, .int .i64]), (false, [.bool])] (fun J28 =>
          π.ite (back) (
            J28 ((x2, t3, t4, t5, t6, b7, x8, x9, x10, t11, (a12, n13, c14), ()), (v15, ()), (x16, x17, ()), (x18, x19, ()), (x20, x21, ()), (x2 == (4 : Int), ()), ())
          ) (
            J28 ((x2, t3, t4, t5, t6, b7, x8, x9, x10, t11, (a12, n13, c14), ()), (v15, ()), (x16, x17, ()), (x18, x19, ()), (x20, x21, ()), (false, ()), ())
          )
        ) (fun (((x29 : Int), (t30 : ByteArray), (t31 : ByteArray), (t32 : ByteArray), (t33 : ByteArray), (b34 : Bool), (x35 : Int), (x36 : Int), (x37 : Int), (t38 : ByteArray), ((a39 : Option Addr), (n40 : Nat), (c41 : Nat)), _), ((v42 : Value), _), ((x43 : Int), (x44 : Int), _), ((x45 : Int), (x46 : Int), _), ((x47 : Int), (x48 : Int), _), ((b49 : Bool), _), _) =>
          π.ite (b49) (
            π.callV v42 #[(Go.Value.int (IntKind.i64) ((1 : Int)))] (false, [(true, [.int .i64, .int .i64])]) fun (((x50 : Int), (x51 : Int), _), _) =>
            π.callV v42 #[(Go.Value.int (IntKind.i64) ((0 : Int)))] (false, [(true, [.int .i64, .int .i64])]) fun (((x52 : Int), (x53 : Int), _), _) =>
            π.nw (Go.Obj.cells #[(Go.Value.int (IntKind.i64) (x50)), (Go.Value.int (IntKind.i64) (x51)), (Go.Value.int (IntKind.i64) (x52)), (Go.Value.int (IntKind.i64) (x53))] (61 : Nat) ((0 : Nat), (0 : Nat))) fun r54 =>
            π.ret (Go.Value.slice (some (Addr.mk r54 (0 : Nat) none)) ((2 : Nat)) ((2 : Nat)))
          ) (
            π.ite (back) (
              π.ite (x29 == (6 : Int)) (
                π.callV v42 #[(Go.Value.int (IntKind.i64) ((0 : Int)))] (false, [(true, [.int .i64, .int .i64])]) fun (((x55 : Int), (x56 : Int), _), _) =>
                π.nw (Go.Obj.cells #[(Go.Value.int (IntKind.i64) (x55)), (Go.Value.int (IntKind.i64) (x56))] (61 : Nat) ((0 : Nat), (0 : Nat))) fun r57 =>
                π.ret (Go.Value.slice (some (Addr.mk r57 (0 : Nat) none)) ((1 : Nat)) ((1 : Nat)))
              ) (
                π.ite (back) (
                  π.ret (Go.Value.slice (none) ((0 : Nat)) ((0 : Nat)))
                ) (
                  J0 ((x29, t30, t31, t32, t33, b34, x35, x36, x37, t38, (a39, n40, c41), ()), (v42, ()), (x43, x44, ()), (x45, x46, ()), (x47, x48, ()), ())
                )
              )
            ) (
              π.ite (back) (
                π.ret (Go.Value.slice (none) ((0 : Nat)) ((0 : Nat)))
              ) (
                J0 ((x29, t30, t31, t32, t33, b34, x35, x36, x37, t38, (a39, n40, c41), ()), (v42, ()), (x43, x44, ()), (x45, x46, ()), (x47, x48, ()), ())
              )
            )
          )
        )
      )
    )
  ) (fun (((x58 : Int), (t59 : ByteArray), (t60 : ByteArray), (t61 : ByteArray), (t62 : ByteArray), (b63 : Bool), (x64 : Int), (x65 : Int), (x66 : Int), (t67 : ByteArray), ((a68 : Option Addr), (n69 : Nat), (c70 : Nat)), _), ((v71 : Value), _), ((x72 : Int), (x73 : Int), _), ((x74 : Int), (x75 : Int), _), ((x76 : Int), (x77 : Int), _), _) =>
    π.ite (x58 == (1 : Int)) (
      π.callV v71 #[(Go.Value.int (IntKind.i64) ((3 : Int)))] (false, [(true, [.int .i64, .int .i64])]) fun (((x78 : Int), (x79 : Int), _), _) =>
      π.nw (Go.Obj.cells #[(Go.Value.int (IntKind.i64) (x78)), (Go.Value.int (IntKind.i64) (x79))] (61 : Nat) ((0 : Nat), (0 : Nat))) fun r80 =>
      π.ret (Go.Value.slice (some (Addr.mk r80 (0 : Nat) none)) ((1 : Nat)) ((1 : Nat)))
    ) (
      π.ite (x58 == (2 : Int)) (
        π.callV v71 #[(Go.Value.int (IntKind.i64) ((1 : Int)))] (false, [(true, [.int .i64, .int .i64])]) fun (((x81 : Int), (x82 : Int), _), _) =>
        π.callV v71 #[(Go.Value.int (IntKind.i64) ((2 : Int)))] (false, [(true, [.int .i64, .int .i64])]) fun (((x83 : Int), (x84 : Int), _), _) =>
        π.callV v71 #[(Go.Value.int (IntKind.i64) ((3 : Int)))] (false, [(true, [.int .i64, .int .i64])]) fun (((x85 : Int), (x86 : Int), _), _) =>
        π.nw (Go.Obj.cells #[(Go.Value.int (IntKind.i64) (x81)), (Go.Value.int (IntKind.i64) (x82)), (Go.Value.int (IntKind.i64) (x83)), (Go.Value.int (IntKind.i64) (x84)), (Go.Value.int (IntKind.i64) (x72)), (Go.Value.int (IntKind.i64) (x73)), (Go.Value.int (IntKind.i64) (x74)), (Go.Value.int (IntKind.i64) (x75)), (Go.Value.int (IntKind.i64) (x85)), (Go.Value.int (IntKind.i64) (x86))] (61 : Nat) ((0 : Nat), (0 : Nat))) fun r87 =>
        π.ret (Go.Value.slice (some (Addr.mk r87 (0 : Nat) none)) ((5 : Nat)) ((5 : Nat)))
      ) (
        π.ite (x58 == (3 : Int)) (
          π.callV v71 #[(Go.Value.int (IntKind.i64) ((2 : Int)))] (false, [(true, [.int .i64, .int .i64])]) fun (((x88 : Int), (x89 : Int), _), _) =>
          π.callV v71 #[(Go.Value.int (IntKind.i64) ((1 : Int)))] (false, [(true, [.int .i64, .int .i64])]) fun (((x90 : Int), (x91 : Int), _), _) =>
          π.callV v71 #[(Go.Value.int (IntKind.i64) ((0 : Int)))] (false, [(true, [.int .i64, .int .i64])]) fun (((x92 : Int), (x93 : Int), _), _) =>
          π.nw (Go.Obj.cells #[(Go.Value.int (IntKind.i64) (x88)), (Go.Value.int (IntKind.i64) (x89)), (Go.Value.int (IntKind.i64) (x90)), (Go.Value.int (IntKind.i64) (x91)), (Go.Value.int (IntKind.i64) (x72)), (Go.Value.int (IntKind.i64) (x73)), (Go.Value.int (IntKind.i64) (x76)), (Go.Value.int (IntKind.i64) (x77)), (Go.Value.int (IntKind.i64) (x92)), (Go.Value.int (IntKind.i64) (x93))] (61 : Nat) ((0 : Nat), (0 : Nat))) fun r94 =>
          π.ret (Go.Value.slice (some (Addr.mk r94 (0 : Nat) none)) ((5 : Nat)) ((5 : Nat)))
        ) (
          π.ite (x58 == (4 : Int)) (
            π.callV v71 #[(Go.Value.int (IntKind.i64) ((1 : Int)))] (false, [(true, [.int .i64, .int .i64])]) fun (((x95 : Int), (x96 : Int), _), _) =>
            π.callV v71 #[(Go.Value.int (IntKind.i64) ((2 : Int)))] (false, [(true, [.int .i64, .int .i64])]) fun (((x97 : Int), (x98 : Int), _), _) =>
            π.nw (Go.Obj.cells #[(Go.Value.int (IntKind.i64) (x95)), (Go.Value.int (IntKind.i64) (x96)), (Go.Value.int (IntKind.i64) (x97)), (Go.Value.int (IntKind.i64) (x98)), (Go.Value.int (IntKind.i64) (x72)), (Go.Value.int (IntKind.i64) (x73)), (Go.Value.int (IntKind.i64) (x74)), (Go.Value.int (IntKind.i64) (x75)), (Go.Value.int (IntKind.i64) ((2 : Int))), (Go.Value.int (IntKind.i64) ((3 : Int)))] (61 : Nat) ((0 : Nat), (0 : Nat))) fun r99 =>
            π.ret (Go.Value.slice (some (Addr.mk r99 (0 : Nat) none)) ((5 : Nat)) ((5 : Nat)))
          ) (
            π.ite (x58 == (5 : Int)) (
              π.callV v71 #[(Go.Value.int (IntKind.i64) ((1 : Int)))] (false, [(true, [.int .i64, .int .i64])]) fun (((x100 : Int), (x101 : Int), _), _) =>
              π.callV v71 #[(Go.Value.int (IntKind.i64) ((0 : Int)))] (false, [(true, [.int .i64, .int .i64])]) fun (((x102 : Int), (x103 : Int), _), _) =>
              π.nw (Go.Obj.cells #[(Go.Value.int (IntKind.i64) ((2 : Int))), (Go.Value.int (IntKind.i64) ((2 : Int))), (Go.Value.int (IntKind.i64) (x100)), (Go.Value.int (IntKind.i64) (x101)), (Go.Value.int (IntKind.i64) (x102)), (Go.Value.int (IntKind.i64) (x103))] (61 : Nat) ((0 : Nat), (0 : Nat))) fun r104 =>
              π.ret (Go.Value.slice (some (Addr.mk r104 (0 : Nat) none)) ((3 : Nat)) ((3 : Nat)))
            ) (
              π.ite (x58 == (6 : Int)) (
                π.callV v71 #[(Go.Value.int (IntKind.i64) ((2 : Int)))] (false, [(true, [.int .i64, .int .i64])]) fun (((x105 : Int), (x106 : Int), _), _) =>
                π.callV v71 #[(Go.Value.int (IntKind.i64) ((3 : Int)))] (false, [(true, [.int .i64, .int .i64])]) fun (((x107 : Int), (x108 : Int), _), _) =>
                π.nw (Go.Obj.cells #[(Go.Value.int (IntKind.i64) (x105)), (Go.Value.int (IntKind.i64) (x106)), (Go.Value.int (IntKind.i64) (x72)), (Go.Value.int (IntKind.i64) (x73)), (Go.Value.int (IntKind.i64) (x74)), (Go.Value.int (IntKind.i64) (x75)), (Go.Value.int (IntKind.i64) (x107)), (Go.Value.int (IntKind.i64) (x108))] (61 : Nat) ((0 : Nat), (0 : Nat))) fun r109 =>
                π.ret (Go.Value.slice (some (Addr.mk r109 (0 : Nat) none)) ((4 : Nat)) ((4 : Nat)))
              ) (
                π.ite (x58 == (7 : Int)) (
                  π.callV v71 #[(Go.Value.int (IntKind.i64) ((0 : Int)))] (false, [(true, [.int .i64, .int .i64])]) fun (((x110 : Int), (x111 : Int), _), _) =>
                  π.nw (Go.Obj.cells #[(Go.Value.int (IntKind.i64) (x110)), (Go.Value.int (IntKind.i64) (x111))] (61 : Nat) ((0 : Nat), (0 : Nat))) fun r112 =>
                  π.ret (Go.Value.slice (some (Addr.mk r112 (0 : Nat) none)) ((1 : Nat)) ((1 : Nat)))
                ) (
                  π.ret (Go.Value.slice (none) ((0 : Nat)) ((0 : Nat)))
                )
              )
            )
          )
        )
      )
    )
  )
def ann_Path : Ann := { draws := [(4, { A := [0, 2, 3, 4], chkL := [(1, [2, 3]), (5, [2, 3])], eag := [7] }), (15, { A := [0, 2, 4, 5, 6], chkL := [(1, [4, 5]), (3, [4, 5]), (7, [4, 5])], eag := [9] }), (17, { A := [0, 2, 4, 5, 6], chkL := [(1, [4, 5]), (3, [4, 5]), (7, [4, 5])], eag := [9] }), (19, { A := [0, 2, 4, 5, 6], chkL := [(1, [4, 5]), (3, [4, 5])], eag := [8] }), (23, { A := [0, 2, 3, 4], chkL := [(1, [2, 3]), (5, [2, 3])], eag := [7] })], join := [(4, [(2, 36), (5, 74), (6, 61), (7, 61), (8, 61), (12, 4)]), (6, [(2, 36), (5, 74), (6, 61), (7, 61), (8, 61), (26, 4)]), (11, [(2, 36), (5, 74), (6, 61), (7, 61), (8, 61)])], loop := [] }
def la_Path : LA := { ptr := [(2, 2, 0), (6, 6, 0), (7, 7, 0), (8, 8, 0), (15, 2, 0), (29, 2, 0), (41, 2, 0), (50, 2, 0)], ty := [(2, 36), (6, 61), (7, 61), (8, 61)] }
set_option maxRecDepth 100000 in
theorem eq_Path {W : Type} (π : Prims W) (dk : Int) (dt dn dc dp : ByteArray) (du : Bool) (dy vk vn : Int) (vs : ByteArray) (da : Option Addr) (dan dac : Nat) (back : Bool) : bodyL π Tryz.prog la_Path ann_Path (mkFr (maskA [] [.v (.agg #[.int .i64 dk, .string dt, .string dn, .string dc, .string dp, .bool du, .int .i64 dy, .int .i64 vk, .int .i64 vn, .string vs, .slice da dan dac]), .v (.bool back)] 0) 111) Tryz.f62 (bodyOf Tryz.f62) (mkFr (List.map some [.v (.agg #[.int .i64 dk, .string dt, .string dn, .string dc, .string dp, .bool du, .int .i64 dy, .int .i64 vk, .int .i64 vn, .string vs, .slice da dan dac]), .v (.bool back)]) 111) = vc_Path π dk dt dn dc dp du dy vk vn vs da dan dac back := by kernel_rfl
theorem ok_Path (dk : Int) (dt dn dc dp : ByteArray) (du : Bool) (dy vk vn : Int) (vs : ByteArray) (da : Option Addr) (dan dac : Nat) (back : Bool) (R : Value → PH → Prop) (s : PH) (h : vc_Path (RP Tryz.prog R) dk dt dn dc dp du dy vk vn vs da dan dac back s) : DCalls Tryz.prog 62 (List.map AV.val [.v (.agg #[.int .i64 dk, .string dt, .string dn, .string dc, .string dp, .bool du, .int .i64 dy, .int .i64 vk, .int .i64 vn, .string vs, .slice da dan dac]), .v (.bool back)]).toArray s R :=
  calls_vcL (c := bodyOf Tryz.f62) (ann := ann_Path) la_Path (by kernel_rfl) Tryz.func62 rfl (by kernel_rfl) [.v (.agg #[.int .i64 dk, .string dt, .string dn, .string dc, .string dp, .bool du, .int .i64 dy, .int .i64 vk, .int .i64 vn, .string vs, .slice da dan dac]), .v (.bool back)] [] (by rw [Tryz.ntmps62]; exact Nat.le_of_ble_eq_true rfl) (by kernel_rfl) (by rw [show Tryz.f62.ntmps = 111 from Tryz.ntmps62, eq_Path]; exact h)
end Go.Proofs.YthepfbcgpbkbdaaGreat
end
section
set_option linter.unusedVariables false
set_option linter.unusedSimpArgs false
set_option maxHeartbeats 1000000
set_option maxRecDepth 100000
namespace Go.Proofs.YthepfbcgpbkbdaaGreat
open Fw Go
attribute [-simp] Fw.W.ld_iff Fw.W.st_iff
structure Val where
  kind : Int
  n : Int
  s : ByteArray
  deriving DecidableEq
structure Col where
  id : Int
  name : ByteArray
  kind : Int
  state : Int
  dflt : Val
  deriving DecidableEq
structure Idx where
  id : Int
  name : ByteArray
  column : Int
  unique : Bool
  state : Int
  deriving DecidableEq
structure For where
  id : Int
  name : ByteArray
  column : Int
  parent : Int
  state : Int
  deriving DecidableEq
structure Tab where
  id : Int
  name : ByteArray
  cols : List Col
  idxs : List Idx
  keys : List For
  deriving DecidableEq
structure Sch where
  version : Int
  last : Int
  tabs : List Tab
  deriving DecidableEq
structure Ddl where
  kind : Int
  table : ByteArray
  name : ByteArray
  column : ByteArray
  parent : ByteArray
  unique : Bool
  type : Int
  dflt : Val
  cols : List Col
abbrev Tri := Option Addr × Nat × Nat
abbrev noTri : Tri := (none, 0, 0)
abbrev Tri.v (t : Tri) : Value := .slice t.1 t.2.1 t.2.2
abbrev cp (b : Nat) : Value := .pointer (some ⟨b, 0, none⟩)
abbrev valV (v : Val) : Value := .agg #[.int .i64 v.kind, .int .i64 v.n, .string v.s]
def colE : Enc Col where
  sz := 7
  f c := [.int .i64 c.id, .string c.name, .int .i64 c.kind, .int .i64 c.state, .int .i64 c.dflt.kind, .int .i64 c.dflt.n, .string c.dflt.s]
  len _ := rfl
  one p v hv := by simp at hv; rcases hv with rfl | rfl | rfl | rfl | rfl | rfl | rfl <;> rfl
  pos := by omega
abbrev colV (c : Col) : Value := .agg #[.int .i64 c.id, .string c.name, .int .i64 c.kind, .int .i64 c.state, .int .i64 c.dflt.kind, .int .i64 c.dflt.n, .string c.dflt.s]
def idxE : Enc Idx where
  sz := 5
  f x := [.int .i64 x.id, .string x.name, .int .i64 x.column, .bool x.unique, .int .i64 x.state]
  len _ := rfl
  one p v hv := by simp at hv; rcases hv with rfl | rfl | rfl | rfl | rfl <;> rfl
  pos := by omega
abbrev idxV (x : Idx) : Value := .agg #[.int .i64 x.id, .string x.name, .int .i64 x.column, .bool x.unique, .int .i64 x.state]
def forE : Enc For where
  sz := 5
  f x := [.int .i64 x.id, .string x.name, .int .i64 x.column, .int .i64 x.parent, .int .i64 x.state]
  len _ := rfl
  one p v hv := by simp at hv; rcases hv with rfl | rfl | rfl | rfl | rfl <;> rfl
  pos := by omega
abbrev forV (x : For) : Value := .agg #[.int .i64 x.id, .string x.name, .int .i64 x.column, .int .i64 x.parent, .int .i64 x.state]
/-- a table, and where its lists lie -/
structure TabP where
  T : Tab
  c : Tri
  x : Tri
  k : Tri
def tabE : Enc TabP where
  sz := 5
  f p := [.int .i64 p.T.id, .string p.T.name, .slice p.c.1 p.c.2.1 p.c.2.2, .slice p.x.1 p.x.2.1 p.x.2.2, .slice p.k.1 p.k.2.1 p.k.2.2]
  len _ := rfl
  one p v hv := by simp at hv; rcases hv with rfl | rfl | rfl | rfl | rfl <;> rfl
  pos := by omega
abbrev tabV (T : Tab) (c x k : Tri) : Value := .agg #[.int .i64 T.id, .string T.name, .slice c.1 c.2.1 c.2.2, .slice x.1 x.2.1 x.2.2, .slice k.1 k.2.1 k.2.2]
abbrev schV (S : Sch) (t : Tri) : Value := .agg #[.int .i64 S.version, .int .i64 S.last, .slice t.1 t.2.1 t.2.2]
abbrev ddlV (D : Ddl) (t : Tri) : Value := .agg #[.int .i64 D.kind, .string D.table, .string D.name, .string D.column, .string D.parent, .bool D.unique, .int .i64 D.type, .int .i64 D.dflt.kind, .int .i64 D.dflt.n, .string D.dflt.s, .slice t.1 t.2.1 t.2.2]
/-- elements that can be read; there are not too many -/
structure Sl {α : Type} (E : Enc α) (s : PH) (t : Tri) (xs : List α) : Prop where
  el : elems (Rd.enc E) s t.1 t.2.1 xs
  le : t.2.1 ≤ t.2.2
  few : xs.length ≤ 4294967296
theorem Sl.len {α : Type} {E : Enc α} {s : PH} {t : Tri} {xs : List α} (h : Sl E s t xs) : t.2.1 = xs.length := h.el.1
theorem Sl.mono {α : Type} {E : Enc α} {s s' : PH} {t : Tri} {xs : List α} (h : Sl E s t xs) (hm : s.le s') : Sl E s' t xs := ⟨h.el.mono hm, h.le, h.few⟩
theorem Sl.nil {α : Type} {E : Enc α} {s : PH} : Sl E s noTri ([] : List α) := ⟨⟨rfl, fun i x hx => by simp at hx⟩, Nat.le_refl _, by simp⟩
/-- a table that can be read -/
structure TabIs (s : PH) (p : TabP) : Prop where
  c : Sl colE s p.c p.T.cols
  x : Sl idxE s p.x p.T.idxs
  k : Sl forE s p.k p.T.keys
theorem TabIs.mono {s s' : PH} {p : TabP} (h : TabIs s p) (hm : s.le s') : TabIs s' p := ⟨h.c.mono hm, h.x.mono hm, h.k.mono hm⟩
/-- a schema that can be read -/
structure SchIs (s : PH) (t : Tri) (S : Sch) (ps : List TabP) : Prop where
  el : Sl tabE s t ps
  eq : S.tabs = ps.map (·.T)
  all : ∀ p ∈ ps, TabIs s p
theorem SchIs.mono {s s' : PH} {t : Tri} {S : Sch} {ps : List TabP} (h : SchIs s t S ps) (hm : s.le s') : SchIs s' t S ps := ⟨h.el.mono hm, h.eq, fun p hp => (h.all p hp).mono hm⟩
theorem SchIs.len {s : PH} {t : Tri} {S : Sch} {ps : List TabP} (h : SchIs s t S ps) : t.2.1 = S.tabs.length := by rw [h.eq, List.length_map, h.el.len]
def chOk (i c : Nat) : Bool := (decide (97 ≤ c) && decide (c ≤ 122)) || (!decide (i = 0) && (decide (c = 95) || (decide (48 ≤ c) && decide (c ≤ 57))))
def namesUp (s : ByteArray) (k : Nat) : Bool := (List.range k).all fun i => chOk i (s[i]?.getD 0).toNat
def named (s : ByteArray) : Bool := decide (1 ≤ s.size) && (decide (s.size ≤ 16) && namesUp s s.size)
theorem namesUp_succ (s : ByteArray) (k : Nat) : namesUp s (k + 1) = (namesUp s k && chOk k (s[k]?.getD 0).toNat) := by
  unfold namesUp; rw [List.range_succ, List.all_append]; simp
theorem namesUp_no {s : ByteArray} {k : Nat} (h : chOk k (s[k]?.getD 0).toNat = false) (hk : k < s.size) : namesUp s s.size = false := by
  have key : ∀ d, k + 1 + d ≤ s.size → namesUp s (k + 1 + d) = false := by
    intro d
    induction d with
    | zero => intro _; rw [Nat.add_zero, namesUp_succ, h, Bool.and_false]
    | succ d ih => intro hd; rw [← Nat.add_assoc, namesUp_succ, ih (by omega), Bool.false_and]
  have := key (s.size - (k + 1)) (by omega)
  rwa [show k + 1 + (s.size - (k + 1)) = s.size by omega] at this
theorem named_no {tx : ByteArray} {k : Nat} (h : chOk k (tx[k]?.getD 0).toNat = false) (hk : k < tx.size) : named tx = false := by
  unfold named; rw [namesUp_no h hk]; simp
theorem chOk_iff (i c : Nat) : chOk i c = true ↔ (97 ≤ c ∧ c ≤ 122) ∨ (i ≠ 0 ∧ (c = 95 ∨ (48 ≤ c ∧ c ≤ 57))) := by simp [chOk]
theorem chOk_no (i c : Nat) (h : ¬ ((97 ≤ c ∧ c ≤ 122) ∨ (i ≠ 0 ∧ (c = 95 ∨ (48 ≤ c ∧ c ≤ 57))))) : chOk i c = false := by
  cases e : chOk i c with
  | false => rfl
  | true => exact absurd ((chOk_iff i c).1 e) h
theorem c_named (tx : ByteArray) (s : PH) : DCalls Tryz.prog 142 #[.string tx] s fun x s' => x = .bool (named tx) ∧ s' = s := by
  refine ok_named tx _ s ?_
  unfold vc_named
  simp only [RP_ite, W.br_iff, decide_eq_true_eq, decide_eq_false_iff_not, RP_ret, W.ret_iff, RP_loop]
  refine ⟨fun h => ⟨by unfold named; rw [decide_eq_false (by omega)]; (first | done | rfl), trivial⟩, fun h1 => ⟨fun h => ⟨by unfold named; rw [decide_eq_false (p := tx.size ≤ 16) (by omega)]; simp, trivial⟩, fun h2 => ?_⟩⟩
  refine ⟨fun z s' => ∃ k : Nat, z = (((tx.size : Int), ()), ((k : Int), ()), ()) ∧ k ≤ tx.size ∧ s' = s ∧ namesUp tx k = true, fun z _ => tx.size - z.2.1.1.toNat, ⟨0, rfl, Nat.zero_le _, rfl, rfl⟩, ?_⟩
  rintro _ s0 ⟨k, rfl, hk, hs0, hn⟩
  simp only [W.br_iff, decide_eq_true_eq, decide_eq_false_iff_not]
  refine ⟨fun hlt => ?_, fun hge => ?_⟩
  · have hlt : k < tx.size := by omega
    have hw := wrap_succ (k := k) (by omega)
    simp only [RP_guard, W.guard_iff, Int.toNat_natCast, hw]
    refine ⟨by omega, ?_⟩
    obtain ⟨c, hc⟩ : ∃ c, (tx[k]?.getD 0).toNat = c := ⟨_, rfl⟩
    have hno : ¬ ((97 ≤ c ∧ c ≤ 122) ∨ (k ≠ 0 ∧ (c = 95 ∨ (48 ≤ c ∧ c ≤ 57)))) → (false = named tx ∧ s0 = s) := fun h => ⟨by rw [named_no (by rw [hc]; exact chOk_no k c h) hlt], hs0⟩
    have hyes : ((97 ≤ c ∧ c ≤ 122) ∨ (k ≠ 0 ∧ (c = 95 ∨ (48 ≤ c ∧ c ≤ 57)))) → (k + 1 ≤ tx.size ∧ s0 = s ∧ namesUp tx (k + 1) = true) ∧ tx.size - (k + 1) < tx.size - k := fun h => ⟨⟨hlt, hs0, by rw [namesUp_succ, hn, hc, (chOk_iff k c).2 h]; (first | done | rfl)⟩, by omega⟩
    simp [hc, W.br_iff]
    repeat' (first | (refine And.intro ?_ ?_) | intro _)
    all_goals first | exact hs0 | exact (hno (by omega)).1.symm | exact ⟨k + 1, by simp, (hyes (by omega)).1⟩ | omega
  · have : k = tx.size := by omega
    subst this
    refine ⟨?_, hs0⟩
    unfold named; rw [hn, decide_eq_true (by omega), decide_eq_true (by omega)]; (first | done | rfl)
theorem beq_dec (a b : Int) : (a == b) = decide (a = b) := by by_cases h : a = b <;> simp [h]
theorem empty_toList (t : ByteArray) : t.toList.isEmpty = decide (t = ⟨#[]⟩) := by
  have := toList_beq t ⟨#[]⟩
  rw [← this]
  have : (ByteArray.mk #[]).toList = [] := by simp [ByteArray.toList_eq]
  rw [this]
  cases t.toList <;> rfl
def typed (k : Int) : Bool := decide (k = 1) || decide (k = 2)
theorem c_kind (k : Int) (s : PH) : DCalls Tryz.prog 151 #[.int .i64 k] s fun x s' => x = .bool (typed k) ∧ s' = s := by
  refine ok_kind k _ s ?_
  unfold vc_kind typed
  simp [W.br_iff, beq_dec]
  by_cases h : k = 1 <;> simp [h]
def valOk (v : Val) : Bool := if v.kind = 0 then decide (v.n = 0) && decide (v.s = ⟨#[]⟩) else if v.kind = 1 then decide (v.s = ⟨#[]⟩) else if v.kind = 2 then decide (v.n = 0) && decide (v.s.size ≤ 64) else false
def errV (v : Val) : Int := if valOk v = true then 0 else 10
theorem c_vCheck (v : Val) (s : PH) : DCalls Tryz.prog 184 #[valV v] s fun x s' => x = .int .i64 (errV v) ∧ s' = s := by
  refine ok_vCheck v.kind v.n v.s _ s ?_
  unfold vc_vCheck errV valOk
  simp [W.br_iff, toList_beq, empty_toList]
  repeat' (first | (refine And.intro ?_ ?_) | intro _)
  all_goals simp_all
  all_goals omega
def fits (v : Val) (k : Int) : Bool := valOk v && (decide (v.kind = 0) || decide (v.kind = k))
theorem c_fits (v : Val) (k : Int) (s : PH) : DCalls Tryz.prog 152 #[valV v, .int .i64 k] s fun x s' => x = .bool (fits v k) ∧ s' = s := by
  refine ok_fits v.kind v.n v.s k _ s ?_
  unfold vc_fits
  simp only [RP_callQ, RP_call]
  refine W.call_of (c_vCheck v s) ?_
  rintro _ s ⟨rfl, rfl⟩
  refine ⟨((errV v, ()), ()), rfl, ?_⟩
  unfold fits errV
  cases hv : valOk v <;> simp [W.br_iff, beq_dec]
  by_cases h : v.kind = 0 <;> simp [h]
def freshE (name : ByteArray) (n : Int) : Int := if named name = false then 100 else if n ≥ 8 then 156 else 0
theorem c_fresh (name : ByteArray) (n : Int) (s : PH) : DCalls Tryz.prog 170 #[.string name, .int .i64 n] s fun x s' => x = .int .i64 (freshE name n) ∧ s' = s := by
  refine ok_fresh name n _ s ?_
  unfold vc_fresh
  simp only [RP_callQ, RP_call]
  refine W.call_of (c_named name s) ?_
  rintro _ s ⟨rfl, rfl⟩
  refine ⟨((named name, ()), ()), rfl, ?_⟩
  unfold freshE
  cases hv : named name <;> simp [W.br_iff]
theorem c_fColumn (x : Col) (s : PH) : DCalls Tryz.prog 145 #[colV x] s fun y s' => y = .string x.name ∧ s' = s := by
  refine ok_fColumn x.id x.name x.kind x.state x.dflt.kind x.dflt.n x.dflt.s _ s ?_
  unfold vc_fColumn
  simp
theorem c_find2 (x : Col) {p q : Nat} {s : PH} {name : ByteArray} {ft : TypeId} (hp : s p = some (.cells #[.func (.func 145) #[] #[]] ft (0, 0))) (hq : s q = some (.cells #[.string name] 9 (0, 0))) :
    DCalls Tryz.prog 193 #[colV x, cp p, cp q] s fun y s' => y = .bool (decide (x.name = name)) ∧ s' = s := by
  refine ok_find2 x.id x.name x.kind x.state x.dflt.kind x.dflt.n x.dflt.s p q _ s ?_
  unfold vc_find2
  simp [W.ld_at hp, W.ld_at hq, toList_beq]
  refine callV_of' (cap := #[]) Tryz.func145 rfl (by kernel_rfl) (c_fColumn x s) ?_
  rintro _ s ⟨rfl, rfl⟩
  refine ⟨((x.name, ()), ()), rfl, ?_⟩
  simp [W.still_at hq, toList_beq]
theorem c_IndexFuncC {a : Option Addr} {an ac p q : Nat} {s : PH} {name : ByteArray} {ft : TypeId} {xs : List Col} (h : elems (Rd.enc colE) s a an xs) (hn : xs.length ≤ 4294967296) (hp : s p = some (.cells #[.func (.func 145) #[] #[]] ft (0, 0))) (hq : s q = some (.cells #[.string name] 9 (0, 0))) :
    DCalls Tryz.prog 84 #[.slice a an ac, .func (.func 193) #[] #[cp p, cp q]] s fun y s' => y = .int .i64 (seek (fun x => decide (x.name = name)) xs 0) ∧ s' = s := by
  refine ok_IndexFuncC a an ac p q _ s ?_
  unfold vc_IndexFuncC
  have hlen := h.1
  simp only [RP_loop]
  refine ⟨fun z s' => ∃ k : Nat, z = (((an : Int), ()), ((k : Int), ()), ()) ∧ k ≤ an ∧ s' = s ∧ seek (fun x => decide (x.name = name)) (xs.drop k) k = seek (fun x => decide (x.name = name)) xs 0, fun z _ => an - z.2.1.1.toNat, ⟨0, rfl, Nat.zero_le _, rfl, rfl⟩, ?_⟩
  rintro _ s ⟨k, rfl, hk, rfl, hs⟩
  simp [W.br_iff]
  refine ⟨fun hlt => ⟨hlt, ?_⟩, fun hge => ?_⟩
  · obtain ⟨x, hx⟩ : ∃ x, xs[k]? = some x := ⟨_, List.getElem?_eq_getElem (by omega)⟩
    obtain ⟨ad, rfl, hh⟩ := h.at_enc hx
    simp only [W.unSome_some]
    refine ld_has_z hh (y := (x.id, x.name, x.kind, x.state, x.dflt.kind, x.dflt.n, x.dflt.s, ())) rfl ?_
    refine W.call_of (c_find2 x hp hq) ?_
    rintro _ s ⟨rfl, rfl⟩
    refine ⟨((decide (x.name = name), ()), ()), rfl, ?_⟩
    rw [seek_step hx] at hs
    simp [W.br_iff, wrap_succ (k := k) (by omega)]
    refine ⟨fun he => ?_, fun he => ⟨⟨k + 1, by simp, hlt, ?_⟩, by omega⟩⟩
    · rw [← hs, if_pos (by simpa using he)]
    · rw [← hs, if_neg (by simpa using he)]
  · rw [← hs, seek_end (by omega)]
theorem c_findC {a : Option Addr} {an ac : Nat} {s : PH} {xs : List Col} (h : elems (Rd.enc colE) s a an xs) (hn : xs.length ≤ 4294967296) (name : ByteArray) :
    DCalls Tryz.prog 169 #[.slice a an ac, .string name, .func (.func 145) #[] #[]] s fun y s' => y = .int .i64 (seek (fun x => decide (x.name = name)) xs 0) ∧ s' = s := by
  refine DCalls.quiet (ok_findC a an ac name _ s ?_)
  unfold vc_findC
  simp only [RP_nw]
  refine W.nw_of fun r s1 hr m1 k1 => ?_
  refine W.nw_of fun r2 s2 hr2 m2 k2 => ?_
  have m12 := m1.trans m2
  refine W.call_of (c_IndexFuncC (h.mono m12.le) hn k2 (m2.at k1 (by simp))) ?_
  rintro _ s3 ⟨rfl, rfl⟩
  exact ⟨((seek (fun x => decide (x.name = name)) xs 0, ()), ()), rfl, rfl, m12⟩
theorem c_fIndex (x : Idx) (s : PH) : DCalls Tryz.prog 147 #[idxV x] s fun y s' => y = .string x.name ∧ s' = s := by
  refine ok_fIndex x.id x.name x.column x.unique x.state _ s ?_
  unfold vc_fIndex
  simp
theorem c_find3 (x : Idx) {p q : Nat} {s : PH} {name : ByteArray} {ft : TypeId} (hp : s p = some (.cells #[.func (.func 147) #[] #[]] ft (0, 0))) (hq : s q = some (.cells #[.string name] 9 (0, 0))) :
    DCalls Tryz.prog 195 #[idxV x, cp p, cp q] s fun y s' => y = .bool (decide (x.name = name)) ∧ s' = s := by
  refine ok_find3 x.id x.name x.column x.unique x.state p q _ s ?_
  unfold vc_find3
  simp [W.ld_at hp, W.ld_at hq, toList_beq]
  refine callV_of' (cap := #[]) Tryz.func147 rfl (by kernel_rfl) (c_fIndex x s) ?_
  rintro _ s ⟨rfl, rfl⟩
  refine ⟨((x.name, ()), ()), rfl, ?_⟩
  simp [W.still_at hq, toList_beq]
theorem c_IndexFuncX {a : Option Addr} {an ac p q : Nat} {s : PH} {name : ByteArray} {ft : TypeId} {xs : List Idx} (h : elems (Rd.enc idxE) s a an xs) (hn : xs.length ≤ 4294967296) (hp : s p = some (.cells #[.func (.func 147) #[] #[]] ft (0, 0))) (hq : s q = some (.cells #[.string name] 9 (0, 0))) :
    DCalls Tryz.prog 82 #[.slice a an ac, .func (.func 195) #[] #[cp p, cp q]] s fun y s' => y = .int .i64 (seek (fun x => decide (x.name = name)) xs 0) ∧ s' = s := by
  refine ok_IndexFuncX a an ac p q _ s ?_
  unfold vc_IndexFuncX
  have hlen := h.1
  simp only [RP_loop]
  refine ⟨fun z s' => ∃ k : Nat, z = (((an : Int), ()), ((k : Int), ()), ()) ∧ k ≤ an ∧ s' = s ∧ seek (fun x => decide (x.name = name)) (xs.drop k) k = seek (fun x => decide (x.name = name)) xs 0, fun z _ => an - z.2.1.1.toNat, ⟨0, rfl, Nat.zero_le _, rfl, rfl⟩, ?_⟩
  rintro _ s ⟨k, rfl, hk, rfl, hs⟩
  simp [W.br_iff]
  refine ⟨fun hlt => ⟨hlt, ?_⟩, fun hge => ?_⟩
  · obtain ⟨x, hx⟩ : ∃ x, xs[k]? = some x := ⟨_, List.getElem?_eq_getElem (by omega)⟩
    obtain ⟨ad, rfl, hh⟩ := h.at_enc hx
    simp only [W.unSome_some]
    refine ld_has_z hh (y := (x.id, x.name, x.column, x.unique, x.state, ())) rfl ?_
    refine W.call_of (c_find3 x hp hq) ?_
    rintro _ s ⟨rfl, rfl⟩
    refine ⟨((decide (x.name = name), ()), ()), rfl, ?_⟩
    rw [seek_step hx] at hs
    simp [W.br_iff, wrap_succ (k := k) (by omega)]
    refine ⟨fun he => ?_, fun he => ⟨⟨k + 1, by simp, hlt, ?_⟩, by omega⟩⟩
    · rw [← hs, if_pos (by simpa using he)]
    · rw [← hs, if_neg (by simpa using he)]
  · rw [← hs, seek_end (by omega)]
theorem c_findX {a : Option Addr} {an ac : Nat} {s : PH} {xs : List Idx} (h : elems (Rd.enc idxE) s a an xs) (hn : xs.length ≤ 4294967296) (name : ByteArray) :
    DCalls Tryz.prog 177 #[.slice a an ac, .string name, .func (.func 147) #[] #[]] s fun y s' => y = .int .i64 (seek (fun x => decide (x.name = name)) xs 0) ∧ s' = s := by
  refine DCalls.quiet (ok_findX a an ac name _ s ?_)
  unfold vc_findX
  simp only [RP_nw]
  refine W.nw_of fun r s1 hr m1 k1 => ?_
  refine W.nw_of fun r2 s2 hr2 m2 k2 => ?_
  have m12 := m1.trans m2
  refine W.call_of (c_IndexFuncX (h.mono m12.le) hn k2 (m2.at k1 (by simp))) ?_
  rintro _ s3 ⟨rfl, rfl⟩
  exact ⟨((seek (fun x => decide (x.name = name)) xs 0, ()), ()), rfl, rfl, m12⟩
theorem c_fForeign (x : For) (s : PH) : DCalls Tryz.prog 149 #[forV x] s fun y s' => y = .string x.name ∧ s' = s := by
  refine ok_fForeign x.id x.name x.column x.parent x.state _ s ?_
  unfold vc_fForeign
  simp
theorem c_find4 (x : For) {p q : Nat} {s : PH} {name : ByteArray} {ft : TypeId} (hp : s p = some (.cells #[.func (.func 149) #[] #[]] ft (0, 0))) (hq : s q = some (.cells #[.string name] 9 (0, 0))) :
    DCalls Tryz.prog 197 #[forV x, cp p, cp q] s fun y s' => y = .bool (decide (x.name = name)) ∧ s' = s := by
  refine ok_find4 x.id x.name x.column x.parent x.state p q _ s ?_
  unfold vc_find4
  simp [W.ld_at hp, W.ld_at hq, toList_beq]
  refine callV_of' (cap := #[]) Tryz.func149 rfl (by kernel_rfl) (c_fForeign x s) ?_
  rintro _ s ⟨rfl, rfl⟩
  refine ⟨((x.name, ()), ()), rfl, ?_⟩
  simp [W.still_at hq, toList_beq]
theorem c_IndexFuncF {a : Option Addr} {an ac p q : Nat} {s : PH} {name : ByteArray} {ft : TypeId} {xs : List For} (h : elems (Rd.enc forE) s a an xs) (hn : xs.length ≤ 4294967296) (hp : s p = some (.cells #[.func (.func 149) #[] #[]] ft (0, 0))) (hq : s q = some (.cells #[.string name] 9 (0, 0))) :
    DCalls Tryz.prog 86 #[.slice a an ac, .func (.func 197) #[] #[cp p, cp q]] s fun y s' => y = .int .i64 (seek (fun x => decide (x.name = name)) xs 0) ∧ s' = s := by
  refine ok_IndexFuncF a an ac p q _ s ?_
  unfold vc_IndexFuncF
  have hlen := h.1
  simp only [RP_loop]
  refine ⟨fun z s' => ∃ k : Nat, z = (((an : Int), ()), ((k : Int), ()), ()) ∧ k ≤ an ∧ s' = s ∧ seek (fun x => decide (x.name = name)) (xs.drop k) k = seek (fun x => decide (x.name = name)) xs 0, fun z _ => an - z.2.1.1.toNat, ⟨0, rfl, Nat.zero_le _, rfl, rfl⟩, ?_⟩
  rintro _ s ⟨k, rfl, hk, rfl, hs⟩
  simp [W.br_iff]
  refine ⟨fun hlt => ⟨hlt, ?_⟩, fun hge => ?_⟩
  · obtain ⟨x, hx⟩ : ∃ x, xs[k]? = some x := ⟨_, List.getElem?_eq_getElem (by omega)⟩
    obtain ⟨ad, rfl, hh⟩ := h.at_enc hx
    simp only [W.unSome_some]
    refine ld_has_z hh (y := (x.id, x.name, x.column, x.parent, x.state, ())) rfl ?_
    refine W.call_of (c_find4 x hp hq) ?_
    rintro _ s ⟨rfl, rfl⟩
    refine ⟨((decide (x.name = name), ()), ()), rfl, ?_⟩
    rw [seek_step hx] at hs
    simp [W.br_iff, wrap_succ (k := k) (by omega)]
    refine ⟨fun he => ?_, fun he => ⟨⟨k + 1, by simp, hlt, ?_⟩, by omega⟩⟩
    · rw [← hs, if_pos (by simpa using he)]
    · rw [← hs, if_neg (by simpa using he)]
  · rw [← hs, seek_end (by omega)]
theorem c_findF {a : Option Addr} {an ac : Nat} {s : PH} {xs : List For} (h : elems (Rd.enc forE) s a an xs) (hn : xs.length ≤ 4294967296) (name : ByteArray) :
    DCalls Tryz.prog 181 #[.slice a an ac, .string name, .func (.func 149) #[] #[]] s fun y s' => y = .int .i64 (seek (fun x => decide (x.name = name)) xs 0) ∧ s' = s := by
  refine DCalls.quiet (ok_findF a an ac name _ s ?_)
  unfold vc_findF
  simp only [RP_nw]
  refine W.nw_of fun r s1 hr m1 k1 => ?_
  refine W.nw_of fun r2 s2 hr2 m2 k2 => ?_
  have m12 := m1.trans m2
  refine W.call_of (c_IndexFuncF (h.mono m12.le) hn k2 (m2.at k1 (by simp))) ?_
  rintro _ s3 ⟨rfl, rfl⟩
  exact ⟨((seek (fun x => decide (x.name = name)) xs 0, ()), ()), rfl, rfl, m12⟩
theorem c_fTable (x : TabP) (s : PH) : DCalls Tryz.prog 112 #[tabV x.T x.c x.x x.k] s fun y s' => y = .string x.T.name ∧ s' = s := by
  refine ok_fTable x.T.id x.T.name x.c.1 x.c.2.1 x.c.2.2 x.x.1 x.x.2.1 x.x.2.2 x.k.1 x.k.2.1 x.k.2.2 _ s ?_
  unfold vc_fTable
  simp
theorem c_find1 (x : TabP) {p q : Nat} {s : PH} {name : ByteArray} {ft : TypeId} (hp : s p = some (.cells #[.func (.func 112) #[] #[]] ft (0, 0))) (hq : s q = some (.cells #[.string name] 9 (0, 0))) :
    DCalls Tryz.prog 155 #[tabV x.T x.c x.x x.k, cp p, cp q] s fun y s' => y = .bool (decide (x.T.name = name)) ∧ s' = s := by
  refine ok_find1 x.T.id x.T.name x.c.1 x.c.2.1 x.c.2.2 x.x.1 x.x.2.1 x.x.2.2 x.k.1 x.k.2.1 x.k.2.2 p q _ s ?_
  unfold vc_find1
  simp [W.ld_at hp, W.ld_at hq, toList_beq]
  refine callV_of' (cap := #[]) Tryz.func112 rfl (by kernel_rfl) (c_fTable x s) ?_
  rintro _ s ⟨rfl, rfl⟩
  refine ⟨((x.T.name, ()), ()), rfl, ?_⟩
  simp [W.still_at hq, toList_beq]
theorem c_IndexFuncT {a : Option Addr} {an ac p q : Nat} {s : PH} {name : ByteArray} {ft : TypeId} {xs : List TabP} (h : elems (Rd.enc tabE) s a an xs) (hn : xs.length ≤ 4294967296) (hp : s p = some (.cells #[.func (.func 112) #[] #[]] ft (0, 0))) (hq : s q = some (.cells #[.string name] 9 (0, 0))) :
    DCalls Tryz.prog 132 #[.slice a an ac, .func (.func 155) #[] #[cp p, cp q]] s fun y s' => y = .int .i64 (seek (fun x => decide (x.T.name = name)) xs 0) ∧ s' = s := by
  refine ok_IndexFuncT a an ac p q _ s ?_
  unfold vc_IndexFuncT
  have hlen := h.1
  simp only [RP_loop]
  refine ⟨fun z s' => ∃ k : Nat, z = (((an : Int), ()), ((k : Int), ()), ()) ∧ k ≤ an ∧ s' = s ∧ seek (fun x => decide (x.T.name = name)) (xs.drop k) k = seek (fun x => decide (x.T.name = name)) xs 0, fun z _ => an - z.2.1.1.toNat, ⟨0, rfl, Nat.zero_le _, rfl, rfl⟩, ?_⟩
  rintro _ s ⟨k, rfl, hk, rfl, hs⟩
  simp [W.br_iff]
  refine ⟨fun hlt => ⟨hlt, ?_⟩, fun hge => ?_⟩
  · obtain ⟨x, hx⟩ : ∃ x, xs[k]? = some x := ⟨_, List.getElem?_eq_getElem (by omega)⟩
    obtain ⟨ad, rfl, hh⟩ := h.at_enc hx
    simp only [W.unSome_some]
    refine ld_has_z hh (y := (x.T.id, x.T.name, x.c, x.x, x.k, ())) rfl ?_
    refine W.call_of (c_find1 x hp hq) ?_
    rintro _ s ⟨rfl, rfl⟩
    refine ⟨((decide (x.T.name = name), ()), ()), rfl, ?_⟩
    rw [seek_step hx] at hs
    simp [W.br_iff, wrap_succ (k := k) (by omega)]
    refine ⟨fun he => ?_, fun he => ⟨⟨k + 1, by simp, hlt, ?_⟩, by omega⟩⟩
    · rw [← hs, if_pos (by simpa using he)]
    · rw [← hs, if_neg (by simpa using he)]
  · rw [← hs, seek_end (by omega)]
theorem c_findT {a : Option Addr} {an ac : Nat} {s : PH} {xs : List TabP} (h : elems (Rd.enc tabE) s a an xs) (hn : xs.length ≤ 4294967296) (name : ByteArray) :
    DCalls Tryz.prog 114 #[.slice a an ac, .string name, .func (.func 112) #[] #[]] s fun y s' => y = .int .i64 (seek (fun x => decide (x.T.name = name)) xs 0) ∧ s' = s := by
  refine DCalls.quiet (ok_findT a an ac name _ s ?_)
  unfold vc_findT
  simp only [RP_nw]
  refine W.nw_of fun r s1 hr m1 k1 => ?_
  refine W.nw_of fun r2 s2 hr2 m2 k2 => ?_
  have m12 := m1.trans m2
  refine W.call_of (c_IndexFuncT (h.mono m12.le) hn k2 (m2.at k1 (by simp))) ?_
  rintro _ s3 ⟨rfl, rfl⟩
  exact ⟨((seek (fun x => decide (x.T.name = name)) xs 0, ()), ()), rfl, rfl, m12⟩
end Go.Proofs.YthepfbcgpbkbdaaGreat
end
section
set_option linter.unusedVariables false
set_option linter.unusedSimpArgs false
set_option maxHeartbeats 1000000
set_option maxRecDepth 100000
namespace Go.Proofs.YthepfbcgpbkbdaaGreat
open Fw Go
attribute [-simp] Fw.W.ld_iff Fw.W.st_iff
theorem seek_map {α β : Type} (f : α → β) (p : β → Bool) : ∀ (l : List α) (i : Nat), seek p (l.map f) i = seek (fun x => p (f x)) l i
  | [], i => rfl
  | x :: l, i => by simp only [List.map_cons, seek, seek_map f p l]
def tabAt (S : Sch) (name : ByteArray) : Int := seek (fun T : Tab => decide (T.name = name)) S.tabs 0
def tabOf (S : Sch) (id : Int) : Int := seek (fun T : Tab => decide (T.id = id)) S.tabs 0
def colAt (T : Tab) (name : ByteArray) : Int := seek (fun c : Col => decide (c.name = name)) T.cols 0
def colOf (T : Tab) (id : Int) : Int := seek (fun c : Col => decide (c.id = id)) T.cols 0
def idxAt (T : Tab) (name : ByteArray) : Int := seek (fun c : Idx => decide (c.name = name)) T.idxs 0
def keyAt (T : Tab) (name : ByteArray) : Int := seek (fun c : For => decide (c.name = name)) T.keys 0
theorem c_findT' {s : PH} {t : Tri} {S : Sch} {ps : List TabP} (h : SchIs s t S ps) (name : ByteArray) : DCalls Tryz.prog 114 #[.slice t.1 t.2.1 t.2.2, .string name, .func (.func 112) #[] #[]] s fun y s' => y = .int .i64 (tabAt S name) ∧ s' = s := by
  unfold tabAt; rw [h.eq, seek_map]
  exact c_findT h.el.el h.el.few name
theorem c_at1 (x : Col) {p : Nat} {s : PH} {id : Int} (hp : s p = some (.cells #[.int .i64 id] 3 (0, 0))) : DCalls Tryz.prog 185 #[colV x, cp p] s fun y s' => y = .bool (decide (x.id = id)) ∧ s' = s := by
  refine ok_at1 x.id x.name x.kind x.state x.dflt.kind x.dflt.n x.dflt.s p _ s ?_
  unfold vc_at1
  simp [W.ld_at hp, beq_dec]
theorem c_IndexFuncAt {a : Option Addr} {an ac p : Nat} {s : PH} {id : Int} {xs : List Col} (h : elems (Rd.enc colE) s a an xs) (hn : xs.length ≤ 4294967296) (hp : s p = some (.cells #[.int .i64 id] 3 (0, 0))) :
    DCalls Tryz.prog 84 #[.slice a an ac, .func (.func 185) #[] #[cp p]] s fun y s' => y = .int .i64 (seek (fun x => decide (x.id = id)) xs 0) ∧ s' = s := by
  refine ok_IndexFuncAt a an ac p _ s ?_
  unfold vc_IndexFuncAt
  have hlen := h.1
  simp only [RP_loop]
  refine ⟨fun z s' => ∃ k : Nat, z = (((an : Int), ()), ((k : Int), ()), ()) ∧ k ≤ an ∧ s' = s ∧ seek (fun x => decide (x.id = id)) (xs.drop k) k = seek (fun x => decide (x.id = id)) xs 0, fun z _ => an - z.2.1.1.toNat, ⟨0, rfl, Nat.zero_le _, rfl, rfl⟩, ?_⟩
  rintro _ s ⟨k, rfl, hk, rfl, hs⟩
  simp [W.br_iff]
  refine ⟨fun hlt => ⟨hlt, ?_⟩, fun hge => ?_⟩
  · obtain ⟨x, hx⟩ : ∃ x, xs[k]? = some x := ⟨_, List.getElem?_eq_getElem (by omega)⟩
    obtain ⟨ad, rfl, hh⟩ := h.at_enc hx
    simp only [W.unSome_some]
    refine ld_has_z hh (y := (x.id, x.name, x.kind, x.state, x.dflt.kind, x.dflt.n, x.dflt.s, ())) rfl ?_
    refine W.call_of (c_at1 x hp) ?_
    rintro _ s ⟨rfl, rfl⟩
    refine ⟨((decide (x.id = id), ()), ()), rfl, ?_⟩
    rw [seek_step hx] at hs
    simp [W.br_iff, wrap_succ (k := k) (by omega)]
    refine ⟨fun he => ?_, fun he => ⟨⟨k + 1, by simp, hlt, ?_⟩, by omega⟩⟩
    · rw [← hs, if_pos (by simpa using he)]
    · rw [← hs, if_neg (by simpa using he)]
  · rw [← hs, seek_end (by omega)]
theorem c_byId1 (x : TabP) {p : Nat} {s : PH} {id : Int} (hp : s p = some (.cells #[.int .i64 id] 3 (0, 0))) : DCalls Tryz.prog 186 #[tabV x.T x.c x.x x.k, cp p] s fun y s' => y = .bool (decide (x.T.id = id)) ∧ s' = s := by
  refine ok_byId1 x.T.id x.T.name x.c.1 x.c.2.1 x.c.2.2 x.x.1 x.x.2.1 x.x.2.2 x.k.1 x.k.2.1 x.k.2.2 p _ s ?_
  unfold vc_byId1
  simp [W.ld_at hp, beq_dec]
theorem c_IndexFuncById {a : Option Addr} {an ac p : Nat} {s : PH} {id : Int} {xs : List TabP} (h : elems (Rd.enc tabE) s a an xs) (hn : xs.length ≤ 4294967296) (hp : s p = some (.cells #[.int .i64 id] 3 (0, 0))) :
    DCalls Tryz.prog 132 #[.slice a an ac, .func (.func 186) #[] #[cp p]] s fun y s' => y = .int .i64 (seek (fun x => decide (x.T.id = id)) xs 0) ∧ s' = s := by
  refine ok_IndexFuncById a an ac p _ s ?_
  unfold vc_IndexFuncById
  have hlen := h.1
  simp only [RP_loop]
  refine ⟨fun z s' => ∃ k : Nat, z = (((an : Int), ()), ((k : Int), ()), ()) ∧ k ≤ an ∧ s' = s ∧ seek (fun x => decide (x.T.id = id)) (xs.drop k) k = seek (fun x => decide (x.T.id = id)) xs 0, fun z _ => an - z.2.1.1.toNat, ⟨0, rfl, Nat.zero_le _, rfl, rfl⟩, ?_⟩
  rintro _ s ⟨k, rfl, hk, rfl, hs⟩
  simp [W.br_iff]
  refine ⟨fun hlt => ⟨hlt, ?_⟩, fun hge => ?_⟩
  · obtain ⟨x, hx⟩ : ∃ x, xs[k]? = some x := ⟨_, List.getElem?_eq_getElem (by omega)⟩
    obtain ⟨ad, rfl, hh⟩ := h.at_enc hx
    simp only [W.unSome_some]
    refine ld_has_z hh (y := (x.T.id, x.T.name, x.c, x.x, x.k, ())) rfl ?_
    refine W.call_of (c_byId1 x hp) ?_
    rintro _ s ⟨rfl, rfl⟩
    refine ⟨((decide (x.T.id = id), ()), ()), rfl, ?_⟩
    rw [seek_step hx] at hs
    simp [W.br_iff, wrap_succ (k := k) (by omega)]
    refine ⟨fun he => ?_, fun he => ⟨⟨k + 1, by simp, hlt, ?_⟩, by omega⟩⟩
    · rw [← hs, if_pos (by simpa using he)]
    · rw [← hs, if_neg (by simpa using he)]
  · rw [← hs, seek_end (by omega)]
theorem c_at {s : PH} {p : TabP} (h : Sl colE s p.c p.T.cols) (id : Int) : DCalls Tryz.prog 153 #[tabV p.T p.c p.x p.k, .int .i64 id] s fun y s' => y = .int .i64 (colOf p.T id) ∧ s' = s := by
  refine DCalls.quiet (ok_at p.T.id p.T.name p.c.1 p.c.2.1 p.c.2.2 p.x.1 p.x.2.1 p.x.2.2 p.k.1 p.k.2.1 p.k.2.2 id _ s ?_)
  unfold vc_at
  simp only [RP_nw]
  refine W.nw_of fun r s1 hr m1 k1 => ?_
  refine W.call_of (c_IndexFuncAt (h.el.mono m1.le) h.few k1) ?_
  rintro _ s3 ⟨rfl, rfl⟩
  exact ⟨((colOf p.T id, ()), ()), rfl, rfl, m1⟩
theorem c_byId {s : PH} {t : Tri} {S : Sch} {ps : List TabP} (h : SchIs s t S ps) (id : Int) : DCalls Tryz.prog 154 #[schV S t, .int .i64 id] s fun y s' => y = .int .i64 (tabOf S id) ∧ s' = s := by
  refine DCalls.quiet (ok_byId S.version S.last t.1 t.2.1 t.2.2 id _ s ?_)
  unfold vc_byId
  simp only [RP_nw]
  refine W.nw_of fun r s1 hr m1 k1 => ?_
  refine W.call_of (c_IndexFuncById (h.el.el.mono m1.le) h.el.few k1) ?_
  rintro _ s3 ⟨rfl, rfl⟩
  refine ⟨((tabOf S id, ()), ()), ?_, rfl, m1⟩
  unfold tabOf; rw [h.eq, seek_map]; (first | done | rfl)
/-- append([]T{}, ..) of what can be read -/
theorem row_copy {α : Type} {E : Enc α} {s : PH} {e : TypeId} {bytes k : Nat} {zero : List Value} {src : Src} {xs : List α} {K : Option Addr → Nat → Nat → W.T} (hs : srcIs s E.sz src (xs.flatMap E.f)) (hk : src.len = k) (hn : xs.length = k) (hl : k ≤ 4294967296) (hb : k * bytes ≤ 140737488355328) (hz : zero.length = E.sz)
    (hK : ∀ a' c' s', rowE E s' e a' k c' xs → Fw.Mod [] s s' → (∀ g ∈ Fw.blk a', s g = none) → K a' k c' s') : W.nw (.cells #[] e (0, 0)) (fun r => W.app e E.sz bytes zero (some ⟨r, 0, none⟩) 0 0 src K) s := by
  refine W.nw_of fun r s1 hr m1 k1 => ?_
  have hmax : maxLen = 9223372036854775807 := rfl
  have hsrc : srcIs s1 E.sz src (xs.flatMap E.f) := by
    cases src with
    | sl a m => cases a with
      | none => exact hs
      | some a => exact ⟨hs.1, hs.2.mono m1.le⟩
    | str b => exact hs
  have hnil : rowE E s1 e (some ⟨r, 0, none⟩) 0 0 ([] : List α) := ⟨by simp, Nat.le_refl _, Nat.zero_le _, .inr ⟨r, _, rfl, k1, by simp, by simp⟩⟩
  refine app_rowE (E := E) (k := k) (ys := xs) hnil hz hsrc hk hn (by omega) (by simpa using hb) ?_
  intro a' c' s2 hrow hm
  simp only [List.nil_append, Nat.zero_add] at hrow ⊢
  rcases hm with ⟨rfl, hm⟩ | ⟨g, rfl, hg, hm⟩
  · exact hK _ _ _ hrow (m1.fresh hm (by simp [Fw.blk, hr])) (by simp [Fw.blk, hr])
  · exact hK _ _ _ hrow (m1.trans hm) (by simp [Fw.blk]; exact m1.none hg (by simp))
theorem c_CloneC {s : PH} {t : Tri} {xs : List Col} (h : Sl colE s t xs) : DCalls Tryz.prog 40 #[.slice t.1 t.2.1 t.2.2] s fun y s' => ∃ u : Tri, y = u.v ∧ rowE colE s' 97 u.1 u.2.1 u.2.2 xs ∧ Fw.Mod [] s s' ∧ ∀ g ∈ Fw.blk u.1, s g = none := by
  obtain ⟨a, an, ac⟩ := t
  refine ok_CloneC a an ac _ s ?_
  unfold vc_CloneC
  have hlen := h.len
  have hfew := h.few
  dsimp only at hlen
  simp only [RP_ite, W.br_iff]
  refine ⟨fun hnone => ?_, fun hsome => ?_⟩
  · cases a with
    | some ad => cases hnone
    | none =>
      have : xs = [] := by
        cases xs with
        | nil => rfl
        | cons x xs => obtain ⟨ad, h1, _⟩ := h.el.at_enc (i := 0) rfl; cases h1
      subst this
      exact ⟨noTri, rfl, rowE.nil, Mod.refl _ _, by simp [Fw.blk]⟩
  · simp only [RP_nw]
    refine row_copy (E := colE) (k := an) h.el.src_enc rfl hlen.symm (by omega) (by omega) rfl ?_
    intro a' c' s' hrow hm hf
    exact ⟨(a', an, c'), rfl, hrow, hm, hf⟩
theorem c_CloneX {s : PH} {t : Tri} {xs : List Idx} (h : Sl idxE s t xs) : DCalls Tryz.prog 97 #[.slice t.1 t.2.1 t.2.2] s fun y s' => ∃ u : Tri, y = u.v ∧ rowE idxE s' 142 u.1 u.2.1 u.2.2 xs ∧ Fw.Mod [] s s' ∧ ∀ g ∈ Fw.blk u.1, s g = none := by
  obtain ⟨a, an, ac⟩ := t
  refine ok_CloneX a an ac _ s ?_
  unfold vc_CloneX
  have hlen := h.len
  have hfew := h.few
  dsimp only at hlen
  simp only [RP_ite, W.br_iff]
  refine ⟨fun hnone => ?_, fun hsome => ?_⟩
  · cases a with
    | some ad => cases hnone
    | none =>
      have : xs = [] := by
        cases xs with
        | nil => rfl
        | cons x xs => obtain ⟨ad, h1, _⟩ := h.el.at_enc (i := 0) rfl; cases h1
      subst this
      exact ⟨noTri, rfl, rowE.nil, Mod.refl _ _, by simp [Fw.blk]⟩
  · simp only [RP_nw]
    refine row_copy (E := idxE) (k := an) h.el.src_enc rfl hlen.symm (by omega) (by omega) rfl ?_
    intro a' c' s' hrow hm hf
    exact ⟨(a', an, c'), rfl, hrow, hm, hf⟩
theorem c_CloneF {s : PH} {t : Tri} {xs : List For} (h : Sl forE s t xs) : DCalls Tryz.prog 98 #[.slice t.1 t.2.1 t.2.2] s fun y s' => ∃ u : Tri, y = u.v ∧ rowE forE s' 144 u.1 u.2.1 u.2.2 xs ∧ Fw.Mod [] s s' ∧ ∀ g ∈ Fw.blk u.1, s g = none := by
  obtain ⟨a, an, ac⟩ := t
  refine ok_CloneF a an ac _ s ?_
  unfold vc_CloneF
  have hlen := h.len
  have hfew := h.few
  dsimp only at hlen
  simp only [RP_ite, W.br_iff]
  refine ⟨fun hnone => ?_, fun hsome => ?_⟩
  · cases a with
    | some ad => cases hnone
    | none =>
      have : xs = [] := by
        cases xs with
        | nil => rfl
        | cons x xs => obtain ⟨ad, h1, _⟩ := h.el.at_enc (i := 0) rfl; cases h1
      subst this
      exact ⟨noTri, rfl, rowE.nil, Mod.refl _ _, by simp [Fw.blk]⟩
  · simp only [RP_nw]
    refine row_copy (E := forE) (k := an) h.el.src_enc rfl hlen.symm (by omega) (by omega) rfl ?_
    intro a' c' s' hrow hm hf
    exact ⟨(a', an, c'), rfl, hrow, hm, hf⟩
/-- lists of a table of one's own: they lie in blocks of their own -/
structure Own (s : PH) (p : TabP) : Prop where
  c : rowE colE s 97 p.c.1 p.c.2.1 p.c.2.2 p.T.cols
  x : rowE idxE s 142 p.x.1 p.x.2.1 p.x.2.2 p.T.idxs
  k : rowE forE s 144 p.k.1 p.k.2.1 p.k.2.2 p.T.keys
def TabP.L (p : TabP) : List Nat := Fw.blk p.c.1 ++ (Fw.blk p.x.1 ++ Fw.blk p.k.1)
theorem Own.known {s : PH} {p : TabP} (h : Own s p) : ∀ g ∈ p.L, s g ≠ none := by
  intro g hg
  simp only [TabP.L, List.mem_append] at hg
  rcases hg with hg | hg | hg
  · exact h.c.known g hg
  · exact h.x.known g hg
  · exact h.k.known g hg
theorem Own.mod {s s' : PH} {p : TabP} {M : List Nat} (h : Own s p) (hm : Fw.Mod M s s') (hd : ∀ g ∈ p.L, g ∉ M) : Own s' p := by
  simp only [TabP.L, List.mem_append] at hd
  exact ⟨h.c.mod hm fun g hg => hd g (.inl hg), h.x.mod hm fun g hg => hd g (.inr (.inl hg)), h.k.mod hm fun g hg => hd g (.inr (.inr hg))⟩
theorem Sl.of_row {α : Type} {E : Enc α} {s : PH} {e : TypeId} {t : Tri} {xs : List α} (h : rowE E s e t.1 t.2.1 t.2.2 xs) (hf : xs.length ≤ 4294967296) : Sl E s t xs := ⟨elems.of_row h, h.le, hf⟩
def Tab.Few (T : Tab) : Prop := T.cols.length ≤ 4294967296 ∧ T.idxs.length ≤ 4294967296 ∧ T.keys.length ≤ 4294967296
theorem Own.is {s : PH} {p : TabP} (h : Own s p) (hf : p.T.Few) : TabIs s p := ⟨.of_row h.c hf.1, .of_row h.x hf.2.1, .of_row h.k hf.2.2⟩
theorem TabIs.few {s : PH} {p : TabP} (h : TabIs s p) : p.T.Few := ⟨h.c.few, h.x.few, h.k.few⟩
theorem blk_nodup (a : Option Addr) : (Fw.blk a).Nodup := by cases a <;> simp [Fw.blk]
theorem c_copied {s : PH} {p : TabP} (h : TabIs s p) : DCalls Tryz.prog 95 #[tabV p.T p.c p.x p.k] s fun y s' => ∃ q : TabP, y = tabV q.T q.c q.x q.k ∧ q.T = p.T ∧ Own s' q ∧ Fw.Mod [] s s' ∧ (∀ g ∈ q.L, s g = none) ∧ q.L.Nodup := by
  refine ok_copied p.T.id p.T.name p.c.1 p.c.2.1 p.c.2.2 p.x.1 p.x.2.1 p.x.2.2 p.k.1 p.k.2.1 p.k.2.2 _ s ?_
  unfold vc_copied
  simp only [RP_call]
  refine W.call_of (c_CloneC h.c) ?_
  rintro _ s1 ⟨u1, rfl, h1, m1, f1⟩
  refine ⟨((u1, ()), ()), rfl, ?_⟩
  refine W.call_of (c_CloneX (h.x.mono m1.le)) ?_
  rintro _ s2 ⟨u2, rfl, h2, m2, f2⟩
  refine ⟨((u2, ()), ()), rfl, ?_⟩
  refine W.call_of (c_CloneF (h.k.mono (m1.trans m2).le)) ?_
  rintro _ s3 ⟨u3, rfl, h3, m3, f3⟩
  refine ⟨((u3, ()), ()), rfl, ?_⟩
  refine ⟨⟨p.T, u1, u2, u3⟩, rfl, rfl, ⟨(h1.mod m2 (by simp)).mod m3 (by simp), h2.mod m3 (by simp), h3⟩, (m1.trans m2).trans m3, ?_, ?_⟩
  · intro g hg
    simp only [TabP.L, List.mem_append] at hg
    rcases hg with hg | hg | hg
    · exact f1 g hg
    · exact m1.none (f2 g hg) (by simp)
    · exact (m1.trans m2).none (f3 g hg) (by simp)
  · simp only [TabP.L, List.nodup_append]
    refine ⟨blk_nodup _, ⟨blk_nodup _, blk_nodup _, ?_⟩, ?_⟩
    · rintro g hg _ hg2 rfl
      exact h2.known g hg (f3 g hg2)
    · rintro g hg _ hg2 rfl
      rcases List.mem_append.1 hg2 with hg2 | hg2
      · exact h1.known g hg (f2 g hg2)
      · exact (h1.mod m2 (by simp)).known g hg (f3 g hg2)
end Go.Proofs.YthepfbcgpbkbdaaGreat
end
section
set_option linter.unusedVariables false
set_option linter.unusedSimpArgs false
set_option maxHeartbeats 1000000
set_option maxRecDepth 100000
namespace Go.Proofs.YthepfbcgpbkbdaaGreat
open Fw Go
attribute [-simp] Fw.W.ld_iff Fw.W.st_iff
def u8E : Enc UInt8 where
  sz := 1
  f b := [.int .u8 (b.toNat : Int)]
  len _ := rfl
  one p v hv := by simp at hv; subst hv; (first | done | rfl)
  pos := by omega
def intE : Enc Int where
  sz := 1
  f n := [.int .i64 n]
  len _ := rfl
  one p v hv := by simp at hv; subst hv; (first | done | rfl)
  pos := by omega
def zig (n : Int) : Nat := (if n < 0 then IntKind.u64.wrap (IntKind.u64.wrap (IntKind.u64.wrap (IntKind.i64.wrap (0 - IntKind.i64.wrap (n + 1))) * 2) + 1) else IntKind.u64.wrap (IntKind.u64.wrap n * 2)).toNat
def digs : Nat → Nat → List UInt8
  | 0, z => [UInt8.ofNat z]
  | f + 1, z => if z ≥ 128 then UInt8.ofNat (z % 128 + 128) :: digs f (z / 128) else [UInt8.ofNat z]
theorem digs_ge {f x : Nat} (h : x ≥ 128) : digs (f + 1) x = UInt8.ofNat (x % 128 + 128) :: digs f (x / 128) := by rw [digs, if_pos h]
def num (n : Int) : ByteArray := ⟨(digs 9 (zig n)).toArray⟩
theorem digs_len : ∀ (f z : Nat), (digs f z).length ≤ f + 1
  | 0, z => by simp [digs]
  | f + 1, z => by unfold digs; split; simp; exact digs_len f _; simp
theorem num_size (n : Int) : (num n).size ≤ 10 := by
  show ((digs 9 (zig n)).toArray).size ≤ 10
  rw [List.size_toArray]; exact digs_len 9 _
theorem w_u64 (n : Int) : IntKind.u64.wrap n = n % 18446744073709551616 := by simp [IntKind.wrap, IntKind.bits, IntKind.signed]
theorem u64_range (x : Int) : 0 ≤ IntKind.u64.wrap x ∧ IntKind.u64.wrap x < 18446744073709551616 := by
  rw [w_u64]; omega
theorem u64_in {x : Int} (h0 : 0 ≤ x) (h : x < 18446744073709551616) : IntKind.u64.wrap x = x := by rw [w_u64]; omega
theorem u8_in {x : Int} (h0 : 0 ≤ x) (h : x < 256) : IntKind.u8.wrap x = x := by rw [IntKind.wrap_u8]; omega
theorem zig_eq (n : Int) : ((zig n : Nat) : Int) = if n < 0 then IntKind.u64.wrap (IntKind.u64.wrap (IntKind.u64.wrap (IntKind.i64.wrap (0 - IntKind.i64.wrap (n + 1))) * 2) + 1) else IntKind.u64.wrap (IntKind.u64.wrap n * 2) := by
  unfold zig
  split
  · exact Int.toNat_of_nonneg (u64_range _).1
  · exact Int.toNat_of_nonneg (u64_range _).1
theorem zig_lt (n : Int) : zig n < 18446744073709551616 := by
  have h := zig_eq n
  split at h
  · have := (u64_range (IntKind.u64.wrap (IntKind.u64.wrap (IntKind.i64.wrap (0 - IntKind.i64.wrap (n + 1))) * 2) + 1)).2; omega
  · have := (u64_range (IntKind.u64.wrap n * 2)).2; omega
/-- one byte more -/
theorem app_byte {s : PH} {a : Option Addr} {n c : Nat} {l : List UInt8} {x : Int} {b : UInt8} {K : Option Addr → Nat → Nat → W.T} (h : rowE u8E s 5 a n c l) (hb : x = b.toNat) (hl : l.length ≤ 1000)
    (hK : ∀ a' c' s', rowE u8E s' 5 a' (n + 1) c' (l ++ [b]) → (∀ g ∈ Fw.blk a', g ∈ Fw.blk a ∨ s g = none) → Fw.Mod (Fw.blk a) s s' → K a' (n + 1) c' s') :
    W.nw (.cells #[.int .u8 x] 5 (0, 0)) (fun r => W.app 5 1 1 [.int .u8 0] a n c (.sl (some ⟨r, 0, none⟩) 1) K) s := by
  subst hb
  refine W.nw_of fun r s1 hr m1 k1 => ?_
  have hmax : maxLen = 9223372036854775807 := rfl
  have hlen := h.len
  have hsrc : srcIs s1 1 (.sl (some ⟨r, 0, none⟩) 1) ([b].flatMap u8E.f) := ⟨rfl, has_block k1⟩
  refine app_rowE (E := u8E) (k := 1) (ys := [b]) (h.mod m1 (by simp)) rfl hsrc rfl rfl (by omega) (by omega) ?_
  intro a' c' s2 hrow hm
  rcases hm with ⟨rfl, hm⟩ | ⟨g, rfl, hg, hm⟩
  · exact hK _ _ _ hrow (fun g hg => .inl hg) ((m1.mono (by simp)).trans hm)
  · exact hK _ _ _ hrow (by simp [Fw.blk]; exact .inr (m1.none hg (by simp))) ((m1.trans hm).mono (by simp))
def NumZ (n : Int) (s0 : PH) (z : MDen [(false, [.int .u64]), (false, [.slice])]) (s' : PH) : Prop :=
  ∃ (f x : Nat) (a : Option Addr) (k c : Nat) (l : List UInt8), z = (((x : Int), ()), ((a, k, c), ()), ()) ∧ f ≤ 9 ∧ l.length = 9 - f ∧ l ++ digs f x = digs 9 (zig n) ∧ x < 128 ^ (f + 1) ∧ x < 18446744073709551616 ∧ rowE u8E s' 5 a k c l ∧ Fw.Mod [] s0 s' ∧ ∀ g ∈ Fw.blk a, s0 g = none
theorem c_Num (n : Int) (s : PH) : DCalls Tryz.prog 32 #[.int .i64 n] s fun y s' => y = .string (num n) ∧ s' = s := by
  refine DCalls.quiet (ok_Num n _ s ?_)
  unfold vc_Num
  simp only [RP_join]
  refine W.join_gen (fun z s' => s' = s ∧ z = ((((zig n : Nat) : Int), ()), ())) ?_ ?_
  · rintro _ s ⟨rfl, rfl⟩
    simp only [RP_loop]
    have hz := zig_lt n
    refine ⟨NumZ n s, fun z _ => z.1.1.toNat, ⟨9, zig n, none, 0, 0, [], rfl, Nat.le_refl _, rfl, rfl, by omega, hz, rowE.nil, Mod.refl _ _, by simp [Fw.blk]⟩, ?_⟩
    rintro _ s1 ⟨f, x, a, k, c, l, rfl, hf, hl, hd, hx, hxl, hrow, m1, hfr⟩
    simp only [RP_ite, W.br_iff, decide_eq_true_eq, decide_eq_false_iff_not]
    refine ⟨fun h128 => ?_, fun h128 => ?_⟩
    · have h128 : x ≥ 128 := by omega
      have hf0 : ∃ f', f = f' + 1 := by
        cases f with
        | zero => simp at hx; omega
        | succ f' => exact ⟨f', rfl⟩
      obtain ⟨f', rfl⟩ := hf0
      have e1 : ((x : Int)).tmod 128 = ((x % 128 : Nat) : Int) := by rw [Int.tmod_eq_emod_of_nonneg (by omega)]; simp
      have e2 : ((x : Int)).tdiv 128 = ((x / 128 : Nat) : Int) := by rw [Int.tdiv_eq_ediv_of_nonneg (by omega)]; simp
      have hx2 : x / 128 < 128 ^ (f' + 1) := by
        rw [Nat.div_lt_iff_lt_mul (by omega)]
        rw [Nat.pow_succ] at hx; exact hx
      simp only [RP_nw, RP_app, e1, e2]
      refine app_byte (b := UInt8.ofNat (x % 128 + 128)) hrow ?_ (by omega) ?_
      · rw [u64_in (by omega) (by omega), u8_in (by omega) (by omega), UInt8.toNat_ofNat']
        omega
      · intro a' c' s2 hrow2 hfr2 m2
        rw [u64_in (by omega) (by omega)]
        refine ⟨⟨f', x / 128, a', k + 1, c', _, rfl, by omega, by rw [List.length_append]; simp; omega, ?_, hx2, by omega, hrow2, m1.fresh m2 (fun g hg => .inr (hfr g hg)), ?_⟩, by simp only [Int.toNat_natCast]; omega⟩
        · rw [← hd, List.append_assoc]
          rw [digs_ge h128]; (first | done | rfl)
        · intro g hg
          rcases hfr2 g hg with h | h
          · exact hfr g h
          · exact m1.none h (by simp)
    · have h128 : ¬ x ≥ 128 := by omega
      simp only [RP_nw, RP_app, RP_b2s]
      refine app_byte (b := UInt8.ofNat x) hrow ?_ (by omega) ?_
      · rw [u8_in (by omega) (by omega), UInt8.toNat_ofNat']; omega
      · intro a' c' s2 hrow2 hfr2 m2
        have hall : l ++ [UInt8.ofNat x] = digs 9 (zig n) := by
          rw [← hd]
          congr 1
          cases f with
          | zero => rfl
          | succ f' => unfold digs; rw [if_neg h128]
        refine ⟨num n, ?_, rfl, m1.fresh m2 (fun g hg => .inr (hfr g hg))⟩
        have hlen := hrow2.len
        rw [hall] at hrow2 hlen
        rcases hrow2.shape with ⟨rfl, h0, _⟩ | ⟨g, rfl⟩
        · omega
        · refine ⟨by show (digs 9 (zig n)).toArray.size = _; rw [List.size_toArray, hlen], ?_⟩
          have := hrow2.src0
          have hb : bytesOf (num n) = (digs 9 (zig n)).flatMap u8E.f := by
            unfold bytesOf num
            simp only [List.toList_toArray]
            generalize digs 9 (zig n) = l
            induction l with
            | nil => rfl
            | cons b l ih => rw [List.map_cons, ih, List.flatMap_cons]; (first | done | rfl)
          rw [hb]; exact this.2
  · intro J hJ
    have hz := zig_eq n
    simp only [RP_ite, W.br_iff, decide_eq_true_eq, decide_eq_false_iff_not]
    refine ⟨fun h => ?_, fun h => ?_⟩
    · rw [if_pos h] at hz; rw [← hz]; exact hJ _ _ ⟨rfl, rfl⟩
    · rw [if_neg h] at hz; rw [← hz]; exact hJ _ _ ⟨rfl, rfl⟩
def numsB (l : List Int) : ByteArray := l.foldl (fun t n => t ++ num n) ⟨#[]⟩
theorem foldl_take {α β : Type} (f : β → α → β) (b : β) {l : List α} {k : Nat} {x : α} (h : l[k]? = some x) : (l.take (k + 1)).foldl f b = f ((l.take k).foldl f b) x := by
  rw [List.take_add_one, h, List.foldl_append]; (first | done | rfl)
theorem size_app (a b : ByteArray) : (a ++ b).size = a.size + b.size := ByteArray.size_append
theorem numsB_le : ∀ (l : List Int) (t : ByteArray), (l.foldl (fun t n => t ++ num n) t).size ≤ t.size + 10 * l.length
  | [], t => by simp
  | n :: l, t => by
    have h1 := numsB_le l (t ++ num n)
    have h2 := num_size n
    rw [size_app] at h1
    simp only [List.foldl_cons, List.length_cons]; omega
theorem numsB_size (l : List Int) : (numsB l).size ≤ 10 * l.length := by
  have := numsB_le l ⟨#[]⟩
  have e : (ByteArray.mk #[]).size = 0 := rfl
  unfold numsB; omega
theorem c_nums {s : PH} {a : Option Addr} {an ac : Nat} {l : List Int} (h : elems (Rd.enc intE) s a an l) (hl : l.length ≤ 1000) : DCalls Tryz.prog 33 #[.slice a an ac] s fun y s' => y = .string (numsB l) ∧ s' = s := by
  refine ok_nums a an ac _ s ?_
  unfold vc_nums
  have hlen := h.1
  simp only [RP_loop]
  refine ⟨fun z s' => ∃ k : Nat, z = ((numsB (l.take k), ()), ((k : Int), ()), ()) ∧ k ≤ an ∧ s' = s, fun z _ => an - z.2.1.1.toNat, ⟨0, rfl, Nat.zero_le _, rfl⟩, ?_⟩
  rintro _ s ⟨k, rfl, hk, rfl⟩
  simp [W.br_iff]
  refine ⟨fun hlt => ⟨hlt, ?_⟩, fun hge => ?_⟩
  · obtain ⟨x, hx⟩ : ∃ x, l[k]? = some x := ⟨_, List.getElem?_eq_getElem (by omega)⟩
    obtain ⟨ad, rfl, hh⟩ := h.at_enc hx
    simp only [W.unSome_some]
    have hh : s.has (ad.add k) [.int .i64 x] := by have : k * intE.sz = k := Nat.mul_one _; rw [this] at hh; exact hh
    refine ld_has_z hh (cs := [.int .i64]) (y := (x, ())) rfl ?_
    refine W.call_of (c_Num x s) ?_
    rintro _ s ⟨rfl, rfl⟩
    refine ⟨((num x, ()), ()), rfl, ?_⟩
    have h1 := numsB_size (l.take k)
    have h2 := num_size x
    rw [List.length_take] at h1
    simp [wrap_succ (k := k) (by omega)]
    refine ⟨by omega, ⟨k + 1, ⟨?_, by simp⟩, hlt⟩, by omega⟩
    unfold numsB; rw [foldl_take _ _ hx]
  · have : l.take k = l := List.take_of_length_le (by omega)
    rw [this]
theorem nums_lit {s : PH} {r : Nat} {l : List Int} {e : TypeId} (h : s r = some (.cells (l.map (Value.int .i64)).toArray e (0, 0))) : elems (Rd.enc intE) s (some ⟨r, 0, none⟩) l.length l := by
  refine ⟨rfl, fun i x hx => ⟨⟨r, 0, none⟩, _, rfl, rfl, ?_⟩⟩
  have e1 : i * (Rd.enc intE).sz = i := Nat.mul_one _
  rw [e1, add_mk, Nat.zero_add]
  refine has_one ?_
  have := has_block h i (.int .i64 x) (by simp [hx])
  rwa [add_mk, Nat.zero_add] at this
def txt (t : ByteArray) : ByteArray := num t.size ++ t
theorem txt_size (t : ByteArray) : (txt t).size ≤ 10 + t.size := by
  have := num_size t.size
  unfold txt; rw [size_app]; omega
theorem c_text {t : ByteArray} (ht : t.size ≤ 281474976710656) (s : PH) : DCalls Tryz.prog 37 #[.string t] s fun y s' => y = .string (txt t) ∧ s' = s := by
  refine ok_text t _ s ?_
  unfold vc_text
  simp only [RP_call]
  refine W.call_of (c_Num _ s) ?_
  rintro _ s ⟨rfl, rfl⟩
  refine ⟨((num t.size, ()), ()), rfl, ?_⟩
  have := num_size t.size
  simp
  exact ⟨by omega, rfl⟩
def flagB (b : Bool) : ByteArray := if b = true then num 1 else num 0
theorem flag_size (b : Bool) : (flagB b).size ≤ 10 := by unfold flagB; split <;> exact num_size _
theorem c_flag (b : Bool) (s : PH) : DCalls Tryz.prog 36 #[.bool b] s fun y s' => y = .string (flagB b) ∧ s' = s := by
  refine ok_flag b _ s ?_
  unfold vc_flag flagB
  simp only [RP_ite, W.br_iff, RP_call]
  refine ⟨fun h => ?_, fun h => ?_⟩
  · refine W.call_of (c_Num 1 s) ?_
    rintro _ s ⟨rfl, rfl⟩
    refine ⟨((num 1, ()), ()), rfl, ?_⟩
    simp [h]
  · refine W.call_of (c_Num 0 s) ?_
    rintro _ s ⟨rfl, rfl⟩
    refine ⟨((num 0, ()), ()), rfl, ?_⟩
    simp [h]
def encV (v : Val) : ByteArray := num v.kind ++ num v.n ++ txt v.s
theorem encV_size (v : Val) : (encV v).size ≤ 30 + v.s.size := by
  have h1 := num_size v.kind
  have h2 := num_size v.n
  have h3 := txt_size v.s
  unfold encV; rw [size_app, size_app]; omega
theorem c_encV {v : Val} (hv : v.s.size ≤ 281474976710656) (s : PH) : DCalls Tryz.prog 67 #[valV v] s fun y s' => y = .string (encV v) ∧ s' = s := by
  refine ok_encV v.kind v.n v.s _ s ?_
  unfold vc_encV
  have h1 := num_size v.kind
  have h2 := num_size v.n
  have h3 := txt_size v.s
  simp only [RP_callQ]
  refine W.callQ_of ((num v.kind, ()), ()) (c_Num _ s) rfl ?_
  refine W.callQ_of ((num v.n, ()), ()) (c_Num _ s) rfl ?_
  simp
  refine ⟨by omega, ?_⟩
  refine W.callQ_of ((txt v.s, ()), ()) (c_text hv s) rfl ?_
  simp
  exact ⟨by omega, rfl⟩
end Go.Proofs.YthepfbcgpbkbdaaGreat
end
section
set_option linter.unusedVariables false
set_option linter.unusedSimpArgs false
set_option maxHeartbeats 1000000
set_option maxRecDepth 100000
namespace Go.Proofs.YthepfbcgpbkbdaaGreat
open Fw Go
attribute [-simp] Fw.W.ld_iff Fw.W.st_iff
def Sm (t : ByteArray) : Prop := t.size ≤ 281474976710656
def Col.Sm (c : Col) : Prop := c.name.size ≤ 281474976710656 ∧ c.dflt.s.size ≤ 281474976710656
def encCol (t : ByteArray) (c : Col) : ByteArray := t ++ num c.id ++ txt c.name ++ numsB [c.kind, c.state] ++ encV c.dflt
def encIdx (t : ByteArray) (x : Idx) : ByteArray := t ++ num x.id ++ txt x.name ++ num x.column ++ flagB x.unique ++ num x.state
def encKey (t : ByteArray) (x : For) : ByteArray := t ++ num x.id ++ txt x.name ++ numsB [x.column, x.parent, x.state]
def encCols (l : List Col) : ByteArray := l.foldl encCol (num l.length)
def encTab (t : ByteArray) (T : Tab) : ByteArray := T.keys.foldl encKey (T.idxs.foldl encIdx (t ++ num T.id ++ txt T.name ++ encCols T.cols ++ num T.idxs.length) ++ num T.keys.length)
def encS (S : Sch) : ByteArray := S.tabs.foldl encTab (numsB [S.version, S.last] ++ num S.tabs.length)
theorem encCol_size {c : Col} (h : c.Sm) (t : ByteArray) : (encCol t c).size ≤ t.size + 1125899906842624 := by
  have h1 := num_size c.id
  have h2 := txt_size c.name
  have h3 := numsB_size [c.kind, c.state]
  have h4 := encV_size c.dflt
  obtain ⟨h5, h6⟩ := h
  simp only [List.length_cons, List.length_nil] at h3
  unfold encCol; simp only [size_app]; omega
theorem encIdx_size {x : Idx} (h : x.name.size ≤ 281474976710656) (t : ByteArray) : (encIdx t x).size ≤ t.size + 1125899906842624 := by
  have h1 := num_size x.id
  have h2 := txt_size x.name
  have h3 := num_size x.column
  have h4 := num_size x.state
  have h5 := flag_size x.unique
  unfold encIdx; simp only [size_app]; omega
theorem encKey_size {x : For} (h : x.name.size ≤ 281474976710656) (t : ByteArray) : (encKey t x).size ≤ t.size + 1125899906842624 := by
  have h1 := num_size x.id
  have h2 := txt_size x.name
  have h3 := numsB_size [x.column, x.parent, x.state]
  simp only [List.length_cons, List.length_nil] at h3
  unfold encKey; simp only [size_app]; omega
theorem fold_size {α : Type} {f : ByteArray → α → ByteArray} {b : Nat} : ∀ (l : List α) (t : ByteArray), (∀ x ∈ l, ∀ t, (f t x).size ≤ t.size + b) → (l.foldl f t).size ≤ t.size + l.length * b
  | [], t, _ => by simp
  | x :: l, t, h => by
    have h1 := h x (by simp) t
    have h2 := fold_size l (f t x) fun y hy => h y (List.mem_cons_of_mem _ hy)
    simp only [List.foldl_cons, List.length_cons]
    rw [Nat.succ_mul]; omega
theorem take_mem {α : Type} {l : List α} {k : Nat} {x : α} (h : x ∈ l.take k) : x ∈ l := List.mem_of_mem_take h
theorem get_mem {α : Type} {l : List α} {k : Nat} {x : α} (h : l[k]? = some x) : x ∈ l := List.mem_of_getElem? h
theorem encCols_size {l : List Col} (h : ∀ c ∈ l, c.Sm) : (encCols l).size ≤ 10 + l.length * 1125899906842624 := by
  have h1 := num_size (l.length : Nat)
  have h2 := fold_size (f := encCol) (b := 1125899906842624) l (num l.length) fun c hc t => encCol_size (h c hc) t
  unfold encCols; omega
theorem c_encC {s : PH} {t : Tri} {l : List Col} (h : Sl colE s t l) (hl : l.length ≤ 1000) (hsm : ∀ c ∈ l, c.Sm) : DCalls Tryz.prog 66 #[.slice t.1 t.2.1 t.2.2] s fun y s' => y = .string (encCols l) ∧ s' = s := by
  obtain ⟨a, an, ac⟩ := t
  refine DCalls.quiet (ok_encC a an ac _ s ?_)
  unfold vc_encC
  have hlen : an = l.length := h.len
  simp only [RP_call]
  refine W.call_of (c_Num _ s) ?_
  rintro _ s ⟨rfl, rfl⟩
  refine ⟨((num an, ()), ()), rfl, ?_⟩
  simp only [RP_loop]
  refine ⟨fun z s' => ∃ k : Nat, z = (((l.take k).foldl encCol (num l.length), ()), ((k : Int), ()), ()) ∧ k ≤ an ∧ Fw.Mod [] s s', fun z _ => an - z.2.1.1.toNat, ⟨0, by rw [hlen]; (first | done | rfl), Nat.zero_le _, Mod.refl _ _⟩, ?_⟩
  rintro _ s1 ⟨k, rfl, hk, m1⟩
  have h1 := h.mono m1.le
  simp [W.br_iff, -W.nw_iff]
  refine ⟨fun hlt => ⟨hlt, ?_⟩, fun hge => ?_⟩
  · obtain ⟨x, hx⟩ : ∃ x, l[k]? = some x := ⟨_, List.getElem?_eq_getElem (by omega)⟩
    obtain ⟨ad, had, hh⟩ := h1.el.at_enc hx
    dsimp only at had; subst had
    have hxs := hsm x (get_mem hx)
    have hsz := fold_size (f := encCol) (b := 1125899906842624) (l.take k) (num l.length) fun c hc t => encCol_size (hsm c (take_mem hc)) t
    rw [List.length_take] at hsz
    have hmin : min k l.length = k := by omega
    rw [hmin] at hsz
    have hn := num_size (l.length : Nat)
    have hfin := foldl_take encCol (num l.length) hx
    generalize (l.take k).foldl encCol (num l.length) = out at hsz hfin ⊢
    have b1 := num_size x.id
    have b2 := txt_size x.name
    have b3 := numsB_size [x.kind, x.state]
    have b4 := encV_size x.dflt
    obtain ⟨b5, b6⟩ := hxs
    simp only [List.length_cons, List.length_nil] at b3
    simp only [W.unSome_some]
    refine ld_has_z hh (cs := [.int .i64]) (y := (x.id, ())) rfl ?_
    refine W.callQ_of ((num x.id, ()), ()) (c_Num _ s1) rfl ?_
    simp [-W.nw_iff]
    refine ⟨by omega, hlt, ?_⟩
    refine ld_has (j := 1) hh (cs := [.str]) (y := (x.name, ())) rfl ?_
    refine W.callQ_of ((txt x.name, ()), ()) (c_text b5 s1) rfl ?_
    simp [-W.nw_iff]
    refine ⟨by omega, hlt, ?_⟩
    refine ld_has (j := 2) hh (cs := [.int .i64]) (y := (x.kind, ())) rfl ?_
    simp [-W.nw_iff]
    refine ⟨hlt, ?_⟩
    refine ld_has (j := 3) hh (cs := [.int .i64]) (y := (x.state, ())) rfl ?_
    simp [-W.nw_iff]
    refine ⟨hlt, ?_⟩
    refine ld_has (j := 4) hh (cs := [.int .i64, .int .i64, .str]) (y := (x.dflt.kind, x.dflt.n, x.dflt.s, ())) rfl ?_
    refine W.nw_of fun r s2 hr m2 k2 => ?_
    refine W.call_of (c_nums (l := [x.kind, x.state]) (nums_lit (l := [x.kind, x.state]) k2) (by simp)) ?_
    rintro _ s2 ⟨rfl, rfl⟩
    refine ⟨((numsB [x.kind, x.state], ()), ()), rfl, ?_⟩
    refine ⟨?_, ?_⟩
    · intro i v hv
      have := (hh.mono m2.le) (4 + i) v
      rw [addr_add_add]
      refine this ?_
      revert hv
      match i with
      | 0 => exact id
      | 1 => exact id
      | 2 => exact id
      | i + 3 => intro hv; simp [vals] at hv
    simp [-W.nw_iff]
    refine ⟨by omega, ?_⟩
    refine W.call_of (c_encV (v := x.dflt) b6 s2) ?_
    rintro _ s2 ⟨rfl, rfl⟩
    refine ⟨((encV x.dflt, ()), ()), rfl, ?_⟩
    simp [wrap_succ (k := k) (by omega)]
    refine ⟨by omega, ⟨k + 1, ⟨?_, by simp⟩, hlt, m1.trans m2⟩, by omega⟩
    rw [hfin]; (first | done | rfl)
  · have : l.take k = l := List.take_of_length_le (by omega)
    rw [this]
    exact ⟨rfl, m1⟩
/-- names are no longer than a machine's, and there are not too many of all -/
structure Tab.Sm (T : Tab) : Prop where
  name : T.name.size ≤ 281474976710656
  cols : ∀ c ∈ T.cols, c.Sm
  idxs : ∀ x ∈ T.idxs, x.name.size ≤ 281474976710656
  keys : ∀ x ∈ T.keys, x.name.size ≤ 281474976710656
def Tab.cost (T : Tab) : Nat := 1 + T.cols.length + T.idxs.length + T.keys.length
def Sch.cost (S : Sch) : Nat := (S.tabs.map Tab.cost).sum
structure Sch.Sm (S : Sch) : Prop where
  tabs : ∀ T ∈ S.tabs, T.Sm
  cost : S.cost ≤ 1000
theorem encTab_size {T : Tab} (h : T.Sm) (t : ByteArray) : (encTab t T).size ≤ t.size + T.cost * 1125899906842624 := by
  have h1 := num_size T.id
  have h2 := txt_size T.name
  have h3 := encCols_size h.cols
  have h4 := num_size (T.idxs.length : Nat)
  have h5 := num_size (T.keys.length : Nat)
  have h6 := fold_size (f := encIdx) (b := 1125899906842624) T.idxs (t ++ num T.id ++ txt T.name ++ encCols T.cols ++ num T.idxs.length) fun x hx t => encIdx_size (h.idxs x hx) t
  have h7 := fold_size (f := encKey) (b := 1125899906842624) T.keys (T.idxs.foldl encIdx (t ++ num T.id ++ txt T.name ++ encCols T.cols ++ num T.idxs.length) ++ num T.keys.length) fun x hx t => encKey_size (h.keys x hx) t
  have h8 := h.name
  unfold encTab Tab.cost
  simp only [size_app] at h6 h7 ⊢
  omega
theorem cost_take {l : List Tab} {k : Nat} {T : Tab} (h : l[k]? = some T) : ((l.take (k + 1)).map Tab.cost).sum = ((l.take k).map Tab.cost).sum + T.cost := by
  rw [List.take_add_one, h]; simp
theorem cost_take_le (l : List Tab) (k : Nat) : ((l.take k).map Tab.cost).sum ≤ (l.map Tab.cost).sum := by
  have := congrArg (fun l => (l.map Tab.cost).sum) (List.take_append_drop k l)
  simp only [List.map_append, List.sum_append] at this
  omega
theorem encTabs_size : ∀ (l : List Tab) (t : ByteArray), (∀ T ∈ l, T.Sm) → (l.foldl encTab t).size ≤ t.size + (l.map Tab.cost).sum * 1125899906842624
  | [], t, _ => by simp
  | T :: l, t, h => by
    have h1 := encTab_size (h T (by simp)) t
    have h2 := encTabs_size l (encTab t T) fun y hy => h y (List.mem_cons_of_mem _ hy)
    simp only [List.foldl_cons, List.map_cons, List.sum_cons]
    rw [Nat.add_mul]; omega
theorem cost_len (l : List Tab) : l.length ≤ (l.map Tab.cost).sum := by
  induction l with
  | nil => simp
  | cons T l ih => simp only [List.length_cons, List.map_cons, List.sum_cons, Tab.cost]; omega
theorem c_encS {s : PH} {t : Tri} {S : Sch} {ps : List TabP} (h : SchIs s t S ps) (hsm : S.Sm) : DCalls Tryz.prog 31 #[schV S t] s fun y s' => y = .string (encS S) ∧ s' = s := by
  obtain ⟨a, an, ac⟩ := t
  refine DCalls.quiet (ok_encS S.version S.last a an ac _ s ?_)
  unfold vc_encS
  have hlen : an = ps.length := h.el.len
  have hlen2 : ps.length = S.tabs.length := by rw [h.eq, List.length_map]
  have hcl := cost_len S.tabs
  have hcs := hsm.cost
  have hcs' : (S.tabs.map Tab.cost).sum ≤ 1000 := hcs
  simp only [RP_nw]
  refine W.nw_of fun r s1 hr m1 k1 => ?_
  refine W.call_of (c_nums (l := [S.version, S.last]) (nums_lit (l := [S.version, S.last]) k1) (by simp)) ?_
  rintro _ s1 ⟨rfl, rfl⟩
  refine ⟨((numsB [S.version, S.last], ()), ()), rfl, ?_⟩
  refine W.call_of (c_Num _ s1) ?_
  rintro _ s1 ⟨rfl, rfl⟩
  refine ⟨((num an, ()), ()), rfl, ?_⟩
  have b0 := numsB_size [S.version, S.last]
  simp only [List.length_cons, List.length_nil] at b0
  have b1 := num_size (an : Nat)
  simp only [RP_guard, W.guard_iff, RP_loop]
  refine ⟨by omega, ?_⟩
  have hstart : encS S = S.tabs.foldl encTab (numsB [S.version, S.last] ++ num an) := by unfold encS; rw [hlen, hlen2]
  obtain ⟨st, hst, hst2⟩ : ∃ st, st = numsB [S.version, S.last] ++ num an ∧ st.size ≤ 100 := ⟨_, rfl, by rw [size_app]; omega⟩
  rw [hstart, ← hst]
  refine ⟨fun z s' => ∃ k : Nat, z = ((S.version, S.last, (a, an, ac), ()), ((S.tabs.take k).foldl encTab st, ()), ((k : Int), ()), ()) ∧ k ≤ an ∧ Fw.Mod [] s s', fun z _ => an - z.2.2.1.1.toNat, ⟨0, by rw [hst]; (first | done | rfl), Nat.zero_le _, m1⟩, ?_⟩
  rintro _ s2 ⟨k, rfl, hk, m2⟩
  have h2 := h.mono m2.le
  simp only [RP_ite, W.br_iff, decide_eq_true_eq, decide_eq_false_iff_not]
  refine ⟨fun hlt => ?_, fun hge => ?_⟩
  · have hlt : k < an := by omega
    obtain ⟨p, hp⟩ : ∃ p, ps[k]? = some p := ⟨_, List.getElem?_eq_getElem (by omega)⟩
    have hT : S.tabs[k]? = some p.T := by rw [h.eq, List.getElem?_map, hp]; (first | done | rfl)
    have hTs := hsm.tabs p.T (get_mem hT)
    have hP := h2.all p (get_mem hp)
    obtain ⟨ad, had, hh⟩ := h2.el.el.at_enc hp
    dsimp only at had; subst had
    have hsz := encTabs_size (S.tabs.take k) st fun T hT => hsm.tabs T (take_mem hT)
    have hct := cost_take hT
    have hcl2 := cost_take_le S.tabs (k + 1)
    have hfin := foldl_take encTab st hT
    generalize (S.tabs.take k).foldl encTab st = out at hsz hfin ⊢
    obtain ⟨T, ⟨ca, can, cac⟩, ⟨xa, xan, xac⟩, ⟨ka, kan, kac⟩⟩ := p
    dsimp only at hT hTs hP hct hfin
    have hcan : can = T.cols.length := hP.c.len
    have hxan : xan = T.idxs.length := hP.x.len
    have hkan : kan = T.keys.length := hP.k.len
    have b2 := num_size T.id
    have b3 := txt_size T.name
    have b4 := encCols_size hTs.cols
    have b5 := num_size (T.idxs.length : Nat)
    have b6 := num_size (T.keys.length : Nat)
    have b7 := hTs.name
    have hTc : T.cost = 1 + T.cols.length + T.idxs.length + T.keys.length := rfl
    obtain ⟨C, hC⟩ : ∃ C, C = ((S.tabs.take k).map Tab.cost).sum := ⟨_, rfl⟩
    rw [← hC] at hsz hct
    simp only [RP_guard, W.guard_iff, RP_unSome, W.unSome_some]
    refine ⟨by omega, ?_⟩
    refine ld_has_z hh (y := (T.id, T.name, (ca, can, cac), (xa, xan, xac), (ka, kan, kac), ())) rfl ?_
    refine W.callQ_of ((num T.id, ()), ()) (c_Num _ s2) rfl ?_
    refine ⟨by dsimp only; omega, ?_⟩
    refine W.callQ_of ((txt T.name, ()), ()) (c_text b7 s2) rfl ?_
    refine ⟨by dsimp only; (try simp only [size_app]); omega, ?_⟩
    refine W.callQ_of ((encCols T.cols, ()), ()) (c_encC (t := (ca, can, cac)) hP.c (show T.cols.length ≤ 1000 by omega) hTs.cols) rfl ?_
    refine ⟨by dsimp only; (try simp only [size_app]); omega, ?_⟩
    refine W.callQ_of ((num xan, ()), ()) (c_Num _ s2) rfl ?_
    rw [hxan]
    refine ⟨by dsimp only; (try simp only [size_app]); omega, ?_⟩
    obtain ⟨o1, ho1⟩ : ∃ o1, o1 = out ++ num T.id ++ txt T.name ++ encCols T.cols ++ num T.idxs.length := ⟨_, rfl⟩
    have so1 : o1.size ≤ out.size + 300000000000000 + T.cols.length * 1125899906842624 := by rw [ho1]; simp only [size_app]; omega
    dsimp only
    rw [← ho1, ← hxan]
    refine ⟨fun z s' => ∃ j : Nat, z = ((S.version, S.last, (some ad, an, ac), ()), ((T.idxs.take j).foldl encIdx o1, ()), ((k : Int), ()), (T.id, T.name, (ca, can, cac), (xa, xan, xac), (ka, kan, kac), ()), ((j : Int), ()), ()) ∧ j ≤ xan ∧ s' = s2, fun z _ => xan - z.2.2.2.2.1.1.toNat, ⟨0, rfl, Nat.zero_le _, rfl⟩, ?_⟩
    rintro _ s2 ⟨j, rfl, hj, rfl⟩
    simp only [W.br_iff, decide_eq_true_eq, decide_eq_false_iff_not]
    refine ⟨fun hlt2 => ?_, fun hge2 => ?_⟩
    · have hlt2 : j < xan := by omega
      obtain ⟨x, hx⟩ : ∃ x, T.idxs[j]? = some x := ⟨_, List.getElem?_eq_getElem (by omega)⟩
      obtain ⟨ad2, had2, hh2⟩ := hP.x.el.at_enc hx
      dsimp only at had2; subst had2
      have hxs := hTs.idxs x (get_mem hx)
      have hsz2 := fold_size (f := encIdx) (b := 1125899906842624) (T.idxs.take j) o1 fun x hx t => encIdx_size (hTs.idxs x (take_mem hx)) t
      rw [List.length_take, show min j T.idxs.length = j by omega] at hsz2
      have hfin2 := foldl_take encIdx o1 hx
      generalize (T.idxs.take j).foldl encIdx o1 = out2 at hsz2 hfin2 ⊢
      have c1 := num_size x.id
      have c2 := txt_size x.name
      have c3 := num_size x.column
      have c4 := num_size x.state
      have c5 := flag_size x.unique
      refine ⟨by omega, ?_⟩
      simp only [W.unSome_some]
      refine ld_has_z hh2 (y := (x.id, x.name, x.column, x.unique, x.state, ())) rfl ?_
      refine W.callQ_of ((num x.id, ()), ()) (c_Num _ s2) rfl ?_
      refine ⟨by dsimp only; (try simp only [size_app]); omega, ?_⟩
      refine W.callQ_of ((txt x.name, ()), ()) (c_text hxs s2) rfl ?_
      refine ⟨by dsimp only; (try simp only [size_app]); omega, ?_⟩
      refine W.callQ_of ((num x.column, ()), ()) (c_Num _ s2) rfl ?_
      refine ⟨by dsimp only; (try simp only [size_app]); omega, ?_⟩
      refine W.callQ_of ((flagB x.unique, ()), ()) (c_flag _ s2) rfl ?_
      refine ⟨by dsimp only; (try simp only [size_app]); omega, ?_⟩
      refine W.callQ_of ((num x.state, ()), ()) (c_Num _ s2) rfl ?_
      refine ⟨by dsimp only; (try simp only [size_app]); omega, ?_⟩
      rw [wrap_succ (k := j) (by omega)]
      refine ⟨⟨j + 1, ?_, by omega, rfl⟩, ?_⟩
      · rw [hfin2]; (first | done | rfl)
      · simp only [Int.toNat_natCast]; omega
    · have hall : T.idxs.take j = T.idxs := List.take_of_length_le (by omega)
      rw [hall]
      have hsz2 := fold_size (f := encIdx) (b := 1125899906842624) T.idxs o1 fun x hx t => encIdx_size (hTs.idxs x hx) t
      obtain ⟨o2, ho2⟩ : ∃ o2, o2 = T.idxs.foldl encIdx o1 := ⟨_, rfl⟩
      rw [← ho2] at hsz2 ⊢
      refine W.call_of (c_Num _ s2) ?_
      rintro _ s2 ⟨rfl, rfl⟩
      refine ⟨((num kan, ()), ()), rfl, ?_⟩
      rw [hkan]
      refine ⟨by dsimp only; omega, ?_⟩
      dsimp only
      rw [← hkan]
      refine ⟨fun z s' => ∃ j : Nat, z = ((S.version, S.last, (some ad, an, ac), ()), ((T.keys.take j).foldl encKey (o2 ++ num T.keys.length), ()), ((k : Int), ()), (T.id, T.name, (ca, can, cac), (xa, xan, xac), (ka, kan, kac), ()), ((j : Int), ()), ()) ∧ j ≤ kan ∧ Fw.Mod [] s2 s', fun z _ => kan - z.2.2.2.2.1.1.toNat, ⟨0, by rw [hkan]; (first | done | rfl), Nat.zero_le _, Mod.refl _ _⟩, ?_⟩
      rintro _ s3 ⟨j, rfl, hj, m3⟩
      simp only [W.br_iff, decide_eq_true_eq, decide_eq_false_iff_not]
      refine ⟨fun hlt2 => ?_, fun hge2 => ?_⟩
      · have hlt2 : j < kan := by omega
        obtain ⟨x, hx⟩ : ∃ x, T.keys[j]? = some x := ⟨_, List.getElem?_eq_getElem (by omega)⟩
        obtain ⟨ad2, had2, hh2⟩ := (hP.k.mono m3.le).el.at_enc hx
        dsimp only at had2; subst had2
        have hxs := hTs.keys x (get_mem hx)
        have hsz3 := fold_size (f := encKey) (b := 1125899906842624) (T.keys.take j) (o2 ++ num T.keys.length) fun x hx t => encKey_size (hTs.keys x (take_mem hx)) t
        rw [List.length_take, show min j T.keys.length = j by omega, size_app] at hsz3
        have hfin2 := foldl_take encKey (o2 ++ num T.keys.length) hx
        generalize (T.keys.take j).foldl encKey (o2 ++ num T.keys.length) = out2 at hsz3 hfin2 ⊢
        have c1 := num_size x.id
        have c2 := txt_size x.name
        have c3 := numsB_size [x.column, x.parent, x.state]
        simp only [List.length_cons, List.length_nil] at c3
        refine ⟨by omega, ?_⟩
        simp only [W.unSome_some]
        refine ld_has_z hh2 (y := (x.id, x.name, x.column, x.parent, x.state, ())) rfl ?_
        refine W.callQ_of ((num x.id, ()), ()) (c_Num _ s3) rfl ?_
        refine ⟨by dsimp only; (try simp only [size_app]); omega, ?_⟩
        refine W.callQ_of ((txt x.name, ()), ()) (c_text hxs s3) rfl ?_
        refine ⟨by dsimp only; (try simp only [size_app]); omega, ?_⟩
        refine W.nw_of fun r3 s4 hr3 m4 k4 => ?_
        refine W.call_of (c_nums (l := [x.column, x.parent, x.state]) (nums_lit (l := [x.column, x.parent, x.state]) k4) (by simp)) ?_
        rintro _ s4 ⟨rfl, rfl⟩
        refine ⟨((numsB [x.column, x.parent, x.state], ()), ()), rfl, ?_⟩
        refine ⟨by dsimp only; (try simp only [size_app]); omega, ?_⟩
        rw [wrap_succ (k := j) (by omega)]
        refine ⟨⟨j + 1, ?_, by omega, m3.trans m4⟩, ?_⟩
        · rw [hfin2]; (first | done | rfl)
        · simp only [Int.toNat_natCast]; omega
      · have hall : T.keys.take j = T.keys := List.take_of_length_le (by omega)
        rw [hall, wrap_succ (k := k) (by omega)]
        refine ⟨⟨k + 1, ?_, by omega, m2.trans m3⟩, ?_⟩
        · rw [hfin, ho2, ho1]; (first | done | rfl)
        · simp only [Int.toNat_natCast]; omega
  · have hall : S.tabs.take k = S.tabs := List.take_of_length_le (by omega)
    rw [hall]
    exact ⟨rfl, m2⟩
end Go.Proofs.YthepfbcgpbkbdaaGreat
end
