/-
  The functions of the ballot: printed by a program of this session's own, each proved to be the function's by the kernel.
  Conditions: none; it proves no statement by itself.
-/
import Derived.Test.YtfpbiecmobdnnaaFwN
import Derived.Test.YtfpbiecmobdnnaaProg
set_option linter.unusedVariables false
set_option maxHeartbeats 1000000
namespace Go.Proofs.Ytfpbiecmobdnnaa
open Fw Fw.W Go

/-- (*lintel/ballot.Ballot).last -/
def vc_last {W : Type} (π : Prims W) (b : Nat) : W :=
  π.unSome (some (Addr.mk b (0 : Nat) none)) fun p0 =>
  π.ld [.int .i64] ((p0.add (2 : Nat)).add (4 : Nat)) fun ((x1 : Int), _) =>
  π.unSome (some (Addr.mk b (0 : Nat) none)) fun p2 =>
  π.ld [.slice] (p2.add (11 : Nat)) fun (((a3 : Option Addr), (n4 : Nat), (c5 : Nat)), _) =>
  π.ret (Go.Value.int (IntKind.i64) (IntKind.i64.wrap (x1 + (↑n4 : Int))))

def ann_last : Ann := { draws := [(1, { A := [0, 1, 2, 3, 4, 5, 6, 7, 8, 9, 10, 11] })], join := [], loop := [] }
set_option maxRecDepth 100000 in
theorem eq_last {W : Type} (π : Prims W) (b : Nat) : bodyW π Try.prog ann_last (mkFr (maskA [] [.v (.pointer (some ⟨b, 0, none⟩))] 0) 14) Try.f26 (bodyOf Try.f26) (mkFr (List.map some [.v (.pointer (some ⟨b, 0, none⟩))]) 14) = vc_last π b := by kernel_rfl
theorem ok_last (b : Nat) (R : Value → PH → Prop) (s : PH) (h : vc_last (RP Try.prog R) b s) : DCalls Try.prog 26 (List.map AV.val [.v (.pointer (some ⟨b, 0, none⟩))]).toArray s R :=
  calls_vc (c := bodyOf Try.f26) (ann := ann_last) (by kernel_rfl) Try.func26 rfl (by kernel_rfl) [.v (.pointer (some ⟨b, 0, none⟩))] [] (by rw [Try.ntmps26]; exact Nat.le_of_ble_eq_true rfl) (by rw [show Try.f26.ntmps = 14 from Try.ntmps26, eq_last]; exact h)

/-- (*lintel/ballot.Ballot).clean -/
def vc_clean {W : Type} (π : Prims W) (b : Nat) : W :=
  π.call (26 : Nat) #[(Go.Value.pointer (some (Addr.mk b (0 : Nat) none)))] (false, [(false, [.int .i64])]) fun (((x0 : Int), _), _) =>
  π.unSome (some (Addr.mk b (0 : Nat) none)) fun p1 =>
  π.st (p1.add (15 : Nat)) [(Go.Value.bool (false))] <|
  π.unSome (some (Addr.mk b (0 : Nat) none)) fun p2 =>
  π.st (p2.add (16 : Nat)) [(Go.Value.bool (false))] <|
  π.unSome (some (Addr.mk b (0 : Nat) none)) fun p3 =>
  π.st (p3.add (17 : Nat)) [(Go.Value.int (IntKind.i64) (IntKind.i64.wrap (x0 + (1 : Int))))] <|
  π.ret (Go.Value.tuple #[])

def ann_clean : Ann := { draws := [], join := [], loop := [] }
set_option maxRecDepth 100000 in
theorem eq_clean {W : Type} (π : Prims W) (b : Nat) : bodyW π Try.prog ann_clean (mkFr (maskA [] [.v (.pointer (some ⟨b, 0, none⟩))] 0) 14) Try.f23 (bodyOf Try.f23) (mkFr (List.map some [.v (.pointer (some ⟨b, 0, none⟩))]) 14) = vc_clean π b := by kernel_rfl
theorem ok_clean (b : Nat) (R : Value → PH → Prop) (s : PH) (h : vc_clean (RP Try.prog R) b s) : DCalls Try.prog 23 (List.map AV.val [.v (.pointer (some ⟨b, 0, none⟩))]).toArray s R :=
  calls_vc (c := bodyOf Try.f23) (ann := ann_clean) (by kernel_rfl) Try.func23 rfl (by kernel_rfl) [.v (.pointer (some ⟨b, 0, none⟩))] [] (by rw [Try.ntmps23]; exact Nat.le_of_ble_eq_true rfl) (by rw [show Try.f23.ntmps = 14 from Try.ntmps23, eq_clean]; exact h)

/-- lintel/ballot.New -/
def vc_New {W : Type} (π : Prims W) (id size : Int) : W :=
  π.ite (decide (size < (1 : Int))) (
    π.ret (Go.Value.tuple #[(Go.Value.pointer (none)), (Go.Value.int (IntKind.i64) ((1 : Int)))])
  ) (
    π.ite (decide (size > (5 : Int))) (
      π.ret (Go.Value.tuple #[(Go.Value.pointer (none)), (Go.Value.int (IntKind.i64) ((1 : Int)))])
    ) (
      π.ite (decide (id < (0 : Int))) (
        π.ret (Go.Value.tuple #[(Go.Value.pointer (none)), (Go.Value.int (IntKind.i64) ((1 : Int)))])
      ) (
        π.ite (decide (id ≥ size)) (
          π.ret (Go.Value.tuple #[(Go.Value.pointer (none)), (Go.Value.int (IntKind.i64) ((1 : Int)))])
        ) (
          π.nw (Go.Obj.cells #[(Go.Value.int (IntKind.i64) (id)), (Go.Value.int (IntKind.i64) (size)), (Go.Value.int (IntKind.i64) ((0 : Int))), (Go.Value.int (IntKind.i64) ((-1 : Int))), (Go.Value.int (IntKind.i64) ((0 : Int))), (Go.Value.int (IntKind.i64) ((-1 : Int))), (Go.Value.int (IntKind.i64) ((0 : Int))), (Go.Value.int (IntKind.i64) ((0 : Int))), (Go.Value.int (IntKind.i64) ((0 : Int))), (Go.Value.int (IntKind.i64) ((0 : Int))), (Go.Value.string (ByteArray.mk #[])), (Go.Value.slice (none) ((0 : Nat)) ((0 : Nat))), (Go.Value.slice (none) ((0 : Nat)) ((0 : Nat))), (Go.Value.slice (none) ((0 : Nat)) ((0 : Nat))), (Go.Value.slice (none) ((0 : Nat)) ((0 : Nat))), (Go.Value.bool (false)), (Go.Value.bool (false)), (Go.Value.int (IntKind.i64) ((0 : Int)))] (67 : Nat) ((0 : Nat), (0 : Nat))) fun r0 =>
          π.call (23 : Nat) #[(Go.Value.pointer (some (Addr.mk r0 (0 : Nat) none)))] (true, []) fun (_) =>
          π.ret (Go.Value.tuple #[(Go.Value.pointer (some (Addr.mk r0 (0 : Nat) none))), (Go.Value.int (IntKind.i64) ((0 : Int)))])
        )
      )
    )
  )

def ann_New : Ann := { draws := [], join := [], loop := [] }
set_option maxRecDepth 100000 in
theorem eq_New {W : Type} (π : Prims W) (id size : Int) : bodyW π Try.prog ann_New (mkFr (maskA [] [.v (.int .i64 id), .v (.int .i64 size)] 0) 30) Try.f7 (bodyOf Try.f7) (mkFr (List.map some [.v (.int .i64 id), .v (.int .i64 size)]) 30) = vc_New π id size := by kernel_rfl
theorem ok_New (id size : Int) (R : Value → PH → Prop) (s : PH) (h : vc_New (RP Try.prog R) id size s) : DCalls Try.prog 7 (List.map AV.val [.v (.int .i64 id), .v (.int .i64 size)]).toArray s R :=
  calls_vc (c := bodyOf Try.f7) (ann := ann_New) (by kernel_rfl) Try.func7 rfl (by kernel_rfl) [.v (.int .i64 id), .v (.int .i64 size)] [] (by rw [Try.ntmps7]; exact Nat.le_of_ble_eq_true rfl) (by rw [show Try.f7.ntmps = 30 from Try.ntmps7, eq_New]; exact h)

/-- slices.Clone[[]lintel/api.Entry,lintel/api.Entry] -/
def vc_Clone {W : Type} (π : Prims W) (a : Option Addr) (an ac : Nat) : W :=
  π.ite (a.isNone) (
    π.ret (Go.Value.slice (none) ((0 : Nat)) ((0 : Nat)))
  ) (
    π.nw (Go.Obj.cells #[] (39 : Nat) ((0 : Nat), (0 : Nat))) fun r0 =>
    π.app (39 : Nat) (4 : Nat) (40 : Nat) [(Go.Value.int (IntKind.i64) ((0 : Int))), (Go.Value.int (IntKind.i64) ((0 : Int))), (Go.Value.int (IntKind.i64) ((0 : Int))), (Go.Value.string (ByteArray.mk #[]))] (some (Addr.mk r0 (0 : Nat) none)) ((0 : Nat)) ((0 : Nat)) (Src.sl a an) fun a1 n2 c3 =>
    π.ret (Go.Value.slice (a1) (n2) (c3))
  )

def ann_Clone : Ann := { draws := [], join := [], loop := [] }
set_option maxRecDepth 100000 in
theorem eq_Clone {W : Type} (π : Prims W) (a : Option Addr) (an ac : Nat) : bodyW π Try.prog ann_Clone (mkFr (maskA [] [.v (.slice a an ac)] 0) 8) Try.f38 (bodyOf Try.f38) (mkFr (List.map some [.v (.slice a an ac)]) 8) = vc_Clone π a an ac := by kernel_rfl
theorem ok_Clone (a : Option Addr) (an ac : Nat) (R : Value → PH → Prop) (s : PH) (h : vc_Clone (RP Try.prog R) a an ac s) : DCalls Try.prog 38 (List.map AV.val [.v (.slice a an ac)]).toArray s R :=
  calls_vc (c := bodyOf Try.f38) (ann := ann_Clone) (by kernel_rfl) Try.func38 rfl (by kernel_rfl) [.v (.slice a an ac)] [] (by rw [Try.ntmps38]; exact Nat.le_of_ble_eq_true rfl) (by rw [show Try.f38.ntmps = 8 from Try.ntmps38, eq_Clone]; exact h)

/-- (*lintel/ballot.Ballot).Entry -/
def vc_Entry {W : Type} (π : Prims W) (b : Nat) (i : Int) : W :=
  π.nw (Go.Obj.cells #[(Go.Value.int (IntKind.i64) ((0 : Int))), (Go.Value.int (IntKind.i64) ((0 : Int))), (Go.Value.int (IntKind.i64) ((0 : Int))), (Go.Value.string (ByteArray.mk #[]))] (39 : Nat) ((0 : Nat), (0 : Nat))) fun r0 =>
  π.ite ((some (Addr.mk b (0 : Nat) none)).isNone) (
    π.st (Addr.mk r0 (0 : Nat) none) [(Go.Value.int (IntKind.i64) ((0 : Int))), (Go.Value.int (IntKind.i64) ((0 : Int))), (Go.Value.int (IntKind.i64) ((0 : Int))), (Go.Value.string (ByteArray.mk #[]))] <|
    π.ld [.int .i64, .int .i64, .int .i64, .str] (Addr.mk r0 (0 : Nat) none) fun ((x1 : Int), (x2 : Int), (x3 : Int), (t4 : ByteArray), _) =>
    π.ret (Go.Value.tuple #[(Go.Value.agg #[(Go.Value.int (IntKind.i64) (x1)), (Go.Value.int (IntKind.i64) (x2)), (Go.Value.int (IntKind.i64) (x3)), (Go.Value.string (t4))]), (Go.Value.bool (false))])
  ) (
    π.unSome (some (Addr.mk b (0 : Nat) none)) fun p5 =>
    π.ld [.int .i64] ((p5.add (2 : Nat)).add (4 : Nat)) fun ((x6 : Int), _) =>
    π.ite (decide (i ≤ x6)) (
      π.st (Addr.mk r0 (0 : Nat) none) [(Go.Value.int (IntKind.i64) ((0 : Int))), (Go.Value.int (IntKind.i64) ((0 : Int))), (Go.Value.int (IntKind.i64) ((0 : Int))), (Go.Value.string (ByteArray.mk #[]))] <|
      π.ld [.int .i64, .int .i64, .int .i64, .str] (Addr.mk r0 (0 : Nat) none) fun ((x7 : Int), (x8 : Int), (x9 : Int), (t10 : ByteArray), _) =>
      π.ret (Go.Value.tuple #[(Go.Value.agg #[(Go.Value.int (IntKind.i64) (x7)), (Go.Value.int (IntKind.i64) (x8)), (Go.Value.int (IntKind.i64) (x9)), (Go.Value.string (t10))]), (Go.Value.bool (false))])
    ) (
      π.call (26 : Nat) #[(Go.Value.pointer (some (Addr.mk b (0 : Nat) none)))] (false, [(false, [.int .i64])]) fun (((x11 : Int), _), _) =>
      π.ite (decide (i > x11)) (
        π.st (Addr.mk r0 (0 : Nat) none) [(Go.Value.int (IntKind.i64) ((0 : Int))), (Go.Value.int (IntKind.i64) ((0 : Int))), (Go.Value.int (IntKind.i64) ((0 : Int))), (Go.Value.string (ByteArray.mk #[]))] <|
        π.ld [.int .i64, .int .i64, .int .i64, .str] (Addr.mk r0 (0 : Nat) none) fun ((x12 : Int), (x13 : Int), (x14 : Int), (t15 : ByteArray), _) =>
        π.ret (Go.Value.tuple #[(Go.Value.agg #[(Go.Value.int (IntKind.i64) (x12)), (Go.Value.int (IntKind.i64) (x13)), (Go.Value.int (IntKind.i64) (x14)), (Go.Value.string (t15))]), (Go.Value.bool (false))])
      ) (
        π.unSome (some (Addr.mk b (0 : Nat) none)) fun p16 =>
        π.ld [.slice] (p16.add (11 : Nat)) fun (((a17 : Option Addr), (n18 : Nat), (c19 : Nat)), _) =>
        π.unSome (some (Addr.mk b (0 : Nat) none)) fun p20 =>
        π.ld [.int .i64] ((p20.add (2 : Nat)).add (4 : Nat)) fun ((x21 : Int), _) =>
        π.guard ((0 : Int) ≤ IntKind.i64.wrap (IntKind.i64.wrap (i - x21) - (1 : Int)) ∧ IntKind.i64.wrap (IntKind.i64.wrap (i - x21) - (1 : Int)) < (↑n18 : Int)) <|
        π.unSome (a17) fun p22 =>
        π.ld [.int .i64, .int .i64, .int .i64, .str] (p22.add ((IntKind.i64.wrap (IntKind.i64.wrap (i - x21) - (1 : Int))).toNat * (4 : Nat))) fun ((x23 : Int), (x24 : Int), (x25 : Int), (t26 : ByteArray), _) =>
        π.st (Addr.mk r0 (0 : Nat) none) [(Go.Value.int (IntKind.i64) (x23)), (Go.Value.int (IntKind.i64) (x24)), (Go.Value.int (IntKind.i64) (x25)), (Go.Value.string (t26))] <|
        π.ld [.int .i64, .int .i64, .int .i64, .str] (Addr.mk r0 (0 : Nat) none) fun ((x27 : Int), (x28 : Int), (x29 : Int), (t30 : ByteArray), _) =>
        π.ret (Go.Value.tuple #[(Go.Value.agg #[(Go.Value.int (IntKind.i64) (x27)), (Go.Value.int (IntKind.i64) (x28)), (Go.Value.int (IntKind.i64) (x29)), (Go.Value.string (t30))]), (Go.Value.bool (true))])
      )
    )
  )

def ann_Entry : Ann := { draws := [(3, { A := [0, 1, 2, 3, 4, 5, 6, 7, 8, 9, 10, 11, 12, 13], eag := [15] })], join := [], loop := [] }
set_option maxRecDepth 100000 in
theorem eq_Entry {W : Type} (π : Prims W) (b : Nat) (i : Int) : bodyW π Try.prog ann_Entry (mkFr (maskA [] [.v (.pointer (some ⟨b, 0, none⟩)), .v (.int .i64 i)] 0) 38) Try.f11 (bodyOf Try.f11) (mkFr (List.map some [.v (.pointer (some ⟨b, 0, none⟩)), .v (.int .i64 i)]) 38) = vc_Entry π b i := by kernel_rfl
theorem ok_Entry (b : Nat) (i : Int) (R : Value → PH → Prop) (s : PH) (h : vc_Entry (RP Try.prog R) b i s) : DCalls Try.prog 11 (List.map AV.val [.v (.pointer (some ⟨b, 0, none⟩)), .v (.int .i64 i)]).toArray s R :=
  calls_vc (c := bodyOf Try.f11) (ann := ann_Entry) (by kernel_rfl) Try.func11 rfl (by kernel_rfl) [.v (.pointer (some ⟨b, 0, none⟩)), .v (.int .i64 i)] [] (by rw [Try.ntmps11]; exact Nat.le_of_ble_eq_true rfl) (by rw [show Try.f11.ntmps = 38 from Try.ntmps11, eq_Entry]; exact h)

/-- (*lintel/ballot.Ballot).term -/
def vc_term {W : Type} (π : Prims W) (b : Nat) (i : Int) : W :=
  π.unSome (some (Addr.mk b (0 : Nat) none)) fun p0 =>
  π.ld [.int .i64] ((p0.add (2 : Nat)).add (4 : Nat)) fun ((x1 : Int), _) =>
  π.ite (i == x1) (
    π.unSome (some (Addr.mk b (0 : Nat) none)) fun p2 =>
    π.ld [.int .i64] (p2.add (9 : Nat)) fun ((x3 : Int), _) =>
    π.ret (Go.Value.tuple #[(Go.Value.int (IntKind.i64) (x3)), (Go.Value.bool (true))])
  ) (
    π.call (11 : Nat) #[(Go.Value.pointer (some (Addr.mk b (0 : Nat) none))), (Go.Value.int (IntKind.i64) (i))] (true, [(true, [.int .i64, .int .i64, .int .i64, .str]), (false, [.bool])]) fun (((x4 : Int), (x5 : Int), (x6 : Int), (t7 : ByteArray), _), ((b8 : Bool), _), _) =>
    π.nw (Go.Obj.cells #[(Go.Value.int (IntKind.i64) ((0 : Int))), (Go.Value.int (IntKind.i64) ((0 : Int))), (Go.Value.int (IntKind.i64) ((0 : Int))), (Go.Value.string (ByteArray.mk #[]))] (39 : Nat) ((0 : Nat), (0 : Nat))) fun r9 =>
    π.st (Addr.mk r9 (0 : Nat) none) [(Go.Value.int (IntKind.i64) (x4)), (Go.Value.int (IntKind.i64) (x5)), (Go.Value.int (IntKind.i64) (x6)), (Go.Value.string (t7))] <|
    π.ld [.int .i64] ((Addr.mk r9 (0 : Nat) none).add (0 : Nat)) fun ((x10 : Int), _) =>
    π.ret (Go.Value.tuple #[(Go.Value.int (IntKind.i64) (x10)), (Go.Value.bool (b8))])
  )

def ann_term : Ann := { draws := [], join := [], loop := [] }
set_option maxRecDepth 100000 in
theorem eq_term {W : Type} (π : Prims W) (b : Nat) (i : Int) : bodyW π Try.prog ann_term (mkFr (maskA [] [.v (.pointer (some ⟨b, 0, none⟩)), .v (.int .i64 i)] 0) 28) Try.f55 (bodyOf Try.f55) (mkFr (List.map some [.v (.pointer (some ⟨b, 0, none⟩)), .v (.int .i64 i)]) 28) = vc_term π b i := by kernel_rfl
theorem ok_term (b : Nat) (i : Int) (R : Value → PH → Prop) (s : PH) (h : vc_term (RP Try.prog R) b i s) : DCalls Try.prog 55 (List.map AV.val [.v (.pointer (some ⟨b, 0, none⟩)), .v (.int .i64 i)]).toArray s R :=
  calls_vc (c := bodyOf Try.f55) (ann := ann_term) (by kernel_rfl) Try.func55 rfl (by kernel_rfl) [.v (.pointer (some ⟨b, 0, none⟩)), .v (.int .i64 i)] [] (by rw [Try.ntmps55]; exact Nat.le_of_ble_eq_true rfl) (by rw [show Try.f55.ntmps = 28 from Try.ntmps55, eq_term]; exact h)

/-- (*lintel/ballot.Ballot).set -/
def vc_set {W : Type} (π : Prims W) (b : Nat) (i : Int) (a : Option Addr) (an ac : Nat) : W :=
  π.unSome (some (Addr.mk b (0 : Nat) none)) fun p0 =>
  π.ld [.slice] (p0.add (11 : Nat)) fun (((a1 : Option Addr), (n2 : Nat), (c3 : Nat)), _) =>
  π.unSome (some (Addr.mk b (0 : Nat) none)) fun p4 =>
  π.ld [.int .i64] ((p4.add (2 : Nat)).add (4 : Nat)) fun ((x5 : Int), _) =>
  π.unSome (some (Addr.mk b (0 : Nat) none)) fun p6 =>
  π.ld [.int .i64] ((p6.add (2 : Nat)).add (4 : Nat)) fun ((x7 : Int), _) =>
  π.guard ((0 : Int) ≤ (0 : Int) ∧ (0 : Int) ≤ IntKind.i64.wrap (IntKind.i64.wrap (i - x5) - (1 : Int)) ∧ IntKind.i64.wrap (IntKind.i64.wrap (i - x5) - (1 : Int)) ≤ IntKind.i64.wrap (IntKind.i64.wrap (i - x7) - (1 : Int)) ∧ IntKind.i64.wrap (IntKind.i64.wrap (i - x7) - (1 : Int)) ≤ (↑c3 : Int)) <|
  π.app (39 : Nat) (4 : Nat) (40 : Nat) [(Go.Value.int (IntKind.i64) ((0 : Int))), (Go.Value.int (IntKind.i64) ((0 : Int))), (Go.Value.int (IntKind.i64) ((0 : Int))), (Go.Value.string (ByteArray.mk #[]))] (if (IntKind.i64.wrap (IntKind.i64.wrap (i - x7) - (1 : Int))).toNat = (0 : Nat) then a1 else Option.map (fun x => x.add (0 : Nat)) a1) ((IntKind.i64.wrap (IntKind.i64.wrap (i - x5) - (1 : Int))).toNat - (0 : Nat)) ((IntKind.i64.wrap (IntKind.i64.wrap (i - x7) - (1 : Int))).toNat - (0 : Nat)) (Src.sl a an) fun a8 n9 c10 =>
  π.unSome (some (Addr.mk b (0 : Nat) none)) fun p11 =>
  π.st (p11.add (11 : Nat)) [(Go.Value.slice (a8) (n9) (c10))] <|
  π.unSome (some (Addr.mk b (0 : Nat) none)) fun p12 =>
  π.ld [.int .i64] (p12.add (17 : Nat)) fun ((x13 : Int), _) =>
  π.unSome (some (Addr.mk b (0 : Nat) none)) fun p14 =>
  π.st (p14.add (15 : Nat)) [(Go.Value.bool (true))] <|
  π.unSome (some (Addr.mk b (0 : Nat) none)) fun p15 =>
  π.st (p15.add (17 : Nat)) [(Go.Value.int (IntKind.i64) (if i < x13 then i else x13))] <|
  π.ret (Go.Value.tuple #[])

def ann_set : Ann := { draws := [(0, { A := [0, 1, 2, 3, 4, 5, 6, 7, 8, 9, 10, 11, 12, 13, 14, 15, 16, 17, 18, 19, 20, 21, 22], eag := [24, 25] })], join := [], loop := [] }
set_option maxRecDepth 100000 in
theorem eq_set {W : Type} (π : Prims W) (b : Nat) (i : Int) (a : Option Addr) (an ac : Nat) : bodyW π Try.prog ann_set (mkFr (maskA [] [.v (.pointer (some ⟨b, 0, none⟩)), .v (.int .i64 i), .v (.slice a an ac)] 0) 44) Try.f53 (bodyOf Try.f53) (mkFr (List.map some [.v (.pointer (some ⟨b, 0, none⟩)), .v (.int .i64 i), .v (.slice a an ac)]) 44) = vc_set π b i a an ac := by kernel_rfl
theorem ok_set (b : Nat) (i : Int) (a : Option Addr) (an ac : Nat) (R : Value → PH → Prop) (s : PH) (h : vc_set (RP Try.prog R) b i a an ac s) : DCalls Try.prog 53 (List.map AV.val [.v (.pointer (some ⟨b, 0, none⟩)), .v (.int .i64 i), .v (.slice a an ac)]).toArray s R :=
  calls_vc (c := bodyOf Try.f53) (ann := ann_set) (by kernel_rfl) Try.func53 rfl (by kernel_rfl) [.v (.pointer (some ⟨b, 0, none⟩)), .v (.int .i64 i), .v (.slice a an ac)] [] (by rw [Try.ntmps53]; exact Nat.le_of_ble_eq_true rfl) (by rw [show Try.f53.ntmps = 44 from Try.ntmps53, eq_set]; exact h)

/-- (*lintel/ballot.Ballot).turn -/
def vc_turn {W : Type} (π : Prims W) (b : Nat) (term vote role : Int) : W :=
  π.unSome (some (Addr.mk b (0 : Nat) none)) fun p0 =>
  π.st ((p0.add (2 : Nat)).add (0 : Nat)) [(Go.Value.int (IntKind.i64) (term))] <|
  π.unSome (some (Addr.mk b (0 : Nat) none)) fun p1 =>
  π.st ((p1.add (2 : Nat)).add (1 : Nat)) [(Go.Value.int (IntKind.i64) (vote))] <|
  π.unSome (some (Addr.mk b (0 : Nat) none)) fun p2 =>
  π.st ((p2.add (2 : Nat)).add (2 : Nat)) [(Go.Value.int (IntKind.i64) (role))] <|
  π.unSome (some (Addr.mk b (0 : Nat) none)) fun p3 =>
  π.st ((p3.add (2 : Nat)).add (3 : Nat)) [(Go.Value.int (IntKind.i64) ((-1 : Int)))] <|
  π.unSome (some (Addr.mk b (0 : Nat) none)) fun p4 =>
  π.st (p4.add (15 : Nat)) [(Go.Value.bool (true))] <|
  π.ret (Go.Value.tuple #[])

def ann_turn : Ann := { draws := [], join := [], loop := [] }
set_option maxRecDepth 100000 in
theorem eq_turn {W : Type} (π : Prims W) (b : Nat) (term vote role : Int) : bodyW π Try.prog ann_turn (mkFr (maskA [] [.v (.pointer (some ⟨b, 0, none⟩)), .v (.int .i64 term), .v (.int .i64 vote), .v (.int .i64 role)] 0) 30) Try.f40 (bodyOf Try.f40) (mkFr (List.map some [.v (.pointer (some ⟨b, 0, none⟩)), .v (.int .i64 term), .v (.int .i64 vote), .v (.int .i64 role)]) 30) = vc_turn π b term vote role := by kernel_rfl
theorem ok_turn (b : Nat) (term vote role : Int) (R : Value → PH → Prop) (s : PH) (h : vc_turn (RP Try.prog R) b term vote role s) : DCalls Try.prog 40 (List.map AV.val [.v (.pointer (some ⟨b, 0, none⟩)), .v (.int .i64 term), .v (.int .i64 vote), .v (.int .i64 role)]).toArray s R :=
  calls_vc (c := bodyOf Try.f40) (ann := ann_turn) (by kernel_rfl) Try.func40 rfl (by kernel_rfl) [.v (.pointer (some ⟨b, 0, none⟩)), .v (.int .i64 term), .v (.int .i64 vote), .v (.int .i64 role)] [] (by rw [Try.ntmps40]; exact Nat.le_of_ble_eq_true rfl) (by rw [show Try.f40.ntmps = 30 from Try.ntmps40, eq_turn]; exact h)

/-- (*lintel/ballot.Ballot).msg -/
def vc_msg {W : Type} (π : Prims W) (b : Nat) (kind to : Int) : W :=
  π.nw (Go.Obj.cells #[(Go.Value.int (IntKind.i64) ((0 : Int))), (Go.Value.int (IntKind.i64) ((0 : Int))), (Go.Value.int (IntKind.i64) ((0 : Int))), (Go.Value.int (IntKind.i64) ((0 : Int))), (Go.Value.int (IntKind.i64) ((0 : Int))), (Go.Value.int (IntKind.i64) ((0 : Int))), (Go.Value.int (IntKind.i64) ((0 : Int))), (Go.Value.bool (false)), (Go.Value.slice (none) ((0 : Nat)) ((0 : Nat))), (Go.Value.string (ByteArray.mk #[]))] (32 : Nat) ((0 : Nat), (0 : Nat))) fun r0 =>
  π.unSome (some (Addr.mk b (0 : Nat) none)) fun p1 =>
  π.ld [.int .i64] (p1.add (0 : Nat)) fun ((x2 : Int), _) =>
  π.unSome (some (Addr.mk b (0 : Nat) none)) fun p3 =>
  π.ld [.int .i64] ((p3.add (2 : Nat)).add (0 : Nat)) fun ((x4 : Int), _) =>
  π.st (Addr.mk r0 (0 : Nat) none) [(Go.Value.int (IntKind.i64) (kind)), (Go.Value.int (IntKind.i64) (x2)), (Go.Value.int (IntKind.i64) (to)), (Go.Value.int (IntKind.i64) (x4)), (Go.Value.int (IntKind.i64) ((0 : Int))), (Go.Value.int (IntKind.i64) ((0 : Int))), (Go.Value.int (IntKind.i64) ((0 : Int))), (Go.Value.bool (false)), (Go.Value.slice (none) ((0 : Nat)) ((0 : Nat))), (Go.Value.string (ByteArray.mk #[]))] <|
  π.ld [.int .i64, .int .i64, .int .i64, .int .i64, .int .i64, .int .i64, .int .i64, .bool, .slice, .str] (Addr.mk r0 (0 : Nat) none) fun ((x5 : Int), (x6 : Int), (x7 : Int), (x8 : Int), (x9 : Int), (x10 : Int), (x11 : Int), (b12 : Bool), ((a13 : Option Addr), (n14 : Nat), (c15 : Nat)), (t16 : ByteArray), _) =>
  π.ret (Go.Value.agg #[(Go.Value.int (IntKind.i64) (x5)), (Go.Value.int (IntKind.i64) (x6)), (Go.Value.int (IntKind.i64) (x7)), (Go.Value.int (IntKind.i64) (x8)), (Go.Value.int (IntKind.i64) (x9)), (Go.Value.int (IntKind.i64) (x10)), (Go.Value.int (IntKind.i64) (x11)), (Go.Value.bool (b12)), (Go.Value.slice (a13) (n14) (c15)), (Go.Value.string (t16))])

def ann_msg : Ann := { draws := [(1, { A := [0, 1, 2, 3, 4, 5, 6, 7, 8, 9, 10, 11] })], join := [], loop := [] }
set_option maxRecDepth 100000 in
theorem eq_msg {W : Type} (π : Prims W) (b : Nat) (kind to : Int) : bodyW π Try.prog ann_msg (mkFr (maskA [] [.v (.pointer (some ⟨b, 0, none⟩)), .v (.int .i64 kind), .v (.int .i64 to)] 0) 19) Try.f45 (bodyOf Try.f45) (mkFr (List.map some [.v (.pointer (some ⟨b, 0, none⟩)), .v (.int .i64 kind), .v (.int .i64 to)]) 19) = vc_msg π b kind to := by kernel_rfl
theorem ok_msg (b : Nat) (kind to : Int) (R : Value → PH → Prop) (s : PH) (h : vc_msg (RP Try.prog R) b kind to s) : DCalls Try.prog 45 (List.map AV.val [.v (.pointer (some ⟨b, 0, none⟩)), .v (.int .i64 kind), .v (.int .i64 to)]).toArray s R :=
  calls_vc (c := bodyOf Try.f45) (ann := ann_msg) (by kernel_rfl) Try.func45 rfl (by kernel_rfl) [.v (.pointer (some ⟨b, 0, none⟩)), .v (.int .i64 kind), .v (.int .i64 to)] [] (by rw [Try.ntmps45]; exact Nat.le_of_ble_eq_true rfl) (by rw [show Try.f45.ntmps = 19 from Try.ntmps45, eq_msg]; exact h)

/-- (*lintel/ballot.Ballot).ask -/
def vc_ask {W : Type} (π : Prims W) (b : Nat) (to : Int) : W :=
  π.nw (Go.Obj.cells #[(Go.Value.int (IntKind.i64) ((0 : Int))), (Go.Value.int (IntKind.i64) ((0 : Int))), (Go.Value.int (IntKind.i64) ((0 : Int))), (Go.Value.int (IntKind.i64) ((0 : Int))), (Go.Value.int (IntKind.i64) ((0 : Int))), (Go.Value.int (IntKind.i64) ((0 : Int))), (Go.Value.int (IntKind.i64) ((0 : Int))), (Go.Value.bool (false)), (Go.Value.slice (none) ((0 : Nat)) ((0 : Nat))), (Go.Value.string (ByteArray.mk #[]))] (32 : Nat) ((0 : Nat), (0 : Nat))) fun r0 =>
  π.call (45 : Nat) #[(Go.Value.pointer (some (Addr.mk b (0 : Nat) none))), (Go.Value.int (IntKind.i64) ((1 : Int))), (Go.Value.int (IntKind.i64) (to))] (false, [(true, [.int .i64, .int .i64, .int .i64, .int .i64, .int .i64, .int .i64, .int .i64, .bool, .slice, .str])]) fun (((x1 : Int), (x2 : Int), (x3 : Int), (x4 : Int), (x5 : Int), (x6 : Int), (x7 : Int), (b8 : Bool), ((a9 : Option Addr), (n10 : Nat), (c11 : Nat)), (t12 : ByteArray), _), _) =>
  π.nw (Go.Obj.cells #[(Go.Value.int (IntKind.i64) ((0 : Int))), (Go.Value.int (IntKind.i64) ((0 : Int))), (Go.Value.int (IntKind.i64) ((0 : Int))), (Go.Value.int (IntKind.i64) ((0 : Int))), (Go.Value.int (IntKind.i64) ((0 : Int))), (Go.Value.int (IntKind.i64) ((0 : Int))), (Go.Value.int (IntKind.i64) ((0 : Int))), (Go.Value.bool (false)), (Go.Value.slice (none) ((0 : Nat)) ((0 : Nat))), (Go.Value.string (ByteArray.mk #[]))] (32 : Nat) ((0 : Nat), (0 : Nat))) fun r13 =>
  π.st (Addr.mk r13 (0 : Nat) none) [(Go.Value.int (IntKind.i64) (x1)), (Go.Value.int (IntKind.i64) (x2)), (Go.Value.int (IntKind.i64) (x3)), (Go.Value.int (IntKind.i64) (x4)), (Go.Value.int (IntKind.i64) (x5)), (Go.Value.int (IntKind.i64) (x6)), (Go.Value.int (IntKind.i64) (x7)), (Go.Value.bool (b8)), (Go.Value.slice (a9) (n10) (c11)), (Go.Value.string (t12))] <|
  π.call (26 : Nat) #[(Go.Value.pointer (some (Addr.mk b (0 : Nat) none)))] (false, [(false, [.int .i64])]) fun (((x14 : Int), _), _) =>
  π.st ((Addr.mk r13 (0 : Nat) none).add (4 : Nat)) [(Go.Value.int (IntKind.i64) (x14))] <|
  π.ld [.int .i64] ((Addr.mk r13 (0 : Nat) none).add (4 : Nat)) fun ((x15 : Int), _) =>
  π.call (55 : Nat) #[(Go.Value.pointer (some (Addr.mk b (0 : Nat) none))), (Go.Value.int (IntKind.i64) (x15))] (true, [(false, [.int .i64]), (false, [.bool])]) fun (((x16 : Int), _), ((b17 : Bool), _), _) =>
  π.st ((Addr.mk r13 (0 : Nat) none).add (5 : Nat)) [(Go.Value.int (IntKind.i64) (x16))] <|
  π.ld [.int .i64, .int .i64, .int .i64, .int .i64, .int .i64, .int .i64, .int .i64, .bool, .slice, .str] (Addr.mk r13 (0 : Nat) none) fun ((x18 : Int), (x19 : Int), (x20 : Int), (x21 : Int), (x22 : Int), (x23 : Int), (x24 : Int), (b25 : Bool), ((a26 : Option Addr), (n27 : Nat), (c28 : Nat)), (t29 : ByteArray), _) =>
  π.st (Addr.mk r0 (0 : Nat) none) [(Go.Value.int (IntKind.i64) (x18)), (Go.Value.int (IntKind.i64) (x19)), (Go.Value.int (IntKind.i64) (x20)), (Go.Value.int (IntKind.i64) (x21)), (Go.Value.int (IntKind.i64) (x22)), (Go.Value.int (IntKind.i64) (x23)), (Go.Value.int (IntKind.i64) (x24)), (Go.Value.bool (b25)), (Go.Value.slice (a26) (n27) (c28)), (Go.Value.string (t29))] <|
  π.ld [.int .i64, .int .i64, .int .i64, .int .i64, .int .i64, .int .i64, .int .i64, .bool, .slice, .str] (Addr.mk r0 (0 : Nat) none) fun ((x30 : Int), (x31 : Int), (x32 : Int), (x33 : Int), (x34 : Int), (x35 : Int), (x36 : Int), (b37 : Bool), ((a38 : Option Addr), (n39 : Nat), (c40 : Nat)), (t41 : ByteArray), _) =>
  π.ret (Go.Value.agg #[(Go.Value.int (IntKind.i64) (x30)), (Go.Value.int (IntKind.i64) (x31)), (Go.Value.int (IntKind.i64) (x32)), (Go.Value.int (IntKind.i64) (x33)), (Go.Value.int (IntKind.i64) (x34)), (Go.Value.int (IntKind.i64) (x35)), (Go.Value.int (IntKind.i64) (x36)), (Go.Value.bool (b37)), (Go.Value.slice (a38) (n39) (c40)), (Go.Value.string (t41))])

def ann_ask : Ann := { draws := [], join := [], loop := [] }
set_option maxRecDepth 100000 in
theorem eq_ask {W : Type} (π : Prims W) (b : Nat) (to : Int) : bodyW π Try.prog ann_ask (mkFr (maskA [] [.v (.pointer (some ⟨b, 0, none⟩)), .v (.int .i64 to)] 0) 21) Try.f42 (bodyOf Try.f42) (mkFr (List.map some [.v (.pointer (some ⟨b, 0, none⟩)), .v (.int .i64 to)]) 21) = vc_ask π b to := by kernel_rfl
theorem ok_ask (b : Nat) (to : Int) (R : Value → PH → Prop) (s : PH) (h : vc_ask (RP Try.prog R) b to s) : DCalls Try.prog 42 (List.map AV.val [.v (.pointer (some ⟨b, 0, none⟩)), .v (.int .i64 to)]).toArray s R :=
  calls_vc (c := bodyOf Try.f42) (ann := ann_ask) (by kernel_rfl) Try.func42 rfl (by kernel_rfl) [.v (.pointer (some ⟨b, 0, none⟩)), .v (.int .i64 to)] [] (by rw [Try.ntmps42]; exact Nat.le_of_ble_eq_true rfl) (by rw [show Try.f42.ntmps = 21 from Try.ntmps42, eq_ask]; exact h)

/-- (*lintel/ballot.Ballot).feed -/
def vc_feed {W : Type} (π : Prims W) (b : Nat) (to : Int) : W :=
  π.nw (Go.Obj.cells #[(Go.Value.int (IntKind.i64) ((0 : Int))), (Go.Value.int (IntKind.i64) ((0 : Int))), (Go.Value.int (IntKind.i64) ((0 : Int))), (Go.Value.int (IntKind.i64) ((0 : Int))), (Go.Value.int (IntKind.i64) ((0 : Int))), (Go.Value.int (IntKind.i64) ((0 : Int))), (Go.Value.int (IntKind.i64) ((0 : Int))), (Go.Value.bool (false)), (Go.Value.slice (none) ((0 : Nat)) ((0 : Nat))), (Go.Value.string (ByteArray.mk #[]))] (32 : Nat) ((0 : Nat), (0 : Nat))) fun r0 =>
  π.unSome (some (Addr.mk b (0 : Nat) none)) fun p1 =>
  π.ld [.slice] (p1.add (13 : Nat)) fun (((a2 : Option Addr), (n3 : Nat), (c4 : Nat)), _) =>
  π.guard ((0 : Int) ≤ to ∧ to < (↑n3 : Int)) <|
  π.unSome (a2) fun p5 =>
  π.ld [.int .i64] (p5.add (to.toNat * (1 : Nat))) fun ((x6 : Int), _) =>
  π.unSome (some (Addr.mk b (0 : Nat) none)) fun p7 =>
  π.ld [.int .i64] ((p7.add (2 : Nat)).add (4 : Nat)) fun ((x8 : Int), _) =>
  π.ite (decide (x6 ≤ x8)) (
    π.call (45 : Nat) #[(Go.Value.pointer (some (Addr.mk b (0 : Nat) none))), (Go.Value.int (IntKind.i64) ((5 : Int))), (Go.Value.int (IntKind.i64) (to))] (false, [(true, [.int .i64, .int .i64, .int .i64, .int .i64, .int .i64, .int .i64, .int .i64, .bool, .slice, .str])]) fun (((x9 : Int), (x10 : Int), (x11 : Int), (x12 : Int), (x13 : Int), (x14 : Int), (x15 : Int), (b16 : Bool), ((a17 : Option Addr), (n18 : Nat), (c19 : Nat)), (t20 : ByteArray), _), _) =>
    π.nw (Go.Obj.cells #[(Go.Value.int (IntKind.i64) ((0 : Int))), (Go.Value.int (IntKind.i64) ((0 : Int))), (Go.Value.int (IntKind.i64) ((0 : Int))), (Go.Value.int (IntKind.i64) ((0 : Int))), (Go.Value.int (IntKind.i64) ((0 : Int))), (Go.Value.int (IntKind.i64) ((0 : Int))), (Go.Value.int (IntKind.i64) ((0 : Int))), (Go.Value.bool (false)), (Go.Value.slice (none) ((0 : Nat)) ((0 : Nat))), (Go.Value.string (ByteArray.mk #[]))] (32 : Nat) ((0 : Nat), (0 : Nat))) fun r21 =>
    π.st (Addr.mk r21 (0 : Nat) none) [(Go.Value.int (IntKind.i64) (x9)), (Go.Value.int (IntKind.i64) (x10)), (Go.Value.int (IntKind.i64) (x11)), (Go.Value.int (IntKind.i64) (x12)), (Go.Value.int (IntKind.i64) (x13)), (Go.Value.int (IntKind.i64) (x14)), (Go.Value.int (IntKind.i64) (x15)), (Go.Value.bool (b16)), (Go.Value.slice (a17) (n18) (c19)), (Go.Value.string (t20))] <|
    π.unSome (some (Addr.mk b (0 : Nat) none)) fun p22 =>
    π.ld [.int .i64] ((p22.add (2 : Nat)).add (4 : Nat)) fun ((x23 : Int), _) =>
    π.unSome (some (Addr.mk b (0 : Nat) none)) fun p24 =>
    π.ld [.int .i64] (p24.add (9 : Nat)) fun ((x25 : Int), _) =>
    π.unSome (some (Addr.mk b (0 : Nat) none)) fun p26 =>
    π.ld [.str] (p26.add (10 : Nat)) fun ((t27 : ByteArray), _) =>
    π.st ((Addr.mk r21 (0 : Nat) none).add (4 : Nat)) [(Go.Value.int (IntKind.i64) (x23))] <|
    π.still [.int .i64] (p24.add (9 : Nat)) (x25, ()) <|
    π.still [.str] (p26.add (10 : Nat)) (t27, ()) <|
    π.st ((Addr.mk r21 (0 : Nat) none).add (5 : Nat)) [(Go.Value.int (IntKind.i64) (x25))] <|
    π.still [.str] (p26.add (10 : Nat)) (t27, ()) <|
    π.st ((Addr.mk r21 (0 : Nat) none).add (9 : Nat)) [(Go.Value.string (t27))] <|
    π.ld [.int .i64, .int .i64, .int .i64, .int .i64, .int .i64, .int .i64, .int .i64, .bool, .slice, .str] (Addr.mk r21 (0 : Nat) none) fun ((x28 : Int), (x29 : Int), (x30 : Int), (x31 : Int), (x32 : Int), (x33 : Int), (x34 : Int), (b35 : Bool), ((a36 : Option Addr), (n37 : Nat), (c38 : Nat)), (t39 : ByteArray), _) =>
    π.st (Addr.mk r0 (0 : Nat) none) [(Go.Value.int (IntKind.i64) (x28)), (Go.Value.int (IntKind.i64) (x29)), (Go.Value.int (IntKind.i64) (x30)), (Go.Value.int (IntKind.i64) (x31)), (Go.Value.int (IntKind.i64) (x32)), (Go.Value.int (IntKind.i64) (x33)), (Go.Value.int (IntKind.i64) (x34)), (Go.Value.bool (b35)), (Go.Value.slice (a36) (n37) (c38)), (Go.Value.string (t39))] <|
    π.ld [.int .i64, .int .i64, .int .i64, .int .i64, .int .i64, .int .i64, .int .i64, .bool, .slice, .str] (Addr.mk r0 (0 : Nat) none) fun ((x40 : Int), (x41 : Int), (x42 : Int), (x43 : Int), (x44 : Int), (x45 : Int), (x46 : Int), (b47 : Bool), ((a48 : Option Addr), (n49 : Nat), (c50 : Nat)), (t51 : ByteArray), _) =>
    π.ret (Go.Value.agg #[(Go.Value.int (IntKind.i64) (x40)), (Go.Value.int (IntKind.i64) (x41)), (Go.Value.int (IntKind.i64) (x42)), (Go.Value.int (IntKind.i64) (x43)), (Go.Value.int (IntKind.i64) (x44)), (Go.Value.int (IntKind.i64) (x45)), (Go.Value.int (IntKind.i64) (x46)), (Go.Value.bool (b47)), (Go.Value.slice (a48) (n49) (c50)), (Go.Value.string (t51))])
  ) (
    π.call (45 : Nat) #[(Go.Value.pointer (some (Addr.mk b (0 : Nat) none))), (Go.Value.int (IntKind.i64) ((3 : Int))), (Go.Value.int (IntKind.i64) (to))] (false, [(true, [.int .i64, .int .i64, .int .i64, .int .i64, .int .i64, .int .i64, .int .i64, .bool, .slice, .str])]) fun (((x52 : Int), (x53 : Int), (x54 : Int), (x55 : Int), (x56 : Int), (x57 : Int), (x58 : Int), (b59 : Bool), ((a60 : Option Addr), (n61 : Nat), (c62 : Nat)), (t63 : ByteArray), _), _) =>
    π.nw (Go.Obj.cells #[(Go.Value.int (IntKind.i64) ((0 : Int))), (Go.Value.int (IntKind.i64) ((0 : Int))), (Go.Value.int (IntKind.i64) ((0 : Int))), (Go.Value.int (IntKind.i64) ((0 : Int))), (Go.Value.int (IntKind.i64) ((0 : Int))), (Go.Value.int (IntKind.i64) ((0 : Int))), (Go.Value.int (IntKind.i64) ((0 : Int))), (Go.Value.bool (false)), (Go.Value.slice (none) ((0 : Nat)) ((0 : Nat))), (Go.Value.string (ByteArray.mk #[]))] (32 : Nat) ((0 : Nat), (0 : Nat))) fun r64 =>
    π.st (Addr.mk r64 (0 : Nat) none) [(Go.Value.int (IntKind.i64) (x52)), (Go.Value.int (IntKind.i64) (x53)), (Go.Value.int (IntKind.i64) (x54)), (Go.Value.int (IntKind.i64) (x55)), (Go.Value.int (IntKind.i64) (x56)), (Go.Value.int (IntKind.i64) (x57)), (Go.Value.int (IntKind.i64) (x58)), (Go.Value.bool (b59)), (Go.Value.slice (a60) (n61) (c62)), (Go.Value.string (t63))] <|
    π.unSome (some (Addr.mk b (0 : Nat) none)) fun p65 =>
    π.ld [.int .i64] ((p65.add (2 : Nat)).add (6 : Nat)) fun ((x66 : Int), _) =>
    π.st ((Addr.mk r64 (0 : Nat) none).add (4 : Nat)) [(Go.Value.int (IntKind.i64) (IntKind.i64.wrap (x6 - (1 : Int))))] <|
    π.still [.int .i64] ((p65.add (2 : Nat)).add (6 : Nat)) (x66, ()) <|
    π.st ((Addr.mk r64 (0 : Nat) none).add (6 : Nat)) [(Go.Value.int (IntKind.i64) (x66))] <|
    π.call (55 : Nat) #[(Go.Value.pointer (some (Addr.mk b (0 : Nat) none))), (Go.Value.int (IntKind.i64) (IntKind.i64.wrap (x6 - (1 : Int))))] (true, [(false, [.int .i64]), (false, [.bool])]) fun (((x67 : Int), _), ((b68 : Bool), _), _) =>
    π.st ((Addr.mk r64 (0 : Nat) none).add (5 : Nat)) [(Go.Value.int (IntKind.i64) (x67))] <|
    π.unSome (some (Addr.mk b (0 : Nat) none)) fun p69 =>
    π.ld [.slice] (p69.add (11 : Nat)) fun (((a70 : Option Addr), (n71 : Nat), (c72 : Nat)), _) =>
    π.unSome (some (Addr.mk b (0 : Nat) none)) fun p73 =>
    π.ld [.int .i64] ((p73.add (2 : Nat)).add (4 : Nat)) fun ((x74 : Int), _) =>
    π.guard ((0 : Int) ≤ IntKind.i64.wrap (IntKind.i64.wrap (x6 - x74) - (1 : Int)) ∧ IntKind.i64.wrap (IntKind.i64.wrap (x6 - x74) - (1 : Int)) ≤ (↑n71 : Int) ∧ (↑n71 : Int) ≤ (↑c72 : Int)) <|
    π.guard ((0 : Int) ≤ (0 : Int) ∧ ((0 : Int) ≤ if (8 : Int) < (↑((↑n71 : Int).toNat - (IntKind.i64.wrap (IntKind.i64.wrap (x6 - x74) - (1 : Int))).toNat) : Int) then (8 : Int) else (↑((↑n71 : Int).toNat - (IntKind.i64.wrap (IntKind.i64.wrap (x6 - x74) - (1 : Int))).toNat) : Int)) ∧ (if (8 : Int) < (↑((↑n71 : Int).toNat - (IntKind.i64.wrap (IntKind.i64.wrap (x6 - x74) - (1 : Int))).toNat) : Int) then (8 : Int) else (↑((↑n71 : Int).toNat - (IntKind.i64.wrap (IntKind.i64.wrap (x6 - x74) - (1 : Int))).toNat) : Int)) ≤ (↑(c72 - (IntKind.i64.wrap (IntKind.i64.wrap (x6 - x74) - (1 : Int))).toNat) : Int)) <|
    π.call (38 : Nat) #[(Go.Value.slice (if c72 - (IntKind.i64.wrap (IntKind.i64.wrap (x6 - x74) - (1 : Int))).toNat = (0 : Nat) then if c72 = (IntKind.i64.wrap (IntKind.i64.wrap (x6 - x74) - (1 : Int))).toNat then a70 else Option.map (fun x => x.add ((IntKind.i64.wrap (IntKind.i64.wrap (x6 - x74) - (1 : Int))).toNat * (4 : Nat))) a70 else Option.map (fun x => x.add (0 : Nat)) (if c72 = (IntKind.i64.wrap (IntKind.i64.wrap (x6 - x74) - (1 : Int))).toNat then a70 else Option.map (fun x => x.add ((IntKind.i64.wrap (IntKind.i64.wrap (x6 - x74) - (1 : Int))).toNat * (4 : Nat))) a70)) ((if (8 : Int) < (↑((↑n71 : Int).toNat - (IntKind.i64.wrap (IntKind.i64.wrap (x6 - x74) - (1 : Int))).toNat) : Int) then (8 : Int) else (↑((↑n71 : Int).toNat - (IntKind.i64.wrap (IntKind.i64.wrap (x6 - x74) - (1 : Int))).toNat) : Int)).toNat - (0 : Nat)) (c72 - (IntKind.i64.wrap (IntKind.i64.wrap (x6 - x74) - (1 : Int))).toNat - (0 : Nat)))] (false, [(false, [.slice])]) fun ((((a75 : Option Addr), (n76 : Nat), (c77 : Nat)), _), _) =>
    π.st ((Addr.mk r64 (0 : Nat) none).add (8 : Nat)) [(Go.Value.slice (a75) (n76) (c77))] <|
    π.ld [.int .i64, .int .i64, .int .i64, .int .i64, .int .i64, .int .i64, .int .i64, .bool, .slice, .str] (Addr.mk r64 (0 : Nat) none) fun ((x78 : Int), (x79 : Int), (x80 : Int), (x81 : Int), (x82 : Int), (x83 : Int), (x84 : Int), (b85 : Bool), ((a86 : Option Addr), (n87 : Nat), (c88 : Nat)), (t89 : ByteArray), _) =>
    π.st (Addr.mk r0 (0 : Nat) none) [(Go.Value.int (IntKind.i64) (x78)), (Go.Value.int (IntKind.i64) (x79)), (Go.Value.int (IntKind.i64) (x80)), (Go.Value.int (IntKind.i64) (x81)), (Go.Value.int (IntKind.i64) (x82)), (Go.Value.int (IntKind.i64) (x83)), (Go.Value.int (IntKind.i64) (x84)), (Go.Value.bool (b85)), (Go.Value.slice (a86) (n87) (c88)), (Go.Value.string (t89))] <|
    π.ld [.int .i64, .int .i64, .int .i64, .int .i64, .int .i64, .int .i64, .int .i64, .bool, .slice, .str] (Addr.mk r0 (0 : Nat) none) fun ((x90 : Int), (x91 : Int), (x92 : Int), (x93 : Int), (x94 : Int), (x95 : Int), (x96 : Int), (b97 : Bool), ((a98 : Option Addr), (n99 : Nat), (c100 : Nat)), (t101 : ByteArray), _) =>
    π.ret (Go.Value.agg #[(Go.Value.int (IntKind.i64) (x90)), (Go.Value.int (IntKind.i64) (x91)), (Go.Value.int (IntKind.i64) (x92)), (Go.Value.int (IntKind.i64) (x93)), (Go.Value.int (IntKind.i64) (x94)), (Go.Value.int (IntKind.i64) (x95)), (Go.Value.int (IntKind.i64) (x96)), (Go.Value.bool (b97)), (Go.Value.slice (a98) (n99) (c100)), (Go.Value.string (t101))])
  )

def ann_feed : Ann := { draws := [(4, { A := [0, 1, 2, 3, 4, 5, 6, 7, 8, 9, 10, 11, 12, 13], chkL := [(14, [8, 12]), (16, [12])], eag := [15, 17] }), (7, { A := [0, 1, 2, 3, 4, 5, 6, 7], chkL := [(8, [6])], eag := [9] }), (9, { A := [0, 1, 2, 3, 4, 5, 6, 7, 8, 9, 10, 11, 12, 13] })], join := [], loop := [] }
set_option maxRecDepth 100000 in
theorem eq_feed {W : Type} (π : Prims W) (b : Nat) (to : Int) : bodyW π Try.prog ann_feed (mkFr (maskA [] [.v (.pointer (some ⟨b, 0, none⟩)), .v (.int .i64 to)] 0) 84) Try.f52 (bodyOf Try.f52) (mkFr (List.map some [.v (.pointer (some ⟨b, 0, none⟩)), .v (.int .i64 to)]) 84) = vc_feed π b to := by kernel_rfl
theorem ok_feed (b : Nat) (to : Int) (R : Value → PH → Prop) (s : PH) (h : vc_feed (RP Try.prog R) b to s) : DCalls Try.prog 52 (List.map AV.val [.v (.pointer (some ⟨b, 0, none⟩)), .v (.int .i64 to)]).toArray s R :=
  calls_vc (c := bodyOf Try.f52) (ann := ann_feed) (by kernel_rfl) Try.func52 rfl (by kernel_rfl) [.v (.pointer (some ⟨b, 0, none⟩)), .v (.int .i64 to)] [] (by rw [Try.ntmps52]; exact Nat.le_of_ble_eq_true rfl) (by rw [show Try.f52.ntmps = 84 from Try.ntmps52, eq_feed]; exact h)

/-- (*lintel/ballot.Ballot).others -/
def vc_othersAsk {W : Type} (π : Prims W) (b : Nat) : W :=
  π.unSome (some (Addr.mk b (0 : Nat) none)) fun p0 =>
  π.ld [.int .i64] (p0.add (1 : Nat)) fun ((x1 : Int), _) =>
  π.loop [(false, [.slice]), (false, [.int .i64]), (false, [.int .i64])] (((none, (0 : Nat), (0 : Nat)), ()), (x1, ()), ((0 : Int), ()), ()) fun ((((a3 : Option Addr), (n4 : Nat), (c5 : Nat)), _), ((x6 : Int), _), ((x7 : Int), _), _) again2 =>
    π.ite (decide (x7 < x6)) (
      π.unSome (some (Addr.mk b (0 : Nat) none)) fun p8 =>
      π.ld [.int .i64] (p8.add (0 : Nat)) fun ((x9 : Int), _) =>
      π.ite (x7 != x9) (
        π.call (42 : Nat) #[(Go.Value.pointer (some (Addr.mk b (0 : Nat) none))), (Go.Value.int (IntKind.i64) (x7))] (false, [(true, [.int .i64, .int .i64, .int .i64, .int .i64, .int .i64, .int .i64, .int .i64, .bool, .slice, .str])]) fun (((x10 : Int), (x11 : Int), (x12 : Int), (x13 : Int), (x14 : Int), (x15 : Int), (x16 : Int), (b17 : Bool), ((a18 : Option Addr), (n19 : Nat), (c20 : Nat)), (t21 : ByteArray), _), _) =>
        π.nw (Go.Obj.cells #[(Go.Value.int (IntKind.i64) (x10)), (Go.Value.int (IntKind.i64) (x11)), (Go.Value.int (IntKind.i64) (x12)), (Go.Value.int (IntKind.i64) (x13)), (Go.Value.int (IntKind.i64) (x14)), (Go.Value.int (IntKind.i64) (x15)), (Go.Value.int (IntKind.i64) (x16)), (Go.Value.bool (b17)), (Go.Value.slice (a18) (n19) (c20)), (Go.Value.string (t21))] (32 : Nat) ((0 : Nat), (0 : Nat))) fun r22 =>
        π.app (32 : Nat) (10 : Nat) (104 : Nat) [(Go.Value.int (IntKind.i64) ((0 : Int))), (Go.Value.int (IntKind.i64) ((0 : Int))), (Go.Value.int (IntKind.i64) ((0 : Int))), (Go.Value.int (IntKind.i64) ((0 : Int))), (Go.Value.int (IntKind.i64) ((0 : Int))), (Go.Value.int (IntKind.i64) ((0 : Int))), (Go.Value.int (IntKind.i64) ((0 : Int))), (Go.Value.bool (false)), (Go.Value.slice (none) ((0 : Nat)) ((0 : Nat))), (Go.Value.string (ByteArray.mk #[]))] (a3) (n4) (c5) (Src.sl (some (Addr.mk r22 (0 : Nat) none)) (1 : Nat)) fun a23 n24 c25 =>
        again2 (((a23, n24, c25), ()), (x6, ()), (IntKind.i64.wrap (x7 + (1 : Int)), ()), ())
      ) (
        again2 (((a3, n4, c5), ()), (x6, ()), (IntKind.i64.wrap (x7 + (1 : Int)), ()), ())
      )
    ) (
      π.ret (Go.Value.slice (a3) (n4) (c5))
    )

def ann_othersAsk : Ann := { draws := [], join := [], loop := [(3, [(5, 42), (10, 3), (11, 3)])] }
set_option maxRecDepth 100000 in
theorem eq_othersAsk {W : Type} (π : Prims W) (b : Nat) : bodyW π Try.prog ann_othersAsk (mkFr (maskA [] [.v (.pointer (some ⟨b, 0, none⟩)), .v (.func (.func 42) #[.pointer (some ⟨b, 0, none⟩)] #[])] 0) 28) Try.f41 (bodyOf Try.f41) (mkFr (List.map some [.v (.pointer (some ⟨b, 0, none⟩)), .v (.func (.func 42) #[.pointer (some ⟨b, 0, none⟩)] #[])]) 28) = vc_othersAsk π b := by kernel_rfl
theorem ok_othersAsk (b : Nat) (R : Value → PH → Prop) (s : PH) (h : vc_othersAsk (RP Try.prog R) b s) : DCalls Try.prog 41 (List.map AV.val [.v (.pointer (some ⟨b, 0, none⟩)), .v (.func (.func 42) #[.pointer (some ⟨b, 0, none⟩)] #[])]).toArray s R :=
  calls_vc (c := bodyOf Try.f41) (ann := ann_othersAsk) (by kernel_rfl) Try.func41 rfl (by kernel_rfl) [.v (.pointer (some ⟨b, 0, none⟩)), .v (.func (.func 42) #[.pointer (some ⟨b, 0, none⟩)] #[])] [] (by rw [Try.ntmps41]; exact Nat.le_of_ble_eq_true rfl) (by rw [show Try.f41.ntmps = 28 from Try.ntmps41, eq_othersAsk]; exact h)

/-- (*lintel/ballot.Ballot).others -/
def vc_othersFeed {W : Type} (π : Prims W) (b : Nat) : W :=
  π.unSome (some (Addr.mk b (0 : Nat) none)) fun p0 =>
  π.ld [.int .i64] (p0.add (1 : Nat)) fun ((x1 : Int), _) =>
  π.loop [(false, [.slice]), (false, [.int .i64]), (false, [.int .i64])] (((none, (0 : Nat), (0 : Nat)), ()), (x1, ()), ((0 : Int), ()), ()) fun ((((a3 : Option Addr), (n4 : Nat), (c5 : Nat)), _), ((x6 : Int), _), ((x7 : Int), _), _) again2 =>
    π.ite (decide (x7 < x6)) (
      π.unSome (some (Addr.mk b (0 : Nat) none)) fun p8 =>
      π.ld [.int .i64] (p8.add (0 : Nat)) fun ((x9 : Int), _) =>
      π.ite (x7 != x9) (
        π.call (52 : Nat) #[(Go.Value.pointer (some (Addr.mk b (0 : Nat) none))), (Go.Value.int (IntKind.i64) (x7))] (false, [(true, [.int .i64, .int .i64, .int .i64, .int .i64, .int .i64, .int .i64, .int .i64, .bool, .slice, .str])]) fun (((x10 : Int), (x11 : Int), (x12 : Int), (x13 : Int), (x14 : Int), (x15 : Int), (x16 : Int), (b17 : Bool), ((a18 : Option Addr), (n19 : Nat), (c20 : Nat)), (t21 : ByteArray), _), _) =>
        π.nw (Go.Obj.cells #[(Go.Value.int (IntKind.i64) (x10)), (Go.Value.int (IntKind.i64) (x11)), (Go.Value.int (IntKind.i64) (x12)), (Go.Value.int (IntKind.i64) (x13)), (Go.Value.int (IntKind.i64) (x14)), (Go.Value.int (IntKind.i64) (x15)), (Go.Value.int (IntKind.i64) (x16)), (Go.Value.bool (b17)), (Go.Value.slice (a18) (n19) (c20)), (Go.Value.string (t21))] (32 : Nat) ((0 : Nat), (0 : Nat))) fun r22 =>
        π.app (32 : Nat) (10 : Nat) (104 : Nat) [(Go.Value.int (IntKind.i64) ((0 : Int))), (Go.Value.int (IntKind.i64) ((0 : Int))), (Go.Value.int (IntKind.i64) ((0 : Int))), (Go.Value.int (IntKind.i64) ((0 : Int))), (Go.Value.int (IntKind.i64) ((0 : Int))), (Go.Value.int (IntKind.i64) ((0 : Int))), (Go.Value.int (IntKind.i64) ((0 : Int))), (Go.Value.bool (false)), (Go.Value.slice (none) ((0 : Nat)) ((0 : Nat))), (Go.Value.string (ByteArray.mk #[]))] (a3) (n4) (c5) (Src.sl (some (Addr.mk r22 (0 : Nat) none)) (1 : Nat)) fun a23 n24 c25 =>
        again2 (((a23, n24, c25), ()), (x6, ()), (IntKind.i64.wrap (x7 + (1 : Int)), ()), ())
      ) (
        again2 (((a3, n4, c5), ()), (x6, ()), (IntKind.i64.wrap (x7 + (1 : Int)), ()), ())
      )
    ) (
      π.ret (Go.Value.slice (a3) (n4) (c5))
    )

def ann_othersFeed : Ann := { draws := [], join := [], loop := [(3, [(5, 42), (10, 3), (11, 3)])] }
set_option maxRecDepth 100000 in
theorem eq_othersFeed {W : Type} (π : Prims W) (b : Nat) : bodyW π Try.prog ann_othersFeed (mkFr (maskA [] [.v (.pointer (some ⟨b, 0, none⟩)), .v (.func (.func 52) #[.pointer (some ⟨b, 0, none⟩)] #[])] 0) 28) Try.f41 (bodyOf Try.f41) (mkFr (List.map some [.v (.pointer (some ⟨b, 0, none⟩)), .v (.func (.func 52) #[.pointer (some ⟨b, 0, none⟩)] #[])]) 28) = vc_othersFeed π b := by kernel_rfl
theorem ok_othersFeed (b : Nat) (R : Value → PH → Prop) (s : PH) (h : vc_othersFeed (RP Try.prog R) b s) : DCalls Try.prog 41 (List.map AV.val [.v (.pointer (some ⟨b, 0, none⟩)), .v (.func (.func 52) #[.pointer (some ⟨b, 0, none⟩)] #[])]).toArray s R :=
  calls_vc (c := bodyOf Try.f41) (ann := ann_othersFeed) (by kernel_rfl) Try.func41 rfl (by kernel_rfl) [.v (.pointer (some ⟨b, 0, none⟩)), .v (.func (.func 52) #[.pointer (some ⟨b, 0, none⟩)] #[])] [] (by rw [Try.ntmps41]; exact Nat.le_of_ble_eq_true rfl) (by rw [show Try.f41.ntmps = 28 from Try.ntmps41, eq_othersFeed]; exact h)

/-- (*lintel/ballot.Ballot).settle -/
def vc_settle {W : Type} (π : Prims W) (b : Nat) : W :=
  π.call (26 : Nat) #[(Go.Value.pointer (some (Addr.mk b (0 : Nat) none)))] (false, [(false, [.int .i64])]) fun (((x0 : Int), _), _) =>
  π.loop [(false, [.int .i64])] ((x0, ()), ()) fun (((x2 : Int), _), _) again1 =>
    π.unSome (some (Addr.mk b (0 : Nat) none)) fun p3 =>
    π.ld [.int .i64] ((p3.add (2 : Nat)).add (6 : Nat)) fun ((x4 : Int), _) =>
    π.ite (decide (x2 > x4)) (
      π.unSome (some (Addr.mk b (0 : Nat) none)) fun p5 =>
      π.ld [.slice] (p5.add (14 : Nat)) fun (((a6 : Option Addr), (n7 : Nat), (c8 : Nat)), _) =>
      π.loop [(false, [.int .i64]), (false, [.int .i64]), (false, [.slice]), (false, [.int .i64]), (false, [.int .i64])] ((x2, ()), ((1 : Int), ()), ((a6, n7, c8), ()), ((↑n7 : Int), ()), ((0 : Int), ()), ()) fun (((x10 : Int), _), ((x11 : Int), _), (((a12 : Option Addr), (n13 : Nat), (c14 : Nat)), _), ((x15 : Int), _), ((x16 : Int), _), _) again9 =>
        π.ite (decide (x16 < x15)) (
          π.guard ((0 : Int) ≤ x16 ∧ x16 < (↑n13 : Int)) <|
          π.unSome (a12) fun p17 =>
          π.ld [.int .i64] (p17.add (x16.toNat * (1 : Nat))) fun ((x18 : Int), _) =>
          π.unSome (some (Addr.mk b (0 : Nat) none)) fun p19 =>
          π.ld [.int .i64] (p19.add (0 : Nat)) fun ((x20 : Int), _) =>
          π.ite (x16 != x20) (
            π.ite (decide (x18 ≥ x10)) (
              again9 ((x10, ()), (IntKind.i64.wrap (x11 + (1 : Int)), ()), ((a12, n13, c14), ()), (x15, ()), (IntKind.i64.wrap (x16 + (1 : Int)), ()), ())
            ) (
              again9 ((x10, ()), (x11, ()), ((a12, n13, c14), ()), (x15, ()), (IntKind.i64.wrap (x16 + (1 : Int)), ()), ())
            )
          ) (
            again9 ((x10, ()), (x11, ()), ((a12, n13, c14), ()), (x15, ()), (IntKind.i64.wrap (x16 + (1 : Int)), ()), ())
          )
        ) (
          π.call (55 : Nat) #[(Go.Value.pointer (some (Addr.mk b (0 : Nat) none))), (Go.Value.int (IntKind.i64) (x10))] (true, [(false, [.int .i64]), (false, [.bool])]) fun (((x21 : Int), _), ((b22 : Bool), _), _) =>
          π.unSome (some (Addr.mk b (0 : Nat) none)) fun p23 =>
          π.ld [.int .i64] ((p23.add (2 : Nat)).add (0 : Nat)) fun ((x24 : Int), _) =>
          π.ite (x21 == x24) (
            π.unSome (some (Addr.mk b (0 : Nat) none)) fun p25 =>
            π.ld [.int .i64] (p25.add (1 : Nat)) fun ((x26 : Int), _) =>
            π.ite (decide (IntKind.i64.wrap ((2 : Int) * x11) > x26)) (
              π.unSome (some (Addr.mk b (0 : Nat) none)) fun p27 =>
              π.st ((p27.add (2 : Nat)).add (6 : Nat)) [(Go.Value.int (IntKind.i64) (x10))] <|
              π.call (41 : Nat) #[(Go.Value.pointer (some (Addr.mk b (0 : Nat) none))), (Go.Value.func (Fn.func (52 : Nat)) #[(Go.Value.pointer (some (Addr.mk b (0 : Nat) none)))] #[])] (false, [(false, [.slice])]) fun ((((a28 : Option Addr), (n29 : Nat), (c30 : Nat)), _), _) =>
              π.ret (Go.Value.slice (a28) (n29) (c30))
            ) (
              again1 ((IntKind.i64.wrap (x10 - (1 : Int)), ()), ())
            )
          ) (
            again1 ((IntKind.i64.wrap (x10 - (1 : Int)), ()), ())
          )
        )
    ) (
      π.ret (Go.Value.slice (none) ((0 : Nat)) ((0 : Nat)))
    )

def ann_settle : Ann := { draws := [], join := [], loop := [(2, [(3, 3)]), (6, [(3, 3), (4, 3), (23, 65), (24, 3), (25, 3)])] }
set_option maxRecDepth 100000 in
theorem eq_settle {W : Type} (π : Prims W) (b : Nat) : bodyW π Try.prog ann_settle (mkFr (maskA [] [.v (.pointer (some ⟨b, 0, none⟩))] 0) 75) Try.f54 (bodyOf Try.f54) (mkFr (List.map some [.v (.pointer (some ⟨b, 0, none⟩))]) 75) = vc_settle π b := by kernel_rfl
theorem ok_settle (b : Nat) (R : Value → PH → Prop) (s : PH) (h : vc_settle (RP Try.prog R) b s) : DCalls Try.prog 54 (List.map AV.val [.v (.pointer (some ⟨b, 0, none⟩))]).toArray s R :=
  calls_vc (c := bodyOf Try.f54) (ann := ann_settle) (by kernel_rfl) Try.func54 rfl (by kernel_rfl) [.v (.pointer (some ⟨b, 0, none⟩))] [] (by rw [Try.ntmps54]; exact Nat.le_of_ble_eq_true rfl) (by rw [show Try.f54.ntmps = 75 from Try.ntmps54, eq_settle]; exact h)

/-- (*lintel/ballot.Ballot).counted -/
def vc_counted {W : Type} (π : Prims W) (b : Nat) : W :=
  π.unSome (some (Addr.mk b (0 : Nat) none)) fun p0 =>
  π.ld [.slice] (p0.add (12 : Nat)) fun (((a1 : Option Addr), (n2 : Nat), (c3 : Nat)), _) =>
  π.loop [(false, [.int .i64]), (false, [.slice]), (false, [.int .i64]), (false, [.int .i64])] (((0 : Int), ()), ((a1, n2, c3), ()), ((↑n2 : Int), ()), ((0 : Int), ()), ()) fun (((x5 : Int), _), (((a6 : Option Addr), (n7 : Nat), (c8 : Nat)), _), ((x9 : Int), _), ((x10 : Int), _), _) again4 =>
    π.ite (decide (x10 < x9)) (
      π.guard ((0 : Int) ≤ x10 ∧ x10 < (↑n7 : Int)) <|
      π.unSome (a6) fun p11 =>
      π.ld [.bool] (p11.add (x10.toNat * (1 : Nat))) fun ((b12 : Bool), _) =>
      π.ite (b12) (
        again4 ((IntKind.i64.wrap (x5 + (1 : Int)), ()), ((a6, n7, c8), ()), (x9, ()), (IntKind.i64.wrap (x10 + (1 : Int)), ()), ())
      ) (
        again4 ((x5, ()), ((a6, n7, c8), ()), (x9, ()), (IntKind.i64.wrap (x10 + (1 : Int)), ()), ())
      )
    ) (
      π.unSome (some (Addr.mk b (0 : Nat) none)) fun p13 =>
      π.ld [.int .i64] (p13.add (1 : Nat)) fun ((x14 : Int), _) =>
      π.ite (decide (IntKind.i64.wrap ((2 : Int) * x5) ≤ x14)) (
        π.ret (Go.Value.slice (none) ((0 : Nat)) ((0 : Nat)))
      ) (
        π.unSome (some (Addr.mk b (0 : Nat) none)) fun p15 =>
        π.ld [.int .i64] (p15.add (0 : Nat)) fun ((x16 : Int), _) =>
        π.unSome (some (Addr.mk b (0 : Nat) none)) fun p17 =>
        π.st ((p17.add (2 : Nat)).add (2 : Nat)) [(Go.Value.int (IntKind.i64) ((2 : Int)))] <|
        π.unSome (some (Addr.mk b (0 : Nat) none)) fun p18 =>
        π.st ((p18.add (2 : Nat)).add (3 : Nat)) [(Go.Value.int (IntKind.i64) (x16))] <|
        π.join [] (fun J19 =>
          π.callQ (26 : Nat) #[(Go.Value.pointer (some (Addr.mk b (0 : Nat) none)))] (false, [(false, [.int .i64])]) fun (((x20 : Int), _), _) =>
          π.unSome (some (Addr.mk b (0 : Nat) none)) fun p21 =>
          π.ld [.int .i64] (p21.add (1 : Nat)) fun ((x22 : Int), _) =>
          π.unSome (some (Addr.mk b (0 : Nat) none)) fun p23 =>
          π.ld [.int .i64] (p23.add (1 : Nat)) fun ((x24 : Int), _) =>
          π.both (
            π.nw (Go.Obj.cells #[(Go.Value.int (IntKind.i64) (IntKind.i64.wrap (x20 + (1 : Int))))] (3 : Nat) ((0 : Nat), (0 : Nat))) fun r25 =>
            π.both (
              π.call (70 : Nat) #[(Go.Value.slice (some (Addr.mk r25 (0 : Nat) none)) ((1 : Nat)) ((1 : Nat))), (Go.Value.int (IntKind.i64) (x22))] (false, [(false, [.slice])]) fun ((((a26 : Option Addr), (n27 : Nat), (c28 : Nat)), _), _) =>
              π.still [.int .i64] (p23.add (1 : Nat)) (x24, ()) <|
              π.unSome (some (Addr.mk b (0 : Nat) none)) fun p29 =>
              π.both (
                π.mksl (3 : Nat) (1 : Nat) (8 : Nat) [(Go.Value.int (IntKind.i64) ((0 : Int)))] (x24) (x24) fun r30 =>
                π.st (p29.add (13 : Nat)) [(Go.Value.slice (a26) (n27) (c28))] <|
                π.unSome (some (Addr.mk b (0 : Nat) none)) fun p31 =>
                π.st (p31.add (14 : Nat)) [(Go.Value.slice (some (Addr.mk r30 (0 : Nat) none)) (x24.toNat) (x24.toNat))] <|
                J19 (())
              ) (
                π.st (p29.add (13 : Nat)) [(Go.Value.slice (a26) (n27) (c28))] <|
                π.mksl (3 : Nat) (1 : Nat) (8 : Nat) [(Go.Value.int (IntKind.i64) ((0 : Int)))] (x24) (x24) fun r32 =>
                π.unSome (some (Addr.mk b (0 : Nat) none)) fun p33 =>
                π.st (p33.add (14 : Nat)) [(Go.Value.slice (some (Addr.mk r32 (0 : Nat) none)) (x24.toNat) (x24.toNat))] <|
                J19 (())
              )
            ) (
              π.mksl (3 : Nat) (1 : Nat) (8 : Nat) [(Go.Value.int (IntKind.i64) ((0 : Int)))] (x24) (x24) fun r34 =>
              π.call (70 : Nat) #[(Go.Value.slice (some (Addr.mk r25 (0 : Nat) none)) ((1 : Nat)) ((1 : Nat))), (Go.Value.int (IntKind.i64) (x22))] (false, [(false, [.slice])]) fun ((((a35 : Option Addr), (n36 : Nat), (c37 : Nat)), _), _) =>
              π.still [.int .i64] (p23.add (1 : Nat)) (x24, ()) <|
              π.unSome (some (Addr.mk b (0 : Nat) none)) fun p38 =>
              π.st (p38.add (13 : Nat)) [(Go.Value.slice (a35) (n36) (c37))] <|
              π.unSome (some (Addr.mk b (0 : Nat) none)) fun p39 =>
              π.st (p39.add (14 : Nat)) [(Go.Value.slice (some (Addr.mk r34 (0 : Nat) none)) (x24.toNat) (x24.toNat))] <|
              J19 (())
            )
          ) (
            π.mksl (3 : Nat) (1 : Nat) (8 : Nat) [(Go.Value.int (IntKind.i64) ((0 : Int)))] (x24) (x24) fun r40 =>
            π.nw (Go.Obj.cells #[(Go.Value.int (IntKind.i64) (IntKind.i64.wrap (x20 + (1 : Int))))] (3 : Nat) ((0 : Nat), (0 : Nat))) fun r41 =>
            π.call (70 : Nat) #[(Go.Value.slice (some (Addr.mk r41 (0 : Nat) none)) ((1 : Nat)) ((1 : Nat))), (Go.Value.int (IntKind.i64) (x22))] (false, [(false, [.slice])]) fun ((((a42 : Option Addr), (n43 : Nat), (c44 : Nat)), _), _) =>
            π.still [.int .i64] (p23.add (1 : Nat)) (x24, ()) <|
            π.unSome (some (Addr.mk b (0 : Nat) none)) fun p45 =>
            π.st (p45.add (13 : Nat)) [(Go.Value.slice (a42) (n43) (c44))] <|
            π.unSome (some (Addr.mk b (0 : Nat) none)) fun p46 =>
            π.st (p46.add (14 : Nat)) [(Go.Value.slice (some (Addr.mk r40 (0 : Nat) none)) (x24.toNat) (x24.toNat))] <|
            J19 (())
          )
        ) (fun (_) =>
          π.callQ (26 : Nat) #[(Go.Value.pointer (some (Addr.mk b (0 : Nat) none)))] (false, [(false, [.int .i64])]) fun (((x47 : Int), _), _) =>
          π.unSome (some (Addr.mk b (0 : Nat) none)) fun p48 =>
          π.ld [.int .i64] ((p48.add (2 : Nat)).add (0 : Nat)) fun ((x49 : Int), _) =>
          π.nw (Go.Obj.cells #[(Go.Value.int (IntKind.i64) (x49)), (Go.Value.int (IntKind.i64) ((0 : Int))), (Go.Value.int (IntKind.i64) ((0 : Int))), (Go.Value.string (ByteArray.mk #[]))] (39 : Nat) ((0 : Nat), (0 : Nat))) fun r50 =>
          π.call (53 : Nat) #[(Go.Value.pointer (some (Addr.mk b (0 : Nat) none))), (Go.Value.int (IntKind.i64) (IntKind.i64.wrap (x47 + (1 : Int)))), (Go.Value.slice (some (Addr.mk r50 (0 : Nat) none)) ((1 : Nat)) ((1 : Nat)))] (true, []) fun (_) =>
          π.call (41 : Nat) #[(Go.Value.pointer (some (Addr.mk b (0 : Nat) none))), (Go.Value.func (Fn.func (52 : Nat)) #[(Go.Value.pointer (some (Addr.mk b (0 : Nat) none)))] #[])] (false, [(false, [.slice])]) fun ((((a51 : Option Addr), (n52 : Nat), (c53 : Nat)), _), _) =>
          π.call (54 : Nat) #[(Go.Value.pointer (some (Addr.mk b (0 : Nat) none)))] (false, [(false, [.slice])]) fun ((((a54 : Option Addr), (n55 : Nat), (c56 : Nat)), _), _) =>
          π.app (32 : Nat) (10 : Nat) (104 : Nat) [(Go.Value.int (IntKind.i64) ((0 : Int))), (Go.Value.int (IntKind.i64) ((0 : Int))), (Go.Value.int (IntKind.i64) ((0 : Int))), (Go.Value.int (IntKind.i64) ((0 : Int))), (Go.Value.int (IntKind.i64) ((0 : Int))), (Go.Value.int (IntKind.i64) ((0 : Int))), (Go.Value.int (IntKind.i64) ((0 : Int))), (Go.Value.bool (false)), (Go.Value.slice (none) ((0 : Nat)) ((0 : Nat))), (Go.Value.string (ByteArray.mk #[]))] (a51) (n52) (c53) (Src.sl a54 n55) fun a57 n58 c59 =>
          π.ret (Go.Value.slice (a57) (n58) (c59))
        )
      )
    )

def ann_counted : Ann := { draws := [(11, { A := [0, 1, 2, 3, 4, 6, 7, 8, 9, 11, 12, 13, 14], quiet := [3], chkL := [(10, [14])], eag := [16, 17, 19, 20] }), (12, { A := [0, 1, 2, 3, 4, 5, 6, 7, 8, 9], quiet := [2] })], join := [(12, [])], loop := [(3, [(3, 3), (9, 64), (10, 3), (11, 3)])] }
set_option maxRecDepth 100000 in
theorem eq_counted {W : Type} (π : Prims W) (b : Nat) : bodyW π Try.prog ann_counted (mkFr (maskA [] [.v (.pointer (some ⟨b, 0, none⟩))] 0) 77) Try.f43 (bodyOf Try.f43) (mkFr (List.map some [.v (.pointer (some ⟨b, 0, none⟩))]) 77) = vc_counted π b := by kernel_rfl
theorem ok_counted (b : Nat) (R : Value → PH → Prop) (s : PH) (h : vc_counted (RP Try.prog R) b s) : DCalls Try.prog 43 (List.map AV.val [.v (.pointer (some ⟨b, 0, none⟩))]).toArray s R :=
  calls_vc (c := bodyOf Try.f43) (ann := ann_counted) (by kernel_rfl) Try.func43 rfl (by kernel_rfl) [.v (.pointer (some ⟨b, 0, none⟩))] [] (by rw [Try.ntmps43]; exact Nat.le_of_ble_eq_true rfl) (by rw [show Try.f43.ntmps = 77 from Try.ntmps43, eq_counted]; exact h)

/-- (*lintel/ballot.Ballot).Timeout -/
def vc_Timeout {W : Type} (π : Prims W) (b : Nat) : W :=
  π.join [] (fun J0 =>
    π.ite ((some (Addr.mk b (0 : Nat) none)).isNone) (
      π.ret (Go.Value.slice (none) ((0 : Nat)) ((0 : Nat)))
    ) (
      π.unSome (some (Addr.mk b (0 : Nat) none)) fun p1 =>
      π.ld [.int .i64] ((p1.add (2 : Nat)).add (2 : Nat)) fun ((x2 : Int), _) =>
      π.ite (x2 == (2 : Int)) (
        π.ret (Go.Value.slice (none) ((0 : Nat)) ((0 : Nat)))
      ) (
        J0 (())
      )
    )
  ) (fun (_) =>
    π.unSome (some (Addr.mk b (0 : Nat) none)) fun p3 =>
    π.ld [.int .i64] ((p3.add (2 : Nat)).add (0 : Nat)) fun ((x4 : Int), _) =>
    π.unSome (some (Addr.mk b (0 : Nat) none)) fun p5 =>
    π.ld [.int .i64] (p5.add (0 : Nat)) fun ((x6 : Int), _) =>
    π.call (40 : Nat) #[(Go.Value.pointer (some (Addr.mk b (0 : Nat) none))), (Go.Value.int (IntKind.i64) (IntKind.i64.wrap (x4 + (1 : Int)))), (Go.Value.int (IntKind.i64) (x6)), (Go.Value.int (IntKind.i64) ((1 : Int)))] (true, []) fun (_) =>
    π.unSome (some (Addr.mk b (0 : Nat) none)) fun p7 =>
    π.ld [.int .i64] (p7.add (1 : Nat)) fun ((x8 : Int), _) =>
    π.mksl (4 : Nat) (1 : Nat) (1 : Nat) [(Go.Value.bool (false))] (x8) (x8) fun r9 =>
    π.unSome (some (Addr.mk b (0 : Nat) none)) fun p10 =>
    π.st (p10.add (12 : Nat)) [(Go.Value.slice (some (Addr.mk r9 (0 : Nat) none)) (x8.toNat) (x8.toNat))] <|
    π.unSome (some (Addr.mk b (0 : Nat) none)) fun p11 =>
    π.ld [.slice] (p11.add (12 : Nat)) fun (((a12 : Option Addr), (n13 : Nat), (c14 : Nat)), _) =>
    π.unSome (some (Addr.mk b (0 : Nat) none)) fun p15 =>
    π.ld [.int .i64] (p15.add (0 : Nat)) fun ((x16 : Int), _) =>
    π.guard ((0 : Int) ≤ x16 ∧ x16 < (↑n13 : Int)) <|
    π.unSome (a12) fun p17 =>
    π.st (p17.add (x16.toNat * (1 : Nat))) [(Go.Value.bool (true))] <|
    π.call (41 : Nat) #[(Go.Value.pointer (some (Addr.mk b (0 : Nat) none))), (Go.Value.func (Fn.func (42 : Nat)) #[(Go.Value.pointer (some (Addr.mk b (0 : Nat) none)))] #[])] (false, [(false, [.slice])]) fun ((((a18 : Option Addr), (n19 : Nat), (c20 : Nat)), _), _) =>
    π.call (43 : Nat) #[(Go.Value.pointer (some (Addr.mk b (0 : Nat) none)))] (false, [(false, [.slice])]) fun ((((a21 : Option Addr), (n22 : Nat), (c23 : Nat)), _), _) =>
    π.app (32 : Nat) (10 : Nat) (104 : Nat) [(Go.Value.int (IntKind.i64) ((0 : Int))), (Go.Value.int (IntKind.i64) ((0 : Int))), (Go.Value.int (IntKind.i64) ((0 : Int))), (Go.Value.int (IntKind.i64) ((0 : Int))), (Go.Value.int (IntKind.i64) ((0 : Int))), (Go.Value.int (IntKind.i64) ((0 : Int))), (Go.Value.int (IntKind.i64) ((0 : Int))), (Go.Value.bool (false)), (Go.Value.slice (none) ((0 : Nat)) ((0 : Nat))), (Go.Value.string (ByteArray.mk #[]))] (a18) (n19) (c20) (Src.sl a21 n22) fun a24 n25 c26 =>
    π.ret (Go.Value.slice (a24) (n25) (c26))
  )

def ann_Timeout : Ann := { draws := [(3, { A := [0, 1, 2, 3, 4, 5, 6, 7, 8, 9, 10] }), (5, { A := [0, 1, 2, 3, 4, 5, 6, 7, 8] })], join := [(3, [])], loop := [] }
set_option maxRecDepth 100000 in
theorem eq_Timeout {W : Type} (π : Prims W) (b : Nat) : bodyW π Try.prog ann_Timeout (mkFr (maskA [] [.v (.pointer (some ⟨b, 0, none⟩))] 0) 51) Try.f24 (bodyOf Try.f24) (mkFr (List.map some [.v (.pointer (some ⟨b, 0, none⟩))]) 51) = vc_Timeout π b := by kernel_rfl
theorem ok_Timeout (b : Nat) (R : Value → PH → Prop) (s : PH) (h : vc_Timeout (RP Try.prog R) b s) : DCalls Try.prog 24 (List.map AV.val [.v (.pointer (some ⟨b, 0, none⟩))]).toArray s R :=
  calls_vc (c := bodyOf Try.f24) (ann := ann_Timeout) (by kernel_rfl) Try.func24 rfl (by kernel_rfl) [.v (.pointer (some ⟨b, 0, none⟩))] [] (by rw [Try.ntmps24]; exact Nat.le_of_ble_eq_true rfl) (by rw [show Try.f24.ntmps = 51 from Try.ntmps24, eq_Timeout]; exact h)

/-- (*lintel/ballot.Ballot).Beat -/
def vc_Beat {W : Type} (π : Prims W) (b : Nat) : W :=
  π.ite ((some (Addr.mk b (0 : Nat) none)).isNone) (
    π.ret (Go.Value.slice (none) ((0 : Nat)) ((0 : Nat)))
  ) (
    π.unSome (some (Addr.mk b (0 : Nat) none)) fun p0 =>
    π.ld [.int .i64] ((p0.add (2 : Nat)).add (2 : Nat)) fun ((x1 : Int), _) =>
    π.ite (x1 != (2 : Int)) (
      π.ret (Go.Value.slice (none) ((0 : Nat)) ((0 : Nat)))
    ) (
      π.call (41 : Nat) #[(Go.Value.pointer (some (Addr.mk b (0 : Nat) none))), (Go.Value.func (Fn.func (52 : Nat)) #[(Go.Value.pointer (some (Addr.mk b (0 : Nat) none)))] #[])] (false, [(false, [.slice])]) fun ((((a2 : Option Addr), (n3 : Nat), (c4 : Nat)), _), _) =>
      π.ret (Go.Value.slice (a2) (n3) (c4))
    )
  )

def ann_Beat : Ann := { draws := [], join := [], loop := [] }
set_option maxRecDepth 100000 in
theorem eq_Beat {W : Type} (π : Prims W) (b : Nat) : bodyW π Try.prog ann_Beat (mkFr (maskA [] [.v (.pointer (some ⟨b, 0, none⟩))] 0) 17) Try.f27 (bodyOf Try.f27) (mkFr (List.map some [.v (.pointer (some ⟨b, 0, none⟩))]) 17) = vc_Beat π b := by kernel_rfl
theorem ok_Beat (b : Nat) (R : Value → PH → Prop) (s : PH) (h : vc_Beat (RP Try.prog R) b s) : DCalls Try.prog 27 (List.map AV.val [.v (.pointer (some ⟨b, 0, none⟩))]).toArray s R :=
  calls_vc (c := bodyOf Try.f27) (ann := ann_Beat) (by kernel_rfl) Try.func27 rfl (by kernel_rfl) [.v (.pointer (some ⟨b, 0, none⟩))] [] (by rw [Try.ntmps27]; exact Nat.le_of_ble_eq_true rfl) (by rw [show Try.f27.ntmps = 17 from Try.ntmps27, eq_Beat]; exact h)

/-- (*lintel/ballot.Ballot).Propose -/
def vc_Propose {W : Type} (π : Prims W) (b : Nat) (at_ born : Int) (text : ByteArray) : W :=
  π.join [] (fun J0 =>
    π.ite ((some (Addr.mk b (0 : Nat) none)).isNone) (
      π.ret (Go.Value.tuple #[(Go.Value.int (IntKind.i64) ((0 : Int))), (Go.Value.slice (none) ((0 : Nat)) ((0 : Nat)))])
    ) (
      π.unSome (some (Addr.mk b (0 : Nat) none)) fun p1 =>
      π.ld [.int .i64] ((p1.add (2 : Nat)).add (2 : Nat)) fun ((x2 : Int), _) =>
      π.ite (x2 != (2 : Int)) (
        π.ret (Go.Value.tuple #[(Go.Value.int (IntKind.i64) ((0 : Int))), (Go.Value.slice (none) ((0 : Nat)) ((0 : Nat)))])
      ) (
        J0 (())
      )
    )
  ) (fun (_) =>
    π.callQ (26 : Nat) #[(Go.Value.pointer (some (Addr.mk b (0 : Nat) none)))] (false, [(false, [.int .i64])]) fun (((x3 : Int), _), _) =>
    π.unSome (some (Addr.mk b (0 : Nat) none)) fun p4 =>
    π.ld [.int .i64] ((p4.add (2 : Nat)).add (0 : Nat)) fun ((x5 : Int), _) =>
    π.nw (Go.Obj.cells #[(Go.Value.int (IntKind.i64) (x5)), (Go.Value.int (IntKind.i64) (at_)), (Go.Value.int (IntKind.i64) (born)), (Go.Value.string (text))] (39 : Nat) ((0 : Nat), (0 : Nat))) fun r6 =>
    π.call (53 : Nat) #[(Go.Value.pointer (some (Addr.mk b (0 : Nat) none))), (Go.Value.int (IntKind.i64) (IntKind.i64.wrap (x3 + (1 : Int)))), (Go.Value.slice (some (Addr.mk r6 (0 : Nat) none)) ((1 : Nat)) ((1 : Nat)))] (true, []) fun (_) =>
    π.call (26 : Nat) #[(Go.Value.pointer (some (Addr.mk b (0 : Nat) none)))] (false, [(false, [.int .i64])]) fun (((x7 : Int), _), _) =>
    π.call (41 : Nat) #[(Go.Value.pointer (some (Addr.mk b (0 : Nat) none))), (Go.Value.func (Fn.func (52 : Nat)) #[(Go.Value.pointer (some (Addr.mk b (0 : Nat) none)))] #[])] (false, [(false, [.slice])]) fun ((((a8 : Option Addr), (n9 : Nat), (c10 : Nat)), _), _) =>
    π.call (54 : Nat) #[(Go.Value.pointer (some (Addr.mk b (0 : Nat) none)))] (false, [(false, [.slice])]) fun ((((a11 : Option Addr), (n12 : Nat), (c13 : Nat)), _), _) =>
    π.app (32 : Nat) (10 : Nat) (104 : Nat) [(Go.Value.int (IntKind.i64) ((0 : Int))), (Go.Value.int (IntKind.i64) ((0 : Int))), (Go.Value.int (IntKind.i64) ((0 : Int))), (Go.Value.int (IntKind.i64) ((0 : Int))), (Go.Value.int (IntKind.i64) ((0 : Int))), (Go.Value.int (IntKind.i64) ((0 : Int))), (Go.Value.int (IntKind.i64) ((0 : Int))), (Go.Value.bool (false)), (Go.Value.slice (none) ((0 : Nat)) ((0 : Nat))), (Go.Value.string (ByteArray.mk #[]))] (a8) (n9) (c10) (Src.sl a11 n12) fun a14 n15 c16 =>
    π.ret (Go.Value.tuple #[(Go.Value.int (IntKind.i64) (x7)), (Go.Value.slice (a14) (n15) (c16))])
  )

def ann_Propose : Ann := { draws := [(3, { A := [0, 1, 2, 3, 4, 5, 6, 7, 8, 9, 10, 11, 12], quiet := [2] })], join := [(3, [])], loop := [] }
set_option maxRecDepth 100000 in
theorem eq_Propose {W : Type} (π : Prims W) (b : Nat) (at_ born : Int) (text : ByteArray) : bodyW π Try.prog ann_Propose (mkFr (maskA [] [.v (.pointer (some ⟨b, 0, none⟩)), .v (.int .i64 at_), .v (.int .i64 born), .v (.string text)] 0) 44) Try.f28 (bodyOf Try.f28) (mkFr (List.map some [.v (.pointer (some ⟨b, 0, none⟩)), .v (.int .i64 at_), .v (.int .i64 born), .v (.string text)]) 44) = vc_Propose π b at_ born text := by kernel_rfl
theorem ok_Propose (b : Nat) (at_ born : Int) (text : ByteArray) (R : Value → PH → Prop) (s : PH) (h : vc_Propose (RP Try.prog R) b at_ born text s) : DCalls Try.prog 28 (List.map AV.val [.v (.pointer (some ⟨b, 0, none⟩)), .v (.int .i64 at_), .v (.int .i64 born), .v (.string text)]).toArray s R :=
  calls_vc (c := bodyOf Try.f28) (ann := ann_Propose) (by kernel_rfl) Try.func28 rfl (by kernel_rfl) [.v (.pointer (some ⟨b, 0, none⟩)), .v (.int .i64 at_), .v (.int .i64 born), .v (.string text)] [] (by rw [Try.ntmps28]; exact Nat.le_of_ble_eq_true rfl) (by rw [show Try.f28.ntmps = 44 from Try.ntmps28, eq_Propose]; exact h)

/-- (*lintel/ballot.Ballot).strange$1 -/
def vc_strange1 {W : Type} (π : Prims W) (n : Int) : W :=
  π.ite (decide (n < (0 : Int))) (
    π.ret (Go.Value.bool (true))
  ) (
    π.ret (Go.Value.bool (decide (n > (1099511627776 : Int))))
  )

def ann_strange1 : Ann := { draws := [], join := [], loop := [] }
set_option maxRecDepth 100000 in
theorem eq_strange1 {W : Type} (π : Prims W) (n : Int) : bodyW π Try.prog ann_strange1 (mkFr (maskA [] [.v (.int .i64 n)] 0) 9) Try.f71 (bodyOf Try.f71) (mkFr (List.map some [.v (.int .i64 n)]) 9) = vc_strange1 π n := by kernel_rfl
theorem ok_strange1 (n : Int) (R : Value → PH → Prop) (s : PH) (h : vc_strange1 (RP Try.prog R) n s) : DCalls Try.prog 71 (List.map AV.val [.v (.int .i64 n)]).toArray s R :=
  calls_vc (c := bodyOf Try.f71) (ann := ann_strange1) (by kernel_rfl) Try.func71 rfl (by kernel_rfl) [.v (.int .i64 n)] [] (by rw [Try.ntmps71]; exact Nat.le_of_ble_eq_true rfl) (by rw [show Try.f71.ntmps = 9 from Try.ntmps71, eq_strange1]; exact h)

/-- (*lintel/ballot.Ballot).strange -/
def vc_strange {W : Type} (π : Prims W) (b : Nat) (mk mf mt mm mi mp mc : Int) (mg : Bool) (la : Option Addr) (ln lc : Nat) (ms : ByteArray) : W :=
  π.nw (Go.Obj.cells #[(Go.Value.int (IntKind.i64) (mk)), (Go.Value.int (IntKind.i64) (mf)), (Go.Value.int (IntKind.i64) (mt)), (Go.Value.int (IntKind.i64) (mm)), (Go.Value.int (IntKind.i64) (mi)), (Go.Value.int (IntKind.i64) (mp)), (Go.Value.int (IntKind.i64) (mc)), (Go.Value.bool (mg)), (Go.Value.slice (la) (ln) (lc)), (Go.Value.string (ms))] (32 : Nat) ((0 : Nat), (0 : Nat))) fun r0 =>
  π.join [(false, [.addr]), (false, [.int .i64])] (fun J1 =>
    π.ld [.int .i64] ((Addr.mk r0 (0 : Nat) none).add (0 : Nat)) fun ((x2 : Int), _) =>
    π.ite (x2 == (4 : Int)) (
      J1 ((Addr.mk r0 (0 : Nat) none, ()), ((-1 : Int), ()), ())
    ) (
      J1 ((Addr.mk r0 (0 : Nat) none, ()), ((0 : Int), ()), ())
    )
  ) (fun ((p3, _), ((x4 : Int), _), _) =>
    π.ld [.int .i64] (p3.add (2 : Nat)) fun ((x5 : Int), _) =>
    π.unSome (some (Addr.mk b (0 : Nat) none)) fun p6 =>
    π.ld [.int .i64] (p6.add (0 : Nat)) fun ((x7 : Int), _) =>
    π.ite (x5 != x7) (
      π.ret (Go.Value.bool (true))
    ) (
      π.ld [.int .i64] (p3.add (1 : Nat)) fun ((x8 : Int), _) =>
      π.unSome (some (Addr.mk b (0 : Nat) none)) fun p9 =>
      π.ld [.int .i64] (p9.add (0 : Nat)) fun ((x10 : Int), _) =>
      π.ite (x8 == x10) (
        π.ret (Go.Value.bool (true))
      ) (
        π.ld [.int .i64] (p3.add (1 : Nat)) fun ((x11 : Int), _) =>
        π.ite (decide (x11 < (0 : Int))) (
          π.ret (Go.Value.bool (true))
        ) (
          π.ld [.int .i64] (p3.add (1 : Nat)) fun ((x12 : Int), _) =>
          π.unSome (some (Addr.mk b (0 : Nat) none)) fun p13 =>
          π.ld [.int .i64] (p13.add (1 : Nat)) fun ((x14 : Int), _) =>
          π.ite (decide (x12 ≥ x14)) (
            π.ret (Go.Value.bool (true))
          ) (
            π.ld [.int .i64] (p3.add (0 : Nat)) fun ((x15 : Int), _) =>
            π.ite (decide (x15 < (1 : Int))) (
              π.ret (Go.Value.bool (true))
            ) (
              π.ld [.int .i64] (p3.add (0 : Nat)) fun ((x16 : Int), _) =>
              π.ite (decide (x16 > (5 : Int))) (
                π.ret (Go.Value.bool (true))
              ) (
                π.ld [.int .i64] (p3.add (3 : Nat)) fun ((x17 : Int), _) =>
                π.ite (decide (x17 < (1 : Int))) (
                  π.ret (Go.Value.bool (true))
                ) (
                  π.ld [.int .i64] (p3.add (3 : Nat)) fun ((x18 : Int), _) =>
                  π.ite (decide (x18 > (1099511627776 : Int))) (
                    π.ret (Go.Value.bool (true))
                  ) (
                    π.ld [.int .i64] (p3.add (4 : Nat)) fun ((x19 : Int), _) =>
                    π.ite (decide (x19 < x4)) (
                      π.ret (Go.Value.bool (true))
                    ) (
                      π.ld [.int .i64] (p3.add (4 : Nat)) fun ((x20 : Int), _) =>
                      π.ite (decide (x20 > (1099511627776 : Int))) (
                        π.ret (Go.Value.bool (true))
                      ) (
                        π.ld [.int .i64] (p3.add (5 : Nat)) fun ((x21 : Int), _) =>
                        π.call (71 : Nat) #[(Go.Value.int (IntKind.i64) (x21))] (false, [(false, [.bool])]) fun (((b22 : Bool), _), _) =>
                        π.ite (b22) (
                          π.ret (Go.Value.bool (true))
                        ) (
                          π.ld [.int .i64] (p3.add (6 : Nat)) fun ((x23 : Int), _) =>
                          π.call (71 : Nat) #[(Go.Value.int (IntKind.i64) (x23))] (false, [(false, [.bool])]) fun (((b24 : Bool), _), _) =>
                          π.ret (Go.Value.bool (b24))
                        )
                      )
                    )
                  )
                )
              )
            )
          )
        )
      )
    )
  )

def ann_strange : Ann := { draws := [(5, { A := [0, 1, 2, 3, 4, 5, 6, 7, 8, 9, 10, 11, 12, 13, 14, 15, 16, 17, 18, 19, 20, 21, 22, 23, 24, 25, 26, 27, 28, 29, 30, 31, 32, 33, 34, 35, 36, 37, 38, 39, 40, 41, 42, 43, 44, 45, 46, 47, 48, 49, 50, 51, 52, 53, 54, 55, 56, 57, 58, 59, 60, 61, 62, 63, 64], eag := [66, 67, 68, 69, 72, 73] })], join := [(4, [(3, 1000000), (5, 3)])], loop := [] }
set_option maxRecDepth 100000 in
theorem eq_strange {W : Type} (π : Prims W) (b : Nat) (mk mf mt mm mi mp mc : Int) (mg : Bool) (la : Option Addr) (ln lc : Nat) (ms : ByteArray) : bodyW π Try.prog ann_strange (mkFr (maskA [] [.v (.pointer (some ⟨b, 0, none⟩)), .v (.agg #[.int .i64 mk, .int .i64 mf, .int .i64 mt, .int .i64 mm, .int .i64 mi, .int .i64 mp, .int .i64 mc, .bool mg, .slice la ln lc, .string ms])] 0) 83) Try.f44 (bodyOf Try.f44) (mkFr (List.map some [.v (.pointer (some ⟨b, 0, none⟩)), .v (.agg #[.int .i64 mk, .int .i64 mf, .int .i64 mt, .int .i64 mm, .int .i64 mi, .int .i64 mp, .int .i64 mc, .bool mg, .slice la ln lc, .string ms])]) 83) = vc_strange π b mk mf mt mm mi mp mc mg la ln lc ms := by kernel_rfl
theorem ok_strange (b : Nat) (mk mf mt mm mi mp mc : Int) (mg : Bool) (la : Option Addr) (ln lc : Nat) (ms : ByteArray) (R : Value → PH → Prop) (s : PH) (h : vc_strange (RP Try.prog R) b mk mf mt mm mi mp mc mg la ln lc ms s) : DCalls Try.prog 44 (List.map AV.val [.v (.pointer (some ⟨b, 0, none⟩)), .v (.agg #[.int .i64 mk, .int .i64 mf, .int .i64 mt, .int .i64 mm, .int .i64 mi, .int .i64 mp, .int .i64 mc, .bool mg, .slice la ln lc, .string ms])]).toArray s R :=
  calls_vc (c := bodyOf Try.f44) (ann := ann_strange) (by kernel_rfl) Try.func44 rfl (by kernel_rfl) [.v (.pointer (some ⟨b, 0, none⟩)), .v (.agg #[.int .i64 mk, .int .i64 mf, .int .i64 mt, .int .i64 mm, .int .i64 mi, .int .i64 mp, .int .i64 mc, .bool mg, .slice la ln lc, .string ms])] [] (by rw [Try.ntmps44]; exact Nat.le_of_ble_eq_true rfl) (by rw [show Try.f44.ntmps = 83 from Try.ntmps44, eq_strange]; exact h)

/-- (*lintel/ballot.Ballot).told -/
def vc_told {W : Type} (π : Prims W) (b : Nat) (to : Int) (good : Bool) (i : Int) : W :=
  π.call (45 : Nat) #[(Go.Value.pointer (some (Addr.mk b (0 : Nat) none))), (Go.Value.int (IntKind.i64) ((4 : Int))), (Go.Value.int (IntKind.i64) (to))] (false, [(true, [.int .i64, .int .i64, .int .i64, .int .i64, .int .i64, .int .i64, .int .i64, .bool, .slice, .str])]) fun (((x0 : Int), (x1 : Int), (x2 : Int), (x3 : Int), (x4 : Int), (x5 : Int), (x6 : Int), (b7 : Bool), ((a8 : Option Addr), (n9 : Nat), (c10 : Nat)), (t11 : ByteArray), _), _) =>
  π.nw (Go.Obj.cells #[(Go.Value.int (IntKind.i64) ((0 : Int))), (Go.Value.int (IntKind.i64) ((0 : Int))), (Go.Value.int (IntKind.i64) ((0 : Int))), (Go.Value.int (IntKind.i64) ((0 : Int))), (Go.Value.int (IntKind.i64) ((0 : Int))), (Go.Value.int (IntKind.i64) ((0 : Int))), (Go.Value.int (IntKind.i64) ((0 : Int))), (Go.Value.bool (false)), (Go.Value.slice (none) ((0 : Nat)) ((0 : Nat))), (Go.Value.string (ByteArray.mk #[]))] (32 : Nat) ((0 : Nat), (0 : Nat))) fun r12 =>
  π.st (Addr.mk r12 (0 : Nat) none) [(Go.Value.int (IntKind.i64) (x0)), (Go.Value.int (IntKind.i64) (x1)), (Go.Value.int (IntKind.i64) (x2)), (Go.Value.int (IntKind.i64) (x3)), (Go.Value.int (IntKind.i64) (x4)), (Go.Value.int (IntKind.i64) (x5)), (Go.Value.int (IntKind.i64) (x6)), (Go.Value.bool (b7)), (Go.Value.slice (a8) (n9) (c10)), (Go.Value.string (t11))] <|
  π.st ((Addr.mk r12 (0 : Nat) none).add (7 : Nat)) [(Go.Value.bool (good))] <|
  π.st ((Addr.mk r12 (0 : Nat) none).add (4 : Nat)) [(Go.Value.int (IntKind.i64) (i))] <|
  π.ld [.int .i64, .int .i64, .int .i64, .int .i64, .int .i64, .int .i64, .int .i64, .bool, .slice, .str] (Addr.mk r12 (0 : Nat) none) fun ((x13 : Int), (x14 : Int), (x15 : Int), (x16 : Int), (x17 : Int), (x18 : Int), (x19 : Int), (b20 : Bool), ((a21 : Option Addr), (n22 : Nat), (c23 : Nat)), (t24 : ByteArray), _) =>
  π.nw (Go.Obj.cells #[(Go.Value.int (IntKind.i64) (x13)), (Go.Value.int (IntKind.i64) (x14)), (Go.Value.int (IntKind.i64) (x15)), (Go.Value.int (IntKind.i64) (x16)), (Go.Value.int (IntKind.i64) (x17)), (Go.Value.int (IntKind.i64) (x18)), (Go.Value.int (IntKind.i64) (x19)), (Go.Value.bool (b20)), (Go.Value.slice (a21) (n22) (c23)), (Go.Value.string (t24))] (32 : Nat) ((0 : Nat), (0 : Nat))) fun r25 =>
  π.ret (Go.Value.slice (some (Addr.mk r25 (0 : Nat) none)) ((1 : Nat)) ((1 : Nat)))

def ann_told : Ann := { draws := [], join := [], loop := [] }
set_option maxRecDepth 100000 in
theorem eq_told {W : Type} (π : Prims W) (b : Nat) (to : Int) (good : Bool) (i : Int) : bodyW π Try.prog ann_told (mkFr (maskA [] [.v (.pointer (some ⟨b, 0, none⟩)), .v (.int .i64 to), .v (.bool good), .v (.int .i64 i)] 0) 19) Try.f46 (bodyOf Try.f46) (mkFr (List.map some [.v (.pointer (some ⟨b, 0, none⟩)), .v (.int .i64 to), .v (.bool good), .v (.int .i64 i)]) 19) = vc_told π b to good i := by kernel_rfl
theorem ok_told (b : Nat) (to : Int) (good : Bool) (i : Int) (R : Value → PH → Prop) (s : PH) (h : vc_told (RP Try.prog R) b to good i s) : DCalls Try.prog 46 (List.map AV.val [.v (.pointer (some ⟨b, 0, none⟩)), .v (.int .i64 to), .v (.bool good), .v (.int .i64 i)]).toArray s R :=
  calls_vc (c := bodyOf Try.f46) (ann := ann_told) (by kernel_rfl) Try.func46 rfl (by kernel_rfl) [.v (.pointer (some ⟨b, 0, none⟩)), .v (.int .i64 to), .v (.bool good), .v (.int .i64 i)] [] (by rw [Try.ntmps46]; exact Nat.le_of_ble_eq_true rfl) (by rw [show Try.f46.ntmps = 19 from Try.ntmps46, eq_told]; exact h)

/-- (*lintel/ballot.Ballot).asked -/
def vc_asked {W : Type} (π : Prims W) (b : Nat) (mk mf mt mm mi mp mc : Int) (mg : Bool) (la : Option Addr) (ln lc : Nat) (ms : ByteArray) : W :=
  π.nw (Go.Obj.cells #[(Go.Value.int (IntKind.i64) (mk)), (Go.Value.int (IntKind.i64) (mf)), (Go.Value.int (IntKind.i64) (mt)), (Go.Value.int (IntKind.i64) (mm)), (Go.Value.int (IntKind.i64) (mi)), (Go.Value.int (IntKind.i64) (mp)), (Go.Value.int (IntKind.i64) (mc)), (Go.Value.bool (mg)), (Go.Value.slice (la) (ln) (lc)), (Go.Value.string (ms))] (32 : Nat) ((0 : Nat), (0 : Nat))) fun r0 =>
  π.call (26 : Nat) #[(Go.Value.pointer (some (Addr.mk b (0 : Nat) none)))] (false, [(false, [.int .i64])]) fun (((x1 : Int), _), _) =>
  π.call (55 : Nat) #[(Go.Value.pointer (some (Addr.mk b (0 : Nat) none))), (Go.Value.int (IntKind.i64) (x1))] (true, [(false, [.int .i64]), (false, [.bool])]) fun (((x2 : Int), _), ((b3 : Bool), _), _) =>
  π.ld [.int .i64] ((Addr.mk r0 (0 : Nat) none).add (1 : Nat)) fun ((x4 : Int), _) =>
  π.call (45 : Nat) #[(Go.Value.pointer (some (Addr.mk b (0 : Nat) none))), (Go.Value.int (IntKind.i64) ((2 : Int))), (Go.Value.int (IntKind.i64) (x4))] (false, [(true, [.int .i64, .int .i64, .int .i64, .int .i64, .int .i64, .int .i64, .int .i64, .bool, .slice, .str])]) fun (((x5 : Int), (x6 : Int), (x7 : Int), (x8 : Int), (x9 : Int), (x10 : Int), (x11 : Int), (b12 : Bool), ((a13 : Option Addr), (n14 : Nat), (c15 : Nat)), (t16 : ByteArray), _), _) =>
  π.nw (Go.Obj.cells #[(Go.Value.int (IntKind.i64) ((0 : Int))), (Go.Value.int (IntKind.i64) ((0 : Int))), (Go.Value.int (IntKind.i64) ((0 : Int))), (Go.Value.int (IntKind.i64) ((0 : Int))), (Go.Value.int (IntKind.i64) ((0 : Int))), (Go.Value.int (IntKind.i64) ((0 : Int))), (Go.Value.int (IntKind.i64) ((0 : Int))), (Go.Value.bool (false)), (Go.Value.slice (none) ((0 : Nat)) ((0 : Nat))), (Go.Value.string (ByteArray.mk #[]))] (32 : Nat) ((0 : Nat), (0 : Nat))) fun r17 =>
  π.st (Addr.mk r17 (0 : Nat) none) [(Go.Value.int (IntKind.i64) (x5)), (Go.Value.int (IntKind.i64) (x6)), (Go.Value.int (IntKind.i64) (x7)), (Go.Value.int (IntKind.i64) (x8)), (Go.Value.int (IntKind.i64) (x9)), (Go.Value.int (IntKind.i64) (x10)), (Go.Value.int (IntKind.i64) (x11)), (Go.Value.bool (b12)), (Go.Value.slice (a13) (n14) (c15)), (Go.Value.string (t16))] <|
  π.unSome (some (Addr.mk b (0 : Nat) none)) fun p18 =>
  π.ld [.int .i64] ((p18.add (2 : Nat)).add (1 : Nat)) fun ((x19 : Int), _) =>
  π.ite (decide (x19 < (0 : Int))) (
    π.ld [.int .i64] ((Addr.mk r0 (0 : Nat) none).add (5 : Nat)) fun ((x20 : Int), _) =>
    π.ite (decide (x20 > x2)) (
      π.st ((Addr.mk r17 (0 : Nat) none).add (7 : Nat)) [(Go.Value.bool (true))] <|
      π.ld [.bool] ((Addr.mk r17 (0 : Nat) none).add (7 : Nat)) fun ((b21 : Bool), _) =>
      π.ite (b21) (
        π.ld [.int .i64] ((Addr.mk r0 (0 : Nat) none).add (1 : Nat)) fun ((x22 : Int), _) =>
        π.unSome (some (Addr.mk b (0 : Nat) none)) fun p23 =>
        π.st ((p23.add (2 : Nat)).add (1 : Nat)) [(Go.Value.int (IntKind.i64) (x22))] <|
        π.unSome (some (Addr.mk b (0 : Nat) none)) fun p24 =>
        π.st (p24.add (15 : Nat)) [(Go.Value.bool (true))] <|
        π.ld [.int .i64, .int .i64, .int .i64, .int .i64, .int .i64, .int .i64, .int .i64, .bool, .slice, .str] (Addr.mk r17 (0 : Nat) none) fun ((x25 : Int), (x26 : Int), (x27 : Int), (x28 : Int), (x29 : Int), (x30 : Int), (x31 : Int), (b32 : Bool), ((a33 : Option Addr), (n34 : Nat), (c35 : Nat)), (t36 : ByteArray), _) =>
        π.nw (Go.Obj.cells #[(Go.Value.int (IntKind.i64) (x25)), (Go.Value.int (IntKind.i64) (x26)), (Go.Value.int (IntKind.i64) (x27)), (Go.Value.int (IntKind.i64) (x28)), (Go.Value.int (IntKind.i64) (x29)), (Go.Value.int (IntKind.i64) (x30)), (Go.Value.int (IntKind.i64) (x31)), (Go.Value.bool (b32)), (Go.Value.slice (a33) (n34) (c35)), (Go.Value.string (t36))] (32 : Nat) ((0 : Nat), (0 : Nat))) fun r37 =>
        π.ret (Go.Value.slice (some (Addr.mk r37 (0 : Nat) none)) ((1 : Nat)) ((1 : Nat)))
      ) (
        π.ld [.int .i64, .int .i64, .int .i64, .int .i64, .int .i64, .int .i64, .int .i64, .bool, .slice, .str] (Addr.mk r17 (0 : Nat) none) fun ((x38 : Int), (x39 : Int), (x40 : Int), (x41 : Int), (x42 : Int), (x43 : Int), (x44 : Int), (b45 : Bool), ((a46 : Option Addr), (n47 : Nat), (c48 : Nat)), (t49 : ByteArray), _) =>
        π.nw (Go.Obj.cells #[(Go.Value.int (IntKind.i64) (x38)), (Go.Value.int (IntKind.i64) (x39)), (Go.Value.int (IntKind.i64) (x40)), (Go.Value.int (IntKind.i64) (x41)), (Go.Value.int (IntKind.i64) (x42)), (Go.Value.int (IntKind.i64) (x43)), (Go.Value.int (IntKind.i64) (x44)), (Go.Value.bool (b45)), (Go.Value.slice (a46) (n47) (c48)), (Go.Value.string (t49))] (32 : Nat) ((0 : Nat), (0 : Nat))) fun r50 =>
        π.ret (Go.Value.slice (some (Addr.mk r50 (0 : Nat) none)) ((1 : Nat)) ((1 : Nat)))
      )
    ) (
      π.ld [.int .i64] ((Addr.mk r0 (0 : Nat) none).add (5 : Nat)) fun ((x51 : Int), _) =>
      π.ite (x51 == x2) (
        π.ld [.int .i64] ((Addr.mk r0 (0 : Nat) none).add (4 : Nat)) fun ((x52 : Int), _) =>
        π.callQ (26 : Nat) #[(Go.Value.pointer (some (Addr.mk b (0 : Nat) none)))] (false, [(false, [.int .i64])]) fun (((x53 : Int), _), _) =>
        π.st ((Addr.mk r17 (0 : Nat) none).add (7 : Nat)) [(Go.Value.bool (decide (x52 ≥ x53)))] <|
        π.ld [.bool] ((Addr.mk r17 (0 : Nat) none).add (7 : Nat)) fun ((b54 : Bool), _) =>
        π.ite (b54) (
          π.ld [.int .i64] ((Addr.mk r0 (0 : Nat) none).add (1 : Nat)) fun ((x55 : Int), _) =>
          π.unSome (some (Addr.mk b (0 : Nat) none)) fun p56 =>
          π.st ((p56.add (2 : Nat)).add (1 : Nat)) [(Go.Value.int (IntKind.i64) (x55))] <|
          π.unSome (some (Addr.mk b (0 : Nat) none)) fun p57 =>
          π.st (p57.add (15 : Nat)) [(Go.Value.bool (true))] <|
          π.ld [.int .i64, .int .i64, .int .i64, .int .i64, .int .i64, .int .i64, .int .i64, .bool, .slice, .str] (Addr.mk r17 (0 : Nat) none) fun ((x58 : Int), (x59 : Int), (x60 : Int), (x61 : Int), (x62 : Int), (x63 : Int), (x64 : Int), (b65 : Bool), ((a66 : Option Addr), (n67 : Nat), (c68 : Nat)), (t69 : ByteArray), _) =>
          π.nw (Go.Obj.cells #[(Go.Value.int (IntKind.i64) (x58)), (Go.Value.int (IntKind.i64) (x59)), (Go.Value.int (IntKind.i64) (x60)), (Go.Value.int (IntKind.i64) (x61)), (Go.Value.int (IntKind.i64) (x62)), (Go.Value.int (IntKind.i64) (x63)), (Go.Value.int (IntKind.i64) (x64)), (Go.Value.bool (b65)), (Go.Value.slice (a66) (n67) (c68)), (Go.Value.string (t69))] (32 : Nat) ((0 : Nat), (0 : Nat))) fun r70 =>
          π.ret (Go.Value.slice (some (Addr.mk r70 (0 : Nat) none)) ((1 : Nat)) ((1 : Nat)))
        ) (
          π.ld [.int .i64, .int .i64, .int .i64, .int .i64, .int .i64, .int .i64, .int .i64, .bool, .slice, .str] (Addr.mk r17 (0 : Nat) none) fun ((x71 : Int), (x72 : Int), (x73 : Int), (x74 : Int), (x75 : Int), (x76 : Int), (x77 : Int), (b78 : Bool), ((a79 : Option Addr), (n80 : Nat), (c81 : Nat)), (t82 : ByteArray), _) =>
          π.nw (Go.Obj.cells #[(Go.Value.int (IntKind.i64) (x71)), (Go.Value.int (IntKind.i64) (x72)), (Go.Value.int (IntKind.i64) (x73)), (Go.Value.int (IntKind.i64) (x74)), (Go.Value.int (IntKind.i64) (x75)), (Go.Value.int (IntKind.i64) (x76)), (Go.Value.int (IntKind.i64) (x77)), (Go.Value.bool (b78)), (Go.Value.slice (a79) (n80) (c81)), (Go.Value.string (t82))] (32 : Nat) ((0 : Nat), (0 : Nat))) fun r83 =>
          π.ret (Go.Value.slice (some (Addr.mk r83 (0 : Nat) none)) ((1 : Nat)) ((1 : Nat)))
        )
      ) (
        π.st ((Addr.mk r17 (0 : Nat) none).add (7 : Nat)) [(Go.Value.bool (false))] <|
        π.ld [.bool] ((Addr.mk r17 (0 : Nat) none).add (7 : Nat)) fun ((b84 : Bool), _) =>
        π.ite (b84) (
          π.ld [.int .i64] ((Addr.mk r0 (0 : Nat) none).add (1 : Nat)) fun ((x85 : Int), _) =>
          π.unSome (some (Addr.mk b (0 : Nat) none)) fun p86 =>
          π.st ((p86.add (2 : Nat)).add (1 : Nat)) [(Go.Value.int (IntKind.i64) (x85))] <|
          π.unSome (some (Addr.mk b (0 : Nat) none)) fun p87 =>
          π.st (p87.add (15 : Nat)) [(Go.Value.bool (true))] <|
          π.ld [.int .i64, .int .i64, .int .i64, .int .i64, .int .i64, .int .i64, .int .i64, .bool, .slice, .str] (Addr.mk r17 (0 : Nat) none) fun ((x88 : Int), (x89 : Int), (x90 : Int), (x91 : Int), (x92 : Int), (x93 : Int), (x94 : Int), (b95 : Bool), ((a96 : Option Addr), (n97 : Nat), (c98 : Nat)), (t99 : ByteArray), _) =>
          π.nw (Go.Obj.cells #[(Go.Value.int (IntKind.i64) (x88)), (Go.Value.int (IntKind.i64) (x89)), (Go.Value.int (IntKind.i64) (x90)), (Go.Value.int (IntKind.i64) (x91)), (Go.Value.int (IntKind.i64) (x92)), (Go.Value.int (IntKind.i64) (x93)), (Go.Value.int (IntKind.i64) (x94)), (Go.Value.bool (b95)), (Go.Value.slice (a96) (n97) (c98)), (Go.Value.string (t99))] (32 : Nat) ((0 : Nat), (0 : Nat))) fun r100 =>
          π.ret (Go.Value.slice (some (Addr.mk r100 (0 : Nat) none)) ((1 : Nat)) ((1 : Nat)))
        ) (
          π.ld [.int .i64, .int .i64, .int .i64, .int .i64, .int .i64, .int .i64, .int .i64, .bool, .slice, .str] (Addr.mk r17 (0 : Nat) none) fun ((x101 : Int), (x102 : Int), (x103 : Int), (x104 : Int), (x105 : Int), (x106 : Int), (x107 : Int), (b108 : Bool), ((a109 : Option Addr), (n110 : Nat), (c111 : Nat)), (t112 : ByteArray), _) =>
          π.nw (Go.Obj.cells #[(Go.Value.int (IntKind.i64) (x101)), (Go.Value.int (IntKind.i64) (x102)), (Go.Value.int (IntKind.i64) (x103)), (Go.Value.int (IntKind.i64) (x104)), (Go.Value.int (IntKind.i64) (x105)), (Go.Value.int (IntKind.i64) (x106)), (Go.Value.int (IntKind.i64) (x107)), (Go.Value.bool (b108)), (Go.Value.slice (a109) (n110) (c111)), (Go.Value.string (t112))] (32 : Nat) ((0 : Nat), (0 : Nat))) fun r113 =>
          π.ret (Go.Value.slice (some (Addr.mk r113 (0 : Nat) none)) ((1 : Nat)) ((1 : Nat)))
        )
      )
    )
  ) (
    π.unSome (some (Addr.mk b (0 : Nat) none)) fun p114 =>
    π.ld [.int .i64] ((p114.add (2 : Nat)).add (1 : Nat)) fun ((x115 : Int), _) =>
    π.ld [.int .i64] ((Addr.mk r0 (0 : Nat) none).add (1 : Nat)) fun ((x116 : Int), _) =>
    π.ite (x115 == x116) (
      π.ld [.int .i64] ((Addr.mk r0 (0 : Nat) none).add (5 : Nat)) fun ((x117 : Int), _) =>
      π.ite (decide (x117 > x2)) (
        π.st ((Addr.mk r17 (0 : Nat) none).add (7 : Nat)) [(Go.Value.bool (true))] <|
        π.ld [.bool] ((Addr.mk r17 (0 : Nat) none).add (7 : Nat)) fun ((b118 : Bool), _) =>
        π.ite (b118) (
          π.ld [.int .i64] ((Addr.mk r0 (0 : Nat) none).add (1 : Nat)) fun ((x119 : Int), _) =>
          π.unSome (some (Addr.mk b (0 : Nat) none)) fun p120 =>
          π.st ((p120.add (2 : Nat)).add (1 : Nat)) [(Go.Value.int (IntKind.i64) (x119))] <|
          π.unSome (some (Addr.mk b (0 : Nat) none)) fun p121 =>
          π.st (p121.add (15 : Nat)) [(Go.Value.bool (true))] <|
          π.ld [.int .i64, .int .i64, .int .i64, .int .i64, .int .i64, .int .i64, .int .i64, .bool, .slice, .str] (Addr.mk r17 (0 : Nat) none) fun ((x122 : Int), (x123 : Int), (x124 : Int), (x125 : Int), (x126 : Int), (x127 : Int), (x128 : Int), (b129 : Bool), ((a130 : Option Addr), (n131 : Nat), (c132 : Nat)), (t133 : ByteArray), _) =>
          π.nw (Go.Obj.cells #[(Go.Value.int (IntKind.i64) (x122)), (Go.Value.int (IntKind.i64) (x123)), (Go.Value.int (IntKind.i64) (x124)), (Go.Value.int (IntKind.i64) (x125)), (Go.Value.int (IntKind.i64) (x126)), (Go.Value.int (IntKind.i64) (x127)), (Go.Value.int (IntKind.i64) (x128)), (Go.Value.bool (b129)), (Go.Value.slice (a130) (n131) (c132)), (Go.Value.string (t133))] (32 : Nat) ((0 : Nat), (0 : Nat))) fun r134 =>
          π.ret (Go.Value.slice (some (Addr.mk r134 (0 : Nat) none)) ((1 : Nat)) ((1 : Nat)))
        ) (
          π.ld [.int .i64, .int .i64, .int .i64, .int .i64, .int .i64, .int .i64, .int .i64, .bool, .slice, .str] (Addr.mk r17 (0 : Nat) none) fun ((x135 : Int), (x136 : Int), (x137 : Int), (x138 : Int), (x139 : Int), (x140 : Int), (x141 : Int), (b142 : Bool), ((a143 : Option Addr), (n144 : Nat), (c145 : Nat)), (t146 : ByteArray), _) =>
          π.nw (Go.Obj.cells #[(Go.Value.int (IntKind.i64) (x135)), (Go.Value.int (IntKind.i64) (x136)), (Go.Value.int (IntKind.i64) (x137)), (Go.Value.int (IntKind.i64) (x138)), (Go.Value.int (IntKind.i64) (x139)), (Go.Value.int (IntKind.i64) (x140)), (Go.Value.int (IntKind.i64) (x141)), (Go.Value.bool (b142)), (Go.Value.slice (a143) (n144) (c145)), (Go.Value.string (t146))] (32 : Nat) ((0 : Nat), (0 : Nat))) fun r147 =>
          π.ret (Go.Value.slice (some (Addr.mk r147 (0 : Nat) none)) ((1 : Nat)) ((1 : Nat)))
        )
      ) (
        π.ld [.int .i64] ((Addr.mk r0 (0 : Nat) none).add (5 : Nat)) fun ((x148 : Int), _) =>
        π.ite (x148 == x2) (
          π.ld [.int .i64] ((Addr.mk r0 (0 : Nat) none).add (4 : Nat)) fun ((x149 : Int), _) =>
          π.callQ (26 : Nat) #[(Go.Value.pointer (some (Addr.mk b (0 : Nat) none)))] (false, [(false, [.int .i64])]) fun (((x150 : Int), _), _) =>
          π.st ((Addr.mk r17 (0 : Nat) none).add (7 : Nat)) [(Go.Value.bool (decide (x149 ≥ x150)))] <|
          π.ld [.bool] ((Addr.mk r17 (0 : Nat) none).add (7 : Nat)) fun ((b151 : Bool), _) =>
          π.ite (b151) (
            π.ld [.int .i64] ((Addr.mk r0 (0 : Nat) none).add (1 : Nat)) fun ((x152 : Int), _) =>
            π.unSome (some (Addr.mk b (0 : Nat) none)) fun p153 =>
            π.st ((p153.add (2 : Nat)).add (1 : Nat)) [(Go.Value.int (IntKind.i64) (x152))] <|
            π.unSome (some (Addr.mk b (0 : Nat) none)) fun p154 =>
            π.st (p154.add (15 : Nat)) [(Go.Value.bool (true))] <|
            π.ld [.int .i64, .int .i64, .int .i64, .int .i64, .int .i64, .int .i64, .int .i64, .bool, .slice, .str] (Addr.mk r17 (0 : Nat) none) fun ((x155 : Int), (x156 : Int), (x157 : Int), (x158 : Int), (x159 : Int), (x160 : Int), (x161 : Int), (b162 : Bool), ((a163 : Option Addr), (n164 : Nat), (c165 : Nat)), (t166 : ByteArray), _) =>
            π.nw (Go.Obj.cells #[(Go.Value.int (IntKind.i64) (x155)), (Go.Value.int (IntKind.i64) (x156)), (Go.Value.int (IntKind.i64) (x157)), (Go.Value.int (IntKind.i64) (x158)), (Go.Value.int (IntKind.i64) (x159)), (Go.Value.int (IntKind.i64) (x160)), (Go.Value.int (IntKind.i64) (x161)), (Go.Value.bool (b162)), (Go.Value.slice (a163) (n164) (c165)), (Go.Value.string (t166))] (32 : Nat) ((0 : Nat), (0 : Nat))) fun r167 =>
            π.ret (Go.Value.slice (some (Addr.mk r167 (0 : Nat) none)) ((1 : Nat)) ((1 : Nat)))
          ) (
            π.ld [.int .i64, .int .i64, .int .i64, .int .i64, .int .i64, .int .i64, .int .i64, .bool, .slice, .str] (Addr.mk r17 (0 : Nat) none) fun ((x168 : Int), (x169 : Int), (x170 : Int), (x171 : Int), (x172 : Int), (x173 : Int), (x174 : Int), (b175 : Bool), ((a176 : Option Addr), (n177 : Nat), (c178 : Nat)), (t179 : ByteArray), _) =>
            π.nw (Go.Obj.cells #[(Go.Value.int (IntKind.i64) (x168)), (Go.Value.int (IntKind.i64) (x169)), (Go.Value.int (IntKind.i64) (x170)), (Go.Value.int (IntKind.i64) (x171)), (Go.Value.int (IntKind.i64) (x172)), (Go.Value.int (IntKind.i64) (x173)), (Go.Value.int (IntKind.i64) (x174)), (Go.Value.bool (b175)), (Go.Value.slice (a176) (n177) (c178)), (Go.Value.string (t179))] (32 : Nat) ((0 : Nat), (0 : Nat))) fun r180 =>
            π.ret (Go.Value.slice (some (Addr.mk r180 (0 : Nat) none)) ((1 : Nat)) ((1 : Nat)))
          )
        ) (
          π.st ((Addr.mk r17 (0 : Nat) none).add (7 : Nat)) [(Go.Value.bool (false))] <|
          π.ld [.bool] ((Addr.mk r17 (0 : Nat) none).add (7 : Nat)) fun ((b181 : Bool), _) =>
          π.ite (b181) (
            π.ld [.int .i64] ((Addr.mk r0 (0 : Nat) none).add (1 : Nat)) fun ((x182 : Int), _) =>
            π.unSome (some (Addr.mk b (0 : Nat) none)) fun p183 =>
            π.st ((p183.add (2 : Nat)).add (1 : Nat)) [(Go.Value.int (IntKind.i64) (x182))] <|
            π.unSome (some (Addr.mk b (0 : Nat) none)) fun p184 =>
            π.st (p184.add (15 : Nat)) [(Go.Value.bool (true))] <|
            π.ld [.int .i64, .int .i64, .int .i64, .int .i64, .int .i64, .int .i64, .int .i64, .bool, .slice, .str] (Addr.mk r17 (0 : Nat) none) fun ((x185 : Int), (x186 : Int), (x187 : Int), (x188 : Int), (x189 : Int), (x190 : Int), (x191 : Int), (b192 : Bool), ((a193 : Option Addr), (n194 : Nat), (c195 : Nat)), (t196 : ByteArray), _) =>
            π.nw (Go.Obj.cells #[(Go.Value.int (IntKind.i64) (x185)), (Go.Value.int (IntKind.i64) (x186)), (Go.Value.int (IntKind.i64) (x187)), (Go.Value.int (IntKind.i64) (x188)), (Go.Value.int (IntKind.i64) (x189)), (Go.Value.int (IntKind.i64) (x190)), (Go.Value.int (IntKind.i64) (x191)), (Go.Value.bool (b192)), (Go.Value.slice (a193) (n194) (c195)), (Go.Value.string (t196))] (32 : Nat) ((0 : Nat), (0 : Nat))) fun r197 =>
            π.ret (Go.Value.slice (some (Addr.mk r197 (0 : Nat) none)) ((1 : Nat)) ((1 : Nat)))
          ) (
            π.ld [.int .i64, .int .i64, .int .i64, .int .i64, .int .i64, .int .i64, .int .i64, .bool, .slice, .str] (Addr.mk r17 (0 : Nat) none) fun ((x198 : Int), (x199 : Int), (x200 : Int), (x201 : Int), (x202 : Int), (x203 : Int), (x204 : Int), (b205 : Bool), ((a206 : Option Addr), (n207 : Nat), (c208 : Nat)), (t209 : ByteArray), _) =>
            π.nw (Go.Obj.cells #[(Go.Value.int (IntKind.i64) (x198)), (Go.Value.int (IntKind.i64) (x199)), (Go.Value.int (IntKind.i64) (x200)), (Go.Value.int (IntKind.i64) (x201)), (Go.Value.int (IntKind.i64) (x202)), (Go.Value.int (IntKind.i64) (x203)), (Go.Value.int (IntKind.i64) (x204)), (Go.Value.bool (b205)), (Go.Value.slice (a206) (n207) (c208)), (Go.Value.string (t209))] (32 : Nat) ((0 : Nat), (0 : Nat))) fun r210 =>
            π.ret (Go.Value.slice (some (Addr.mk r210 (0 : Nat) none)) ((1 : Nat)) ((1 : Nat)))
          )
        )
      )
    ) (
      π.st ((Addr.mk r17 (0 : Nat) none).add (7 : Nat)) [(Go.Value.bool (false))] <|
      π.ld [.bool] ((Addr.mk r17 (0 : Nat) none).add (7 : Nat)) fun ((b211 : Bool), _) =>
      π.ite (b211) (
        π.ld [.int .i64] ((Addr.mk r0 (0 : Nat) none).add (1 : Nat)) fun ((x212 : Int), _) =>
        π.unSome (some (Addr.mk b (0 : Nat) none)) fun p213 =>
        π.st ((p213.add (2 : Nat)).add (1 : Nat)) [(Go.Value.int (IntKind.i64) (x212))] <|
        π.unSome (some (Addr.mk b (0 : Nat) none)) fun p214 =>
        π.st (p214.add (15 : Nat)) [(Go.Value.bool (true))] <|
        π.ld [.int .i64, .int .i64, .int .i64, .int .i64, .int .i64, .int .i64, .int .i64, .bool, .slice, .str] (Addr.mk r17 (0 : Nat) none) fun ((x215 : Int), (x216 : Int), (x217 : Int), (x218 : Int), (x219 : Int), (x220 : Int), (x221 : Int), (b222 : Bool), ((a223 : Option Addr), (n224 : Nat), (c225 : Nat)), (t226 : ByteArray), _) =>
        π.nw (Go.Obj.cells #[(Go.Value.int (IntKind.i64) (x215)), (Go.Value.int (IntKind.i64) (x216)), (Go.Value.int (IntKind.i64) (x217)), (Go.Value.int (IntKind.i64) (x218)), (Go.Value.int (IntKind.i64) (x219)), (Go.Value.int (IntKind.i64) (x220)), (Go.Value.int (IntKind.i64) (x221)), (Go.Value.bool (b222)), (Go.Value.slice (a223) (n224) (c225)), (Go.Value.string (t226))] (32 : Nat) ((0 : Nat), (0 : Nat))) fun r227 =>
        π.ret (Go.Value.slice (some (Addr.mk r227 (0 : Nat) none)) ((1 : Nat)) ((1 : Nat)))
      ) (
        π.ld [.int .i64, .int .i64, .int .i64, .int .i64, .int .i64, .int .i64, .int .i64, .bool, .slice, .str] (Addr.mk r17 (0 : Nat) none) fun ((x228 : Int), (x229 : Int), (x230 : Int), (x231 : Int), (x232 : Int), (x233 : Int), (x234 : Int), (b235 : Bool), ((a236 : Option Addr), (n237 : Nat), (c238 : Nat)), (t239 : ByteArray), _) =>
        π.nw (Go.Obj.cells #[(Go.Value.int (IntKind.i64) (x228)), (Go.Value.int (IntKind.i64) (x229)), (Go.Value.int (IntKind.i64) (x230)), (Go.Value.int (IntKind.i64) (x231)), (Go.Value.int (IntKind.i64) (x232)), (Go.Value.int (IntKind.i64) (x233)), (Go.Value.int (IntKind.i64) (x234)), (Go.Value.bool (b235)), (Go.Value.slice (a236) (n237) (c238)), (Go.Value.string (t239))] (32 : Nat) ((0 : Nat), (0 : Nat))) fun r240 =>
        π.ret (Go.Value.slice (some (Addr.mk r240 (0 : Nat) none)) ((1 : Nat)) ((1 : Nat)))
      )
    )
  )

def ann_asked : Ann := { draws := [(3, { A := [0, 1, 2, 3, 4, 5, 6, 7, 8, 9, 10, 11, 12, 13, 14, 15, 16, 17, 18, 19, 20, 21, 22, 23, 24, 25, 26, 27, 28, 29, 30, 31, 32, 33, 34, 35], quiet := [30] })], join := [], loop := [] }
set_option maxRecDepth 100000 in
theorem eq_asked {W : Type} (π : Prims W) (b : Nat) (mk mf mt mm mi mp mc : Int) (mg : Bool) (la : Option Addr) (ln lc : Nat) (ms : ByteArray) : bodyW π Try.prog ann_asked (mkFr (maskA [] [.v (.pointer (some ⟨b, 0, none⟩)), .v (.agg #[.int .i64 mk, .int .i64 mf, .int .i64 mt, .int .i64 mm, .int .i64 mi, .int .i64 mp, .int .i64 mc, .bool mg, .slice la ln lc, .string ms])] 0) 68) Try.f47 (bodyOf Try.f47) (mkFr (List.map some [.v (.pointer (some ⟨b, 0, none⟩)), .v (.agg #[.int .i64 mk, .int .i64 mf, .int .i64 mt, .int .i64 mm, .int .i64 mi, .int .i64 mp, .int .i64 mc, .bool mg, .slice la ln lc, .string ms])]) 68) = vc_asked π b mk mf mt mm mi mp mc mg la ln lc ms := by kernel_rfl
theorem ok_asked (b : Nat) (mk mf mt mm mi mp mc : Int) (mg : Bool) (la : Option Addr) (ln lc : Nat) (ms : ByteArray) (R : Value → PH → Prop) (s : PH) (h : vc_asked (RP Try.prog R) b mk mf mt mm mi mp mc mg la ln lc ms s) : DCalls Try.prog 47 (List.map AV.val [.v (.pointer (some ⟨b, 0, none⟩)), .v (.agg #[.int .i64 mk, .int .i64 mf, .int .i64 mt, .int .i64 mm, .int .i64 mi, .int .i64 mp, .int .i64 mc, .bool mg, .slice la ln lc, .string ms])]).toArray s R :=
  calls_vc (c := bodyOf Try.f47) (ann := ann_asked) (by kernel_rfl) Try.func47 rfl (by kernel_rfl) [.v (.pointer (some ⟨b, 0, none⟩)), .v (.agg #[.int .i64 mk, .int .i64 mf, .int .i64 mt, .int .i64 mm, .int .i64 mi, .int .i64 mp, .int .i64 mc, .bool mg, .slice la ln lc, .string ms])] [] (by rw [Try.ntmps47]; exact Nat.le_of_ble_eq_true rfl) (by rw [show Try.f47.ntmps = 68 from Try.ntmps47, eq_asked]; exact h)

/-- (*lintel/ballot.Ballot).voted -/
def vc_voted {W : Type} (π : Prims W) (b : Nat) (mk mf mt mm mi mp mc : Int) (mg : Bool) (la : Option Addr) (ln lc : Nat) (ms : ByteArray) : W :=
  π.nw (Go.Obj.cells #[(Go.Value.int (IntKind.i64) (mk)), (Go.Value.int (IntKind.i64) (mf)), (Go.Value.int (IntKind.i64) (mt)), (Go.Value.int (IntKind.i64) (mm)), (Go.Value.int (IntKind.i64) (mi)), (Go.Value.int (IntKind.i64) (mp)), (Go.Value.int (IntKind.i64) (mc)), (Go.Value.bool (mg)), (Go.Value.slice (la) (ln) (lc)), (Go.Value.string (ms))] (32 : Nat) ((0 : Nat), (0 : Nat))) fun r0 =>
  π.join [(false, [.addr])] (fun J1 =>
    π.unSome (some (Addr.mk b (0 : Nat) none)) fun p2 =>
    π.ld [.int .i64] ((p2.add (2 : Nat)).add (2 : Nat)) fun ((x3 : Int), _) =>
    π.ite (x3 != (1 : Int)) (
      π.ret (Go.Value.slice (none) ((0 : Nat)) ((0 : Nat)))
    ) (
      π.ld [.bool] ((Addr.mk r0 (0 : Nat) none).add (7 : Nat)) fun ((b4 : Bool), _) =>
      π.ite (!b4) (
        π.ret (Go.Value.slice (none) ((0 : Nat)) ((0 : Nat)))
      ) (
        J1 ((Addr.mk r0 (0 : Nat) none, ()), ())
      )
    )
  ) (fun ((p5, _), _) =>
    π.unSome (some (Addr.mk b (0 : Nat) none)) fun p6 =>
    π.ld [.slice] (p6.add (12 : Nat)) fun (((a7 : Option Addr), (n8 : Nat), (c9 : Nat)), _) =>
    π.ld [.int .i64] (p5.add (1 : Nat)) fun ((x10 : Int), _) =>
    π.guard ((0 : Int) ≤ x10 ∧ x10 < (↑n8 : Int)) <|
    π.unSome (a7) fun p11 =>
    π.st (p11.add (x10.toNat * (1 : Nat))) [(Go.Value.bool (true))] <|
    π.call (43 : Nat) #[(Go.Value.pointer (some (Addr.mk b (0 : Nat) none)))] (false, [(false, [.slice])]) fun ((((a12 : Option Addr), (n13 : Nat), (c14 : Nat)), _), _) =>
    π.ret (Go.Value.slice (a12) (n13) (c14))
  )

def ann_voted : Ann := { draws := [(3, { A := [0, 1, 2, 3, 4, 5, 6] })], join := [(3, [(3, 1000000)])], loop := [] }
set_option maxRecDepth 100000 in
theorem eq_voted {W : Type} (π : Prims W) (b : Nat) (mk mf mt mm mi mp mc : Int) (mg : Bool) (la : Option Addr) (ln lc : Nat) (ms : ByteArray) : bodyW π Try.prog ann_voted (mkFr (maskA [] [.v (.pointer (some ⟨b, 0, none⟩)), .v (.agg #[.int .i64 mk, .int .i64 mf, .int .i64 mt, .int .i64 mm, .int .i64 mi, .int .i64 mp, .int .i64 mc, .bool mg, .slice la ln lc, .string ms])] 0) 25) Try.f48 (bodyOf Try.f48) (mkFr (List.map some [.v (.pointer (some ⟨b, 0, none⟩)), .v (.agg #[.int .i64 mk, .int .i64 mf, .int .i64 mt, .int .i64 mm, .int .i64 mi, .int .i64 mp, .int .i64 mc, .bool mg, .slice la ln lc, .string ms])]) 25) = vc_voted π b mk mf mt mm mi mp mc mg la ln lc ms := by kernel_rfl
theorem ok_voted (b : Nat) (mk mf mt mm mi mp mc : Int) (mg : Bool) (la : Option Addr) (ln lc : Nat) (ms : ByteArray) (R : Value → PH → Prop) (s : PH) (h : vc_voted (RP Try.prog R) b mk mf mt mm mi mp mc mg la ln lc ms s) : DCalls Try.prog 48 (List.map AV.val [.v (.pointer (some ⟨b, 0, none⟩)), .v (.agg #[.int .i64 mk, .int .i64 mf, .int .i64 mt, .int .i64 mm, .int .i64 mi, .int .i64 mp, .int .i64 mc, .bool mg, .slice la ln lc, .string ms])]).toArray s R :=
  calls_vc (c := bodyOf Try.f48) (ann := ann_voted) (by kernel_rfl) Try.func48 rfl (by kernel_rfl) [.v (.pointer (some ⟨b, 0, none⟩)), .v (.agg #[.int .i64 mk, .int .i64 mf, .int .i64 mt, .int .i64 mm, .int .i64 mi, .int .i64 mp, .int .i64 mc, .bool mg, .slice la ln lc, .string ms])] [] (by rw [Try.ntmps48]; exact Nat.le_of_ble_eq_true rfl) (by rw [show Try.f48.ntmps = 25 from Try.ntmps48, eq_voted]; exact h)

/-- (*lintel/ballot.Ballot).fed -/
def vc_fed {W : Type} (π : Prims W) (b : Nat) (mk mf mt mm mi mp mc : Int) (mg : Bool) (la : Option Addr) (ln lc : Nat) (ms : ByteArray) : W :=
  π.nw (Go.Obj.cells #[(Go.Value.int (IntKind.i64) (mk)), (Go.Value.int (IntKind.i64) (mf)), (Go.Value.int (IntKind.i64) (mt)), (Go.Value.int (IntKind.i64) (mm)), (Go.Value.int (IntKind.i64) (mi)), (Go.Value.int (IntKind.i64) (mp)), (Go.Value.int (IntKind.i64) (mc)), (Go.Value.bool (mg)), (Go.Value.slice (la) (ln) (lc)), (Go.Value.string (ms))] (32 : Nat) ((0 : Nat), (0 : Nat))) fun r0 =>
  π.unSome (some (Addr.mk b (0 : Nat) none)) fun p1 =>
  π.ld [.int .i64] ((p1.add (2 : Nat)).add (2 : Nat)) fun ((x2 : Int), _) =>
  π.ite (x2 == (2 : Int)) (
    π.ret (Go.Value.slice (none) ((0 : Nat)) ((0 : Nat)))
  ) (
    π.ld [.int .i64] ((Addr.mk r0 (0 : Nat) none).add (1 : Nat)) fun ((x3 : Int), _) =>
    π.unSome (some (Addr.mk b (0 : Nat) none)) fun p4 =>
    π.st ((p4.add (2 : Nat)).add (2 : Nat)) [(Go.Value.int (IntKind.i64) ((0 : Int)))] <|
    π.still [.int .i64] ((Addr.mk r0 (0 : Nat) none).add (1 : Nat)) (x3, ()) <|
    π.unSome (some (Addr.mk b (0 : Nat) none)) fun p5 =>
    π.st ((p5.add (2 : Nat)).add (3 : Nat)) [(Go.Value.int (IntKind.i64) (x3))] <|
    π.ld [.int .i64] ((Addr.mk r0 (0 : Nat) none).add (4 : Nat)) fun ((x6 : Int), _) =>
    π.ld [.slice] ((Addr.mk r0 (0 : Nat) none).add (8 : Nat)) fun (((a7 : Option Addr), (n8 : Nat), (c9 : Nat)), _) =>
    π.unSome (some (Addr.mk b (0 : Nat) none)) fun p10 =>
    π.ld [.int .i64] ((p10.add (2 : Nat)).add (6 : Nat)) fun ((x11 : Int), _) =>
    π.ite (decide (IntKind.i64.wrap (x6 + (↑n8 : Int)) ≤ x11)) (
      π.ld [.int .i64] ((Addr.mk r0 (0 : Nat) none).add (1 : Nat)) fun ((x12 : Int), _) =>
      π.call (46 : Nat) #[(Go.Value.pointer (some (Addr.mk b (0 : Nat) none))), (Go.Value.int (IntKind.i64) (x12)), (Go.Value.bool (true)), (Go.Value.int (IntKind.i64) (IntKind.i64.wrap (x6 + (↑n8 : Int))))] (false, [(false, [.slice])]) fun ((((a13 : Option Addr), (n14 : Nat), (c15 : Nat)), _), _) =>
      π.ret (Go.Value.slice (a13) (n14) (c15))
    ) (
      π.ld [.slice] ((Addr.mk r0 (0 : Nat) none).add (8 : Nat)) fun (((a16 : Option Addr), (n17 : Nat), (c18 : Nat)), _) =>
      π.ld [.int .i64] ((Addr.mk r0 (0 : Nat) none).add (4 : Nat)) fun ((x19 : Int), _) =>
      π.join [(false, [.addr]), (false, [.int .i64]), (false, [.slice]), (false, [.int .i64])] (fun J20 =>
        π.unSome (some (Addr.mk b (0 : Nat) none)) fun p21 =>
        π.ld [.int .i64] ((p21.add (2 : Nat)).add (6 : Nat)) fun ((x22 : Int), _) =>
        π.ite (decide (x19 < x22)) (
          π.unSome (some (Addr.mk b (0 : Nat) none)) fun p23 =>
          π.ld [.int .i64] ((p23.add (2 : Nat)).add (6 : Nat)) fun ((x24 : Int), _) =>
          π.guard ((0 : Int) ≤ IntKind.i64.wrap (x24 - x19) ∧ IntKind.i64.wrap (x24 - x19) ≤ (↑n17 : Int) ∧ (↑n17 : Int) ≤ (↑c18 : Int)) <|
          π.unSome (some (Addr.mk b (0 : Nat) none)) fun p25 =>
          π.ld [.int .i64] ((p25.add (2 : Nat)).add (6 : Nat)) fun ((x26 : Int), _) =>
          J20 ((Addr.mk r0 (0 : Nat) none, ()), (IntKind.i64.wrap (x6 + (↑n8 : Int)), ()), ((if c18 = (IntKind.i64.wrap (x24 - x19)).toNat then a16 else Option.map (fun x => x.add ((IntKind.i64.wrap (x24 - x19)).toNat * (4 : Nat))) a16, (↑n17 : Int).toNat - (IntKind.i64.wrap (x24 - x19)).toNat, c18 - (IntKind.i64.wrap (x24 - x19)).toNat), ()), (x26, ()), ())
        ) (
          π.call (55 : Nat) #[(Go.Value.pointer (some (Addr.mk b (0 : Nat) none))), (Go.Value.int (IntKind.i64) (x19))] (true, [(false, [.int .i64]), (false, [.bool])]) fun (((x27 : Int), _), ((b28 : Bool), _), _) =>
          π.join [(false, [.addr]), (false, [.int .i64]), (false, [.slice]), (false, [.int .i64]), (false, [.bool])] (fun J29 =>
            π.ite (!b28) (
              J29 ((Addr.mk r0 (0 : Nat) none, ()), (IntKind.i64.wrap (x6 + (↑n8 : Int)), ()), ((a16, n17, c18), ()), (x19, ()), (true, ()), ())
            ) (
              π.ld [.int .i64] ((Addr.mk r0 (0 : Nat) none).add (5 : Nat)) fun ((x30 : Int), _) =>
              J29 ((Addr.mk r0 (0 : Nat) none, ()), (IntKind.i64.wrap (x6 + (↑n8 : Int)), ()), ((a16, n17, c18), ()), (x19, ()), (x27 != x30, ()), ())
            )
          ) (fun ((p31, _), ((x32 : Int), _), (((a33 : Option Addr), (n34 : Nat), (c35 : Nat)), _), ((x36 : Int), _), ((b37 : Bool), _), _) =>
            π.ite (b37) (
              π.ld [.int .i64] (p31.add (1 : Nat)) fun ((x38 : Int), _) =>
              π.callQ (26 : Nat) #[(Go.Value.pointer (some (Addr.mk b (0 : Nat) none)))] (false, [(false, [.int .i64])]) fun (((x39 : Int), _), _) =>
              π.call (46 : Nat) #[(Go.Value.pointer (some (Addr.mk b (0 : Nat) none))), (Go.Value.int (IntKind.i64) (x38)), (Go.Value.bool (false)), (Go.Value.int (IntKind.i64) (if IntKind.i64.wrap (x36 - (1 : Int)) < x39 then IntKind.i64.wrap (x36 - (1 : Int)) else x39))] (false, [(false, [.slice])]) fun ((((a40 : Option Addr), (n41 : Nat), (c42 : Nat)), _), _) =>
              π.ret (Go.Value.slice (a40) (n41) (c42))
            ) (
              J20 ((p31, ()), (x32, ()), ((a33, n34, c35), ()), (x36, ()), ())
            )
          )
        )
      ) (fun ((p43, _), ((x44 : Int), _), (((a45 : Option Addr), (n46 : Nat), (c47 : Nat)), _), ((x48 : Int), _), _) =>
        π.join [(false, [.addr]), (false, [.int .i64])] (fun J49 =>
          π.loop [(false, [.addr]), (false, [.int .i64]), (false, [.slice]), (false, [.int .i64]), (false, [.slice]), (false, [.int .i64]), (false, [.int .i64])] ((p43, ()), (x44, ()), ((a45, n46, c47), ()), (x48, ()), ((a45, n46, c47), ()), ((↑n46 : Int), ()), ((0 : Int), ()), ()) fun ((p51, _), ((x52 : Int), _), (((a53 : Option Addr), (n54 : Nat), (c55 : Nat)), _), ((x56 : Int), _), (((a57 : Option Addr), (n58 : Nat), (c59 : Nat)), _), ((x60 : Int), _), ((x61 : Int), _), _) again50 =>
            π.ite (decide (x61 < x60)) (
              π.guard ((0 : Int) ≤ x61 ∧ x61 < (↑n58 : Int)) <|
              π.unSome (a57) fun p62 =>
              π.ld [.int .i64, .int .i64, .int .i64, .str] (p62.add (x61.toNat * (4 : Nat))) fun ((x63 : Int), (x64 : Int), (x65 : Int), (t66 : ByteArray), _) =>
              π.nw (Go.Obj.cells #[(Go.Value.int (IntKind.i64) ((0 : Int))), (Go.Value.int (IntKind.i64) ((0 : Int))), (Go.Value.int (IntKind.i64) ((0 : Int))), (Go.Value.string (ByteArray.mk #[]))] (39 : Nat) ((0 : Nat), (0 : Nat))) fun r67 =>
              π.st (Addr.mk r67 (0 : Nat) none) [(Go.Value.int (IntKind.i64) (x63)), (Go.Value.int (IntKind.i64) (x64)), (Go.Value.int (IntKind.i64) (x65)), (Go.Value.string (t66))] <|
              π.call (55 : Nat) #[(Go.Value.pointer (some (Addr.mk b (0 : Nat) none))), (Go.Value.int (IntKind.i64) (IntKind.i64.wrap (IntKind.i64.wrap (x56 + (1 : Int)) + x61)))] (true, [(false, [.int .i64]), (false, [.bool])]) fun (((x68 : Int), _), ((b69 : Bool), _), _) =>
              π.ite (!b69) (
                π.guard ((0 : Int) ≤ x61 ∧ x61 ≤ (↑n54 : Int) ∧ (↑n54 : Int) ≤ (↑c55 : Int)) <|
                π.call (53 : Nat) #[(Go.Value.pointer (some (Addr.mk b (0 : Nat) none))), (Go.Value.int (IntKind.i64) (IntKind.i64.wrap (IntKind.i64.wrap (x56 + (1 : Int)) + x61))), (Go.Value.slice (if c55 = x61.toNat then a53 else Option.map (fun x => x.add (x61.toNat * (4 : Nat))) a53) ((↑n54 : Int).toNat - x61.toNat) (c55 - x61.toNat))] (true, []) fun (_) =>
                J49 ((p51, ()), (x52, ()), ())
              ) (
                π.ld [.int .i64] ((Addr.mk r67 (0 : Nat) none).add (0 : Nat)) fun ((x70 : Int), _) =>
                π.ite (x68 != x70) (
                  π.guard ((0 : Int) ≤ x61 ∧ x61 ≤ (↑n54 : Int) ∧ (↑n54 : Int) ≤ (↑c55 : Int)) <|
                  π.call (53 : Nat) #[(Go.Value.pointer (some (Addr.mk b (0 : Nat) none))), (Go.Value.int (IntKind.i64) (IntKind.i64.wrap (IntKind.i64.wrap (x56 + (1 : Int)) + x61))), (Go.Value.slice (if c55 = x61.toNat then a53 else Option.map (fun x => x.add (x61.toNat * (4 : Nat))) a53) ((↑n54 : Int).toNat - x61.toNat) (c55 - x61.toNat))] (true, []) fun (_) =>
                  J49 ((p51, ()), (x52, ()), ())
                ) (
                  again50 ((p51, ()), (x52, ()), ((a53, n54, c55), ()), (x56, ()), ((a57, n58, c59), ()), (x60, ()), (IntKind.i64.wrap (x61 + (1 : Int)), ()), ())
                )
              )
            ) (
              J49 ((p51, ()), (x52, ()), ())
            )
        ) (fun ((p71, _), ((x72 : Int), _), _) =>
          π.unSome (some (Addr.mk b (0 : Nat) none)) fun p73 =>
          π.ld [.int .i64] ((p73.add (2 : Nat)).add (6 : Nat)) fun ((x74 : Int), _) =>
          π.ld [.int .i64] (p71.add (6 : Nat)) fun ((x75 : Int), _) =>
          π.unSome (some (Addr.mk b (0 : Nat) none)) fun p76 =>
          π.st ((p76.add (2 : Nat)).add (6 : Nat)) [(Go.Value.int (IntKind.i64) (if (if x72 < x75 then x72 else x75) > x74 then if x72 < x75 then x72 else x75 else x74))] <|
          π.ld [.int .i64] (p71.add (1 : Nat)) fun ((x77 : Int), _) =>
          π.call (46 : Nat) #[(Go.Value.pointer (some (Addr.mk b (0 : Nat) none))), (Go.Value.int (IntKind.i64) (x77)), (Go.Value.bool (true)), (Go.Value.int (IntKind.i64) (x72))] (false, [(false, [.slice])]) fun ((((a78 : Option Addr), (n79 : Nat), (c80 : Nat)), _), _) =>
          π.ret (Go.Value.slice (a78) (n79) (c80))
        )
      )
    )
  )

def ann_fed : Ann := { draws := [(3, { A := [0, 1, 2, 3, 4, 5, 6], chkL := [(7, [3])], eag := [8, 9, 10] }), (7, { A := [0, 1, 2, 3, 4, 5] }), (9, { A := [0, 1, 2, 3, 4, 5, 6, 7, 8, 9, 10, 11, 12, 13] }), (12, { A := [0, 1, 2, 3, 4, 5, 6, 7], quiet := [4], eag := [9] }), (20, { A := [0, 1, 2, 3, 4, 5, 6, 7, 8, 9, 10, 11, 12, 13] })], join := [(12, [(3, 1000000), (5, 3), (6, 30), (7, 3), (86, 4)]), (13, [(3, 1000000), (5, 3), (6, 30), (7, 3)]), (20, [(3, 1000000), (5, 3)])], loop := [(14, [(3, 1000000), (5, 3), (6, 30), (7, 3), (96, 30), (97, 3), (98, 3)])] }
set_option maxRecDepth 100000 in
theorem eq_fed {W : Type} (π : Prims W) (b : Nat) (mk mf mt mm mi mp mc : Int) (mg : Bool) (la : Option Addr) (ln lc : Nat) (ms : ByteArray) : bodyW π Try.prog ann_fed (mkFr (maskA [] [.v (.pointer (some ⟨b, 0, none⟩)), .v (.agg #[.int .i64 mk, .int .i64 mf, .int .i64 mt, .int .i64 mm, .int .i64 mi, .int .i64 mp, .int .i64 mc, .bool mg, .slice la ln lc, .string ms])] 0) 149) Try.f49 (bodyOf Try.f49) (mkFr (List.map some [.v (.pointer (some ⟨b, 0, none⟩)), .v (.agg #[.int .i64 mk, .int .i64 mf, .int .i64 mt, .int .i64 mm, .int .i64 mi, .int .i64 mp, .int .i64 mc, .bool mg, .slice la ln lc, .string ms])]) 149) = vc_fed π b mk mf mt mm mi mp mc mg la ln lc ms := by kernel_rfl
theorem ok_fed (b : Nat) (mk mf mt mm mi mp mc : Int) (mg : Bool) (la : Option Addr) (ln lc : Nat) (ms : ByteArray) (R : Value → PH → Prop) (s : PH) (h : vc_fed (RP Try.prog R) b mk mf mt mm mi mp mc mg la ln lc ms s) : DCalls Try.prog 49 (List.map AV.val [.v (.pointer (some ⟨b, 0, none⟩)), .v (.agg #[.int .i64 mk, .int .i64 mf, .int .i64 mt, .int .i64 mm, .int .i64 mi, .int .i64 mp, .int .i64 mc, .bool mg, .slice la ln lc, .string ms])]).toArray s R :=
  calls_vc (c := bodyOf Try.f49) (ann := ann_fed) (by kernel_rfl) Try.func49 rfl (by kernel_rfl) [.v (.pointer (some ⟨b, 0, none⟩)), .v (.agg #[.int .i64 mk, .int .i64 mf, .int .i64 mt, .int .i64 mm, .int .i64 mi, .int .i64 mp, .int .i64 mc, .bool mg, .slice la ln lc, .string ms])] [] (by rw [Try.ntmps49]; exact Nat.le_of_ble_eq_true rfl) (by rw [show Try.f49.ntmps = 149 from Try.ntmps49, eq_fed]; exact h)

/-- (*lintel/ballot.Ballot).heard -/
def vc_heard {W : Type} (π : Prims W) (b : Nat) (mk mf mt mm mi mp mc : Int) (mg : Bool) (la : Option Addr) (ln lc : Nat) (ms : ByteArray) : W :=
  π.nw (Go.Obj.cells #[(Go.Value.int (IntKind.i64) (mk)), (Go.Value.int (IntKind.i64) (mf)), (Go.Value.int (IntKind.i64) (mt)), (Go.Value.int (IntKind.i64) (mm)), (Go.Value.int (IntKind.i64) (mi)), (Go.Value.int (IntKind.i64) (mp)), (Go.Value.int (IntKind.i64) (mc)), (Go.Value.bool (mg)), (Go.Value.slice (la) (ln) (lc)), (Go.Value.string (ms))] (32 : Nat) ((0 : Nat), (0 : Nat))) fun r0 =>
  π.unSome (some (Addr.mk b (0 : Nat) none)) fun p1 =>
  π.ld [.int .i64] ((p1.add (2 : Nat)).add (2 : Nat)) fun ((x2 : Int), _) =>
  π.ite (x2 != (2 : Int)) (
    π.ret (Go.Value.slice (none) ((0 : Nat)) ((0 : Nat)))
  ) (
    π.ld [.int .i64] ((Addr.mk r0 (0 : Nat) none).add (1 : Nat)) fun ((x3 : Int), _) =>
    π.ld [.bool] ((Addr.mk r0 (0 : Nat) none).add (7 : Nat)) fun ((b4 : Bool), _) =>
    π.ite (!b4) (
      π.unSome (some (Addr.mk b (0 : Nat) none)) fun p5 =>
      π.ld [.slice] (p5.add (13 : Nat)) fun (((a6 : Option Addr), (n7 : Nat), (c8 : Nat)), _) =>
      π.unSome (some (Addr.mk b (0 : Nat) none)) fun p9 =>
      π.ld [.slice] (p9.add (14 : Nat)) fun (((a10 : Option Addr), (n11 : Nat), (c12 : Nat)), _) =>
      π.guard ((0 : Int) ≤ x3 ∧ x3 < (↑n11 : Int)) <|
      π.unSome (a10) fun p13 =>
      π.ld [.int .i64] (p13.add (x3.toNat * (1 : Nat))) fun ((x14 : Int), _) =>
      π.unSome (some (Addr.mk b (0 : Nat) none)) fun p15 =>
      π.ld [.slice] (p15.add (13 : Nat)) fun (((a16 : Option Addr), (n17 : Nat), (c18 : Nat)), _) =>
      π.guard ((0 : Int) ≤ x3 ∧ x3 < (↑n17 : Int)) <|
      π.unSome (a16) fun p19 =>
      π.ld [.int .i64] (p19.add (x3.toNat * (1 : Nat))) fun ((x20 : Int), _) =>
      π.ld [.int .i64] ((Addr.mk r0 (0 : Nat) none).add (4 : Nat)) fun ((x21 : Int), _) =>
      π.guard ((0 : Int) ≤ x3 ∧ x3 < (↑n7 : Int)) <|
      π.unSome (a6) fun p22 =>
      π.st (p22.add (x3.toNat * (1 : Nat))) [(Go.Value.int (IntKind.i64) (if (if IntKind.i64.wrap (x21 + (1 : Int)) < IntKind.i64.wrap (x20 - (1 : Int)) then IntKind.i64.wrap (x21 + (1 : Int)) else IntKind.i64.wrap (x20 - (1 : Int))) > IntKind.i64.wrap (x14 + (1 : Int)) then if IntKind.i64.wrap (x21 + (1 : Int)) < IntKind.i64.wrap (x20 - (1 : Int)) then IntKind.i64.wrap (x21 + (1 : Int)) else IntKind.i64.wrap (x20 - (1 : Int)) else IntKind.i64.wrap (x14 + (1 : Int))))] <|
      π.call (52 : Nat) #[(Go.Value.pointer (some (Addr.mk b (0 : Nat) none))), (Go.Value.int (IntKind.i64) (x3))] (false, [(true, [.int .i64, .int .i64, .int .i64, .int .i64, .int .i64, .int .i64, .int .i64, .bool, .slice, .str])]) fun (((x23 : Int), (x24 : Int), (x25 : Int), (x26 : Int), (x27 : Int), (x28 : Int), (x29 : Int), (b30 : Bool), ((a31 : Option Addr), (n32 : Nat), (c33 : Nat)), (t34 : ByteArray), _), _) =>
      π.nw (Go.Obj.cells #[(Go.Value.int (IntKind.i64) (x23)), (Go.Value.int (IntKind.i64) (x24)), (Go.Value.int (IntKind.i64) (x25)), (Go.Value.int (IntKind.i64) (x26)), (Go.Value.int (IntKind.i64) (x27)), (Go.Value.int (IntKind.i64) (x28)), (Go.Value.int (IntKind.i64) (x29)), (Go.Value.bool (b30)), (Go.Value.slice (a31) (n32) (c33)), (Go.Value.string (t34))] (32 : Nat) ((0 : Nat), (0 : Nat))) fun r35 =>
      π.ret (Go.Value.slice (some (Addr.mk r35 (0 : Nat) none)) ((1 : Nat)) ((1 : Nat)))
    ) (
      π.unSome (some (Addr.mk b (0 : Nat) none)) fun p36 =>
      π.ld [.slice] (p36.add (14 : Nat)) fun (((a37 : Option Addr), (n38 : Nat), (c39 : Nat)), _) =>
      π.guard ((0 : Int) ≤ x3 ∧ x3 < (↑n38 : Int)) <|
      π.unSome (a37) fun p40 =>
      π.ld [.int .i64] (p40.add (x3.toNat * (1 : Nat))) fun ((x41 : Int), _) =>
      π.unSome (some (Addr.mk b (0 : Nat) none)) fun p42 =>
      π.ld [.slice] (p42.add (14 : Nat)) fun (((a43 : Option Addr), (n44 : Nat), (c45 : Nat)), _) =>
      π.ld [.int .i64] ((Addr.mk r0 (0 : Nat) none).add (4 : Nat)) fun ((x46 : Int), _) =>
      π.callQ (26 : Nat) #[(Go.Value.pointer (some (Addr.mk b (0 : Nat) none)))] (false, [(false, [.int .i64])]) fun (((x47 : Int), _), _) =>
      π.guard ((0 : Int) ≤ x3 ∧ x3 < (↑n44 : Int)) <|
      π.unSome (a43) fun p48 =>
      π.st (p48.add (x3.toNat * (1 : Nat))) [(Go.Value.int (IntKind.i64) (if (if x47 < x46 then x47 else x46) > x41 then if x47 < x46 then x47 else x46 else x41))] <|
      π.unSome (some (Addr.mk b (0 : Nat) none)) fun p49 =>
      π.ld [.slice] (p49.add (13 : Nat)) fun (((a50 : Option Addr), (n51 : Nat), (c52 : Nat)), _) =>
      π.unSome (some (Addr.mk b (0 : Nat) none)) fun p53 =>
      π.ld [.slice] (p53.add (14 : Nat)) fun (((a54 : Option Addr), (n55 : Nat), (c56 : Nat)), _) =>
      π.guard ((0 : Int) ≤ x3 ∧ x3 < (↑n55 : Int)) <|
      π.unSome (a54) fun p57 =>
      π.ld [.int .i64] (p57.add (x3.toNat * (1 : Nat))) fun ((x58 : Int), _) =>
      π.guard ((0 : Int) ≤ x3 ∧ x3 < (↑n51 : Int)) <|
      π.unSome (a50) fun p59 =>
      π.st (p59.add (x3.toNat * (1 : Nat))) [(Go.Value.int (IntKind.i64) (IntKind.i64.wrap (x58 + (1 : Int))))] <|
      π.call (54 : Nat) #[(Go.Value.pointer (some (Addr.mk b (0 : Nat) none)))] (false, [(false, [.slice])]) fun ((((a60 : Option Addr), (n61 : Nat), (c62 : Nat)), _), _) =>
      π.unSome (some (Addr.mk b (0 : Nat) none)) fun p63 =>
      π.ld [.slice] (p63.add (14 : Nat)) fun (((a64 : Option Addr), (n65 : Nat), (c66 : Nat)), _) =>
      π.guard ((0 : Int) ≤ x3 ∧ x3 < (↑n65 : Int)) <|
      π.unSome (a64) fun p67 =>
      π.ld [.int .i64] (p67.add (x3.toNat * (1 : Nat))) fun ((x68 : Int), _) =>
      π.ite (decide (x68 > x41)) (
        π.unSome (some (Addr.mk b (0 : Nat) none)) fun p69 =>
        π.ld [.slice] (p69.add (13 : Nat)) fun (((a70 : Option Addr), (n71 : Nat), (c72 : Nat)), _) =>
        π.guard ((0 : Int) ≤ x3 ∧ x3 < (↑n71 : Int)) <|
        π.unSome (a70) fun p73 =>
        π.ld [.int .i64] (p73.add (x3.toNat * (1 : Nat))) fun ((x74 : Int), _) =>
        π.callQ (26 : Nat) #[(Go.Value.pointer (some (Addr.mk b (0 : Nat) none)))] (false, [(false, [.int .i64])]) fun (((x75 : Int), _), _) =>
        π.ite (decide (x74 ≤ x75)) (
          π.call (52 : Nat) #[(Go.Value.pointer (some (Addr.mk b (0 : Nat) none))), (Go.Value.int (IntKind.i64) (x3))] (false, [(true, [.int .i64, .int .i64, .int .i64, .int .i64, .int .i64, .int .i64, .int .i64, .bool, .slice, .str])]) fun (((x76 : Int), (x77 : Int), (x78 : Int), (x79 : Int), (x80 : Int), (x81 : Int), (x82 : Int), (b83 : Bool), ((a84 : Option Addr), (n85 : Nat), (c86 : Nat)), (t87 : ByteArray), _), _) =>
          π.nw (Go.Obj.cells #[(Go.Value.int (IntKind.i64) (x76)), (Go.Value.int (IntKind.i64) (x77)), (Go.Value.int (IntKind.i64) (x78)), (Go.Value.int (IntKind.i64) (x79)), (Go.Value.int (IntKind.i64) (x80)), (Go.Value.int (IntKind.i64) (x81)), (Go.Value.int (IntKind.i64) (x82)), (Go.Value.bool (b83)), (Go.Value.slice (a84) (n85) (c86)), (Go.Value.string (t87))] (32 : Nat) ((0 : Nat), (0 : Nat))) fun r88 =>
          π.app (32 : Nat) (10 : Nat) (104 : Nat) [(Go.Value.int (IntKind.i64) ((0 : Int))), (Go.Value.int (IntKind.i64) ((0 : Int))), (Go.Value.int (IntKind.i64) ((0 : Int))), (Go.Value.int (IntKind.i64) ((0 : Int))), (Go.Value.int (IntKind.i64) ((0 : Int))), (Go.Value.int (IntKind.i64) ((0 : Int))), (Go.Value.int (IntKind.i64) ((0 : Int))), (Go.Value.bool (false)), (Go.Value.slice (none) ((0 : Nat)) ((0 : Nat))), (Go.Value.string (ByteArray.mk #[]))] (a60) (n61) (c62) (Src.sl (some (Addr.mk r88 (0 : Nat) none)) (1 : Nat)) fun a89 n90 c91 =>
          π.ret (Go.Value.slice (a89) (n90) (c91))
        ) (
          π.ret (Go.Value.slice (a60) (n61) (c62))
        )
      ) (
        π.ret (Go.Value.slice (a60) (n61) (c62))
      )
    )
  )

def ann_heard : Ann := { draws := [(5, { A := [0, 1, 2, 3, 4, 5, 6, 7, 8, 9, 10, 11, 12, 13, 14, 15, 16, 17, 18, 19, 20, 21, 22, 23, 24, 25, 26] }), (8, { A := [0, 1, 2, 3, 4, 5, 6, 7, 8, 9, 10, 11, 12], quiet := [9] }), (9, { A := [0, 1, 2, 3, 4, 5, 6, 7, 8, 9, 10, 11, 12, 13] }), (11, { A := [0, 1, 2, 3, 4, 5, 6, 7, 8, 9, 10, 11, 12, 13, 14, 15, 16, 17, 18, 19, 20], quiet := [18] })], join := [], loop := [] }
set_option maxRecDepth 100000 in
theorem eq_heard {W : Type} (π : Prims W) (b : Nat) (mk mf mt mm mi mp mc : Int) (mg : Bool) (la : Option Addr) (ln lc : Nat) (ms : ByteArray) : bodyW π Try.prog ann_heard (mkFr (maskA [] [.v (.pointer (some ⟨b, 0, none⟩)), .v (.agg #[.int .i64 mk, .int .i64 mf, .int .i64 mt, .int .i64 mm, .int .i64 mi, .int .i64 mp, .int .i64 mc, .bool mg, .slice la ln lc, .string ms])] 0) 114) Try.f50 (bodyOf Try.f50) (mkFr (List.map some [.v (.pointer (some ⟨b, 0, none⟩)), .v (.agg #[.int .i64 mk, .int .i64 mf, .int .i64 mt, .int .i64 mm, .int .i64 mi, .int .i64 mp, .int .i64 mc, .bool mg, .slice la ln lc, .string ms])]) 114) = vc_heard π b mk mf mt mm mi mp mc mg la ln lc ms := by kernel_rfl
theorem ok_heard (b : Nat) (mk mf mt mm mi mp mc : Int) (mg : Bool) (la : Option Addr) (ln lc : Nat) (ms : ByteArray) (R : Value → PH → Prop) (s : PH) (h : vc_heard (RP Try.prog R) b mk mf mt mm mi mp mc mg la ln lc ms s) : DCalls Try.prog 50 (List.map AV.val [.v (.pointer (some ⟨b, 0, none⟩)), .v (.agg #[.int .i64 mk, .int .i64 mf, .int .i64 mt, .int .i64 mm, .int .i64 mi, .int .i64 mp, .int .i64 mc, .bool mg, .slice la ln lc, .string ms])]).toArray s R :=
  calls_vc (c := bodyOf Try.f50) (ann := ann_heard) (by kernel_rfl) Try.func50 rfl (by kernel_rfl) [.v (.pointer (some ⟨b, 0, none⟩)), .v (.agg #[.int .i64 mk, .int .i64 mf, .int .i64 mt, .int .i64 mm, .int .i64 mi, .int .i64 mp, .int .i64 mc, .bool mg, .slice la ln lc, .string ms])] [] (by rw [Try.ntmps50]; exact Nat.le_of_ble_eq_true rfl) (by rw [show Try.f50.ntmps = 114 from Try.ntmps50, eq_heard]; exact h)

/-- (*lintel/ballot.Ballot).given -/
def vc_given {W : Type} (π : Prims W) (b : Nat) (mk mf mt mm mi mp mc : Int) (mg : Bool) (la : Option Addr) (ln lc : Nat) (ms : ByteArray) : W :=
  π.nw (Go.Obj.cells #[(Go.Value.int (IntKind.i64) (mk)), (Go.Value.int (IntKind.i64) (mf)), (Go.Value.int (IntKind.i64) (mt)), (Go.Value.int (IntKind.i64) (mm)), (Go.Value.int (IntKind.i64) (mi)), (Go.Value.int (IntKind.i64) (mp)), (Go.Value.int (IntKind.i64) (mc)), (Go.Value.bool (mg)), (Go.Value.slice (la) (ln) (lc)), (Go.Value.string (ms))] (32 : Nat) ((0 : Nat), (0 : Nat))) fun r0 =>
  π.unSome (some (Addr.mk b (0 : Nat) none)) fun p1 =>
  π.ld [.int .i64] ((p1.add (2 : Nat)).add (2 : Nat)) fun ((x2 : Int), _) =>
  π.ite (x2 == (2 : Int)) (
    π.ret (Go.Value.slice (none) ((0 : Nat)) ((0 : Nat)))
  ) (
    π.ld [.int .i64] ((Addr.mk r0 (0 : Nat) none).add (1 : Nat)) fun ((x3 : Int), _) =>
    π.unSome (some (Addr.mk b (0 : Nat) none)) fun p4 =>
    π.st ((p4.add (2 : Nat)).add (2 : Nat)) [(Go.Value.int (IntKind.i64) ((0 : Int)))] <|
    π.still [.int .i64] ((Addr.mk r0 (0 : Nat) none).add (1 : Nat)) (x3, ()) <|
    π.unSome (some (Addr.mk b (0 : Nat) none)) fun p5 =>
    π.st ((p5.add (2 : Nat)).add (3 : Nat)) [(Go.Value.int (IntKind.i64) (x3))] <|
    π.ld [.int .i64] ((Addr.mk r0 (0 : Nat) none).add (4 : Nat)) fun ((x6 : Int), _) =>
    π.unSome (some (Addr.mk b (0 : Nat) none)) fun p7 =>
    π.ld [.int .i64] ((p7.add (2 : Nat)).add (6 : Nat)) fun ((x8 : Int), _) =>
    π.ite (decide (x6 ≤ x8)) (
      π.ld [.int .i64] ((Addr.mk r0 (0 : Nat) none).add (1 : Nat)) fun ((x9 : Int), _) =>
      π.ld [.int .i64] ((Addr.mk r0 (0 : Nat) none).add (4 : Nat)) fun ((x10 : Int), _) =>
      π.call (46 : Nat) #[(Go.Value.pointer (some (Addr.mk b (0 : Nat) none))), (Go.Value.int (IntKind.i64) (x9)), (Go.Value.bool (true)), (Go.Value.int (IntKind.i64) (x10))] (false, [(false, [.slice])]) fun ((((a11 : Option Addr), (n12 : Nat), (c13 : Nat)), _), _) =>
      π.ret (Go.Value.slice (a11) (n12) (c13))
    ) (
      π.join [(false, [.addr]), (false, [.slice])] (fun J14 =>
        π.ld [.int .i64] ((Addr.mk r0 (0 : Nat) none).add (4 : Nat)) fun ((x15 : Int), _) =>
        π.call (55 : Nat) #[(Go.Value.pointer (some (Addr.mk b (0 : Nat) none))), (Go.Value.int (IntKind.i64) (x15))] (true, [(false, [.int .i64]), (false, [.bool])]) fun (((x16 : Int), _), ((b17 : Bool), _), _) =>
        π.ite (b17) (
          π.ld [.int .i64] ((Addr.mk r0 (0 : Nat) none).add (5 : Nat)) fun ((x18 : Int), _) =>
          π.ite (x16 == x18) (
            π.unSome (some (Addr.mk b (0 : Nat) none)) fun p19 =>
            π.ld [.slice] (p19.add (11 : Nat)) fun (((a20 : Option Addr), (n21 : Nat), (c22 : Nat)), _) =>
            π.ld [.int .i64] ((Addr.mk r0 (0 : Nat) none).add (4 : Nat)) fun ((x23 : Int), _) =>
            π.unSome (some (Addr.mk b (0 : Nat) none)) fun p24 =>
            π.ld [.int .i64] ((p24.add (2 : Nat)).add (4 : Nat)) fun ((x25 : Int), _) =>
            π.guard ((0 : Int) ≤ IntKind.i64.wrap (x23 - x25) ∧ IntKind.i64.wrap (x23 - x25) ≤ (↑n21 : Int) ∧ (↑n21 : Int) ≤ (↑c22 : Int)) <|
            π.call (38 : Nat) #[(Go.Value.slice (if c22 = (IntKind.i64.wrap (x23 - x25)).toNat then a20 else Option.map (fun x => x.add ((IntKind.i64.wrap (x23 - x25)).toNat * (4 : Nat))) a20) ((↑n21 : Int).toNat - (IntKind.i64.wrap (x23 - x25)).toNat) (c22 - (IntKind.i64.wrap (x23 - x25)).toNat))] (false, [(false, [.slice])]) fun ((((a26 : Option Addr), (n27 : Nat), (c28 : Nat)), _), _) =>
            J14 ((Addr.mk r0 (0 : Nat) none, ()), ((a26, n27, c28), ()), ())
          ) (
            J14 ((Addr.mk r0 (0 : Nat) none, ()), ((none, (0 : Nat), (0 : Nat)), ()), ())
          )
        ) (
          J14 ((Addr.mk r0 (0 : Nat) none, ()), ((none, (0 : Nat), (0 : Nat)), ()), ())
        )
      ) (fun ((p29, _), (((a30 : Option Addr), (n31 : Nat), (c32 : Nat)), _), _) =>
        π.ld [.int .i64] (p29.add (4 : Nat)) fun ((x33 : Int), _) =>
        π.ld [.int .i64] (p29.add (5 : Nat)) fun ((x34 : Int), _) =>
        π.ld [.str] (p29.add (9 : Nat)) fun ((t35 : ByteArray), _) =>
        π.call (56 : Nat) #[(Go.Value.pointer (some (Addr.mk b (0 : Nat) none))), (Go.Value.int (IntKind.i64) (x33)), (Go.Value.int (IntKind.i64) (x34)), (Go.Value.string (t35)), (Go.Value.slice (a30) (n31) (c32))] (true, []) fun (_) =>
        π.ld [.int .i64] (p29.add (4 : Nat)) fun ((x36 : Int), _) =>
        π.unSome (some (Addr.mk b (0 : Nat) none)) fun p37 =>
        π.st ((p37.add (2 : Nat)).add (6 : Nat)) [(Go.Value.int (IntKind.i64) (x36))] <|
        π.ld [.int .i64] (p29.add (1 : Nat)) fun ((x38 : Int), _) =>
        π.ld [.int .i64] (p29.add (4 : Nat)) fun ((x39 : Int), _) =>
        π.call (46 : Nat) #[(Go.Value.pointer (some (Addr.mk b (0 : Nat) none))), (Go.Value.int (IntKind.i64) (x38)), (Go.Value.bool (true)), (Go.Value.int (IntKind.i64) (x39))] (false, [(false, [.slice])]) fun ((((a40 : Option Addr), (n41 : Nat), (c42 : Nat)), _), _) =>
        π.ret (Go.Value.slice (a40) (n41) (c42))
      )
    )
  )

def ann_given : Ann := { draws := [(3, { A := [0, 1, 2, 3, 4, 5, 6], chkL := [(7, [3])], eag := [8, 9, 10] }), (4, { A := [0, 1, 2, 3, 4, 5, 6, 7] }), (9, { A := [0, 1, 2, 3, 4, 5, 6, 7, 8, 9, 10, 11, 12], eag := [14] })], join := [(10, [(3, 1000000), (5, 30)])], loop := [] }
set_option maxRecDepth 100000 in
theorem eq_given {W : Type} (π : Prims W) (b : Nat) (mk mf mt mm mi mp mc : Int) (mg : Bool) (la : Option Addr) (ln lc : Nat) (ms : ByteArray) : bodyW π Try.prog ann_given (mkFr (maskA [] [.v (.pointer (some ⟨b, 0, none⟩)), .v (.agg #[.int .i64 mk, .int .i64 mf, .int .i64 mt, .int .i64 mm, .int .i64 mi, .int .i64 mp, .int .i64 mc, .bool mg, .slice la ln lc, .string ms])] 0) 87) Try.f51 (bodyOf Try.f51) (mkFr (List.map some [.v (.pointer (some ⟨b, 0, none⟩)), .v (.agg #[.int .i64 mk, .int .i64 mf, .int .i64 mt, .int .i64 mm, .int .i64 mi, .int .i64 mp, .int .i64 mc, .bool mg, .slice la ln lc, .string ms])]) 87) = vc_given π b mk mf mt mm mi mp mc mg la ln lc ms := by kernel_rfl
theorem ok_given (b : Nat) (mk mf mt mm mi mp mc : Int) (mg : Bool) (la : Option Addr) (ln lc : Nat) (ms : ByteArray) (R : Value → PH → Prop) (s : PH) (h : vc_given (RP Try.prog R) b mk mf mt mm mi mp mc mg la ln lc ms s) : DCalls Try.prog 51 (List.map AV.val [.v (.pointer (some ⟨b, 0, none⟩)), .v (.agg #[.int .i64 mk, .int .i64 mf, .int .i64 mt, .int .i64 mm, .int .i64 mi, .int .i64 mp, .int .i64 mc, .bool mg, .slice la ln lc, .string ms])]).toArray s R :=
  calls_vc (c := bodyOf Try.f51) (ann := ann_given) (by kernel_rfl) Try.func51 rfl (by kernel_rfl) [.v (.pointer (some ⟨b, 0, none⟩)), .v (.agg #[.int .i64 mk, .int .i64 mf, .int .i64 mt, .int .i64 mm, .int .i64 mi, .int .i64 mp, .int .i64 mc, .bool mg, .slice la ln lc, .string ms])] [] (by rw [Try.ntmps51]; exact Nat.le_of_ble_eq_true rfl) (by rw [show Try.f51.ntmps = 87 from Try.ntmps51, eq_given]; exact h)

/-- (*lintel/ballot.Ballot).rebase -/
def vc_rebase {W : Type} (π : Prims W) (b : Nat) (i term : Int) (snap : ByteArray) (a : Option Addr) (an ac : Nat) : W :=
  π.unSome (some (Addr.mk b (0 : Nat) none)) fun p0 =>
  π.st ((p0.add (2 : Nat)).add (4 : Nat)) [(Go.Value.int (IntKind.i64) (i))] <|
  π.unSome (some (Addr.mk b (0 : Nat) none)) fun p1 =>
  π.st (p1.add (9 : Nat)) [(Go.Value.int (IntKind.i64) (term))] <|
  π.unSome (some (Addr.mk b (0 : Nat) none)) fun p2 =>
  π.st (p2.add (10 : Nat)) [(Go.Value.string (snap))] <|
  π.unSome (some (Addr.mk b (0 : Nat) none)) fun p3 =>
  π.st (p3.add (11 : Nat)) [(Go.Value.slice (a) (an) (ac))] <|
  π.unSome (some (Addr.mk b (0 : Nat) none)) fun p4 =>
  π.st (p4.add (15 : Nat)) [(Go.Value.bool (true))] <|
  π.unSome (some (Addr.mk b (0 : Nat) none)) fun p5 =>
  π.st (p5.add (16 : Nat)) [(Go.Value.bool (true))] <|
  π.ret (Go.Value.tuple #[])

def ann_rebase : Ann := { draws := [], join := [], loop := [] }
set_option maxRecDepth 100000 in
theorem eq_rebase {W : Type} (π : Prims W) (b : Nat) (i term : Int) (snap : ByteArray) (a : Option Addr) (an ac : Nat) : bodyW π Try.prog ann_rebase (mkFr (maskA [] [.v (.pointer (some ⟨b, 0, none⟩)), .v (.int .i64 i), .v (.int .i64 term), .v (.string snap), .v (.slice a an ac)] 0) 33) Try.f56 (bodyOf Try.f56) (mkFr (List.map some [.v (.pointer (some ⟨b, 0, none⟩)), .v (.int .i64 i), .v (.int .i64 term), .v (.string snap), .v (.slice a an ac)]) 33) = vc_rebase π b i term snap a an ac := by kernel_rfl
theorem ok_rebase (b : Nat) (i term : Int) (snap : ByteArray) (a : Option Addr) (an ac : Nat) (R : Value → PH → Prop) (s : PH) (h : vc_rebase (RP Try.prog R) b i term snap a an ac s) : DCalls Try.prog 56 (List.map AV.val [.v (.pointer (some ⟨b, 0, none⟩)), .v (.int .i64 i), .v (.int .i64 term), .v (.string snap), .v (.slice a an ac)]).toArray s R :=
  calls_vc (c := bodyOf Try.f56) (ann := ann_rebase) (by kernel_rfl) Try.func56 rfl (by kernel_rfl) [.v (.pointer (some ⟨b, 0, none⟩)), .v (.int .i64 i), .v (.int .i64 term), .v (.string snap), .v (.slice a an ac)] [] (by rw [Try.ntmps56]; exact Nat.le_of_ble_eq_true rfl) (by rw [show Try.f56.ntmps = 33 from Try.ntmps56, eq_rebase]; exact h)

/-- (*lintel/ballot.Ballot).Take -/
def vc_Take {W : Type} (π : Prims W) (b : Nat) (mk mf mt mm mi mp mc : Int) (mg : Bool) (la : Option Addr) (ln lc : Nat) (ms : ByteArray) : W :=
  π.nw (Go.Obj.cells #[(Go.Value.int (IntKind.i64) (mk)), (Go.Value.int (IntKind.i64) (mf)), (Go.Value.int (IntKind.i64) (mt)), (Go.Value.int (IntKind.i64) (mm)), (Go.Value.int (IntKind.i64) (mi)), (Go.Value.int (IntKind.i64) (mp)), (Go.Value.int (IntKind.i64) (mc)), (Go.Value.bool (mg)), (Go.Value.slice (la) (ln) (lc)), (Go.Value.string (ms))] (32 : Nat) ((0 : Nat), (0 : Nat))) fun r0 =>
  π.join [(false, [.addr])] (fun J1 =>
    π.ite ((some (Addr.mk b (0 : Nat) none)).isNone) (
      π.ret (Go.Value.slice (none) ((0 : Nat)) ((0 : Nat)))
    ) (
      π.ld [.int .i64, .int .i64, .int .i64, .int .i64, .int .i64, .int .i64, .int .i64, .bool, .slice, .str] (Addr.mk r0 (0 : Nat) none) fun ((x2 : Int), (x3 : Int), (x4 : Int), (x5 : Int), (x6 : Int), (x7 : Int), (x8 : Int), (b9 : Bool), ((a10 : Option Addr), (n11 : Nat), (c12 : Nat)), (t13 : ByteArray), _) =>
      π.call (44 : Nat) #[(Go.Value.pointer (some (Addr.mk b (0 : Nat) none))), (Go.Value.agg #[(Go.Value.int (IntKind.i64) (x2)), (Go.Value.int (IntKind.i64) (x3)), (Go.Value.int (IntKind.i64) (x4)), (Go.Value.int (IntKind.i64) (x5)), (Go.Value.int (IntKind.i64) (x6)), (Go.Value.int (IntKind.i64) (x7)), (Go.Value.int (IntKind.i64) (x8)), (Go.Value.bool (b9)), (Go.Value.slice (a10) (n11) (c12)), (Go.Value.string (t13))])] (false, [(false, [.bool])]) fun (((b14 : Bool), _), _) =>
      π.ite (b14) (
        π.ret (Go.Value.slice (none) ((0 : Nat)) ((0 : Nat)))
      ) (
        J1 ((Addr.mk r0 (0 : Nat) none, ()), ())
      )
    )
  ) (fun ((p15, _), _) =>
    π.join [(false, [.addr])] (fun J16 =>
      π.ld [.int .i64] (p15.add (3 : Nat)) fun ((x17 : Int), _) =>
      π.unSome (some (Addr.mk b (0 : Nat) none)) fun p18 =>
      π.ld [.int .i64] ((p18.add (2 : Nat)).add (0 : Nat)) fun ((x19 : Int), _) =>
      π.ite (decide (x17 > x19)) (
        π.ld [.int .i64] (p15.add (3 : Nat)) fun ((x20 : Int), _) =>
        π.call (40 : Nat) #[(Go.Value.pointer (some (Addr.mk b (0 : Nat) none))), (Go.Value.int (IntKind.i64) (x20)), (Go.Value.int (IntKind.i64) ((-1 : Int))), (Go.Value.int (IntKind.i64) ((0 : Int)))] (true, []) fun (_) =>
        J16 ((p15, ()), ())
      ) (
        J16 ((p15, ()), ())
      )
    ) (fun ((p21, _), _) =>
      π.ld [.int .i64] (p21.add (3 : Nat)) fun ((x22 : Int), _) =>
      π.unSome (some (Addr.mk b (0 : Nat) none)) fun p23 =>
      π.ld [.int .i64] ((p23.add (2 : Nat)).add (0 : Nat)) fun ((x24 : Int), _) =>
      π.ite (decide (x22 < x24)) (
        π.ld [.int .i64] (p21.add (0 : Nat)) fun ((x25 : Int), _) =>
        π.ite (x25 == (1 : Int)) (
          π.ld [.int .i64] (p21.add (1 : Nat)) fun ((x26 : Int), _) =>
          π.call (45 : Nat) #[(Go.Value.pointer (some (Addr.mk b (0 : Nat) none))), (Go.Value.int (IntKind.i64) ((2 : Int))), (Go.Value.int (IntKind.i64) (x26))] (false, [(true, [.int .i64, .int .i64, .int .i64, .int .i64, .int .i64, .int .i64, .int .i64, .bool, .slice, .str])]) fun (((x27 : Int), (x28 : Int), (x29 : Int), (x30 : Int), (x31 : Int), (x32 : Int), (x33 : Int), (b34 : Bool), ((a35 : Option Addr), (n36 : Nat), (c37 : Nat)), (t38 : ByteArray), _), _) =>
          π.nw (Go.Obj.cells #[(Go.Value.int (IntKind.i64) (x27)), (Go.Value.int (IntKind.i64) (x28)), (Go.Value.int (IntKind.i64) (x29)), (Go.Value.int (IntKind.i64) (x30)), (Go.Value.int (IntKind.i64) (x31)), (Go.Value.int (IntKind.i64) (x32)), (Go.Value.int (IntKind.i64) (x33)), (Go.Value.bool (b34)), (Go.Value.slice (a35) (n36) (c37)), (Go.Value.string (t38))] (32 : Nat) ((0 : Nat), (0 : Nat))) fun r39 =>
          π.ret (Go.Value.slice (some (Addr.mk r39 (0 : Nat) none)) ((1 : Nat)) ((1 : Nat)))
        ) (
          π.join [(false, [.addr]), (false, [.bool])] (fun J40 =>
            π.ite (x25 == (3 : Int)) (
              J40 ((p21, ()), (true, ()), ())
            ) (
              J40 ((p21, ()), (x25 == (5 : Int), ()), ())
            )
          ) (fun ((p41, _), ((b42 : Bool), _), _) =>
            π.ite (b42) (
              π.ld [.int .i64] (p41.add (1 : Nat)) fun ((x43 : Int), _) =>
              π.callQ (26 : Nat) #[(Go.Value.pointer (some (Addr.mk b (0 : Nat) none)))] (false, [(false, [.int .i64])]) fun (((x44 : Int), _), _) =>
              π.call (46 : Nat) #[(Go.Value.pointer (some (Addr.mk b (0 : Nat) none))), (Go.Value.int (IntKind.i64) (x43)), (Go.Value.bool (false)), (Go.Value.int (IntKind.i64) (x44))] (false, [(false, [.slice])]) fun ((((a45 : Option Addr), (n46 : Nat), (c47 : Nat)), _), _) =>
              π.ret (Go.Value.slice (a45) (n46) (c47))
            ) (
              π.ret (Go.Value.slice (none) ((0 : Nat)) ((0 : Nat)))
            )
          )
        )
      ) (
        π.nw (Go.Obj.cells #[(Go.Value.nilFunc ), (Go.Value.nilFunc ), (Go.Value.nilFunc ), (Go.Value.nilFunc ), (Go.Value.nilFunc )] (89 : Nat) ((0 : Nat), (0 : Nat))) fun r48 =>
        π.st (Addr.mk r48 (0 : Nat) none) [(Go.Value.func (Fn.func (47 : Nat)) #[] #[]), (Go.Value.func (Fn.func (48 : Nat)) #[] #[]), (Go.Value.func (Fn.func (49 : Nat)) #[] #[]), (Go.Value.func (Fn.func (50 : Nat)) #[] #[]), (Go.Value.func (Fn.func (51 : Nat)) #[] #[])] <|
        π.ld [.int .i64] (p21.add (0 : Nat)) fun ((x49 : Int), _) =>
        π.guard ((0 : Int) ≤ IntKind.i64.wrap (x49 - (1 : Int)) ∧ IntKind.i64.wrap (x49 - (1 : Int)) < (5 : Int)) <|
        π.ld [.raw] ((Addr.mk r48 (0 : Nat) none).add ((IntKind.i64.wrap (x49 - (1 : Int))).toNat * (1 : Nat))) fun ((v50 : Value), _) =>
        π.ld [.int .i64, .int .i64, .int .i64, .int .i64, .int .i64, .int .i64, .int .i64, .bool, .slice, .str] (p21) fun ((x51 : Int), (x52 : Int), (x53 : Int), (x54 : Int), (x55 : Int), (x56 : Int), (x57 : Int), (b58 : Bool), ((a59 : Option Addr), (n60 : Nat), (c61 : Nat)), (t62 : ByteArray), _) =>
        π.callV v50 #[(Go.Value.pointer (some (Addr.mk b (0 : Nat) none))), (Go.Value.agg #[(Go.Value.int (IntKind.i64) (x51)), (Go.Value.int (IntKind.i64) (x52)), (Go.Value.int (IntKind.i64) (x53)), (Go.Value.int (IntKind.i64) (x54)), (Go.Value.int (IntKind.i64) (x55)), (Go.Value.int (IntKind.i64) (x56)), (Go.Value.int (IntKind.i64) (x57)), (Go.Value.bool (b58)), (Go.Value.slice (a59) (n60) (c61)), (Go.Value.string (t62))])] (false, [(false, [.slice])]) fun ((((a63 : Option Addr), (n64 : Nat), (c65 : Nat)), _), _) =>
        π.ret (Go.Value.slice (a63) (n64) (c65))
      )
    )
  )

def ann_Take : Ann := { draws := [(3, { A := [0, 1, 2, 3, 4, 5, 6, 7] }), (5, { A := [0, 1, 2, 3, 4, 5, 6, 7] }), (11, { A := [0, 1, 2, 3, 4], quiet := [4], eag := [6] }), (14, { A := [0, 1, 2, 3, 4, 5, 6], eag := [8] })], join := [(3, [(3, 1000000)]), (5, [(3, 1000000)]), (11, [(3, 1000000), (42, 4)])], loop := [] }
set_option maxRecDepth 100000 in
theorem eq_Take {W : Type} (π : Prims W) (b : Nat) (mk mf mt mm mi mp mc : Int) (mg : Bool) (la : Option Addr) (ln lc : Nat) (ms : ByteArray) : bodyW π Try.prog ann_Take (mkFr (maskA [] [.v (.pointer (some ⟨b, 0, none⟩)), .v (.agg #[.int .i64 mk, .int .i64 mf, .int .i64 mt, .int .i64 mm, .int .i64 mi, .int .i64 mp, .int .i64 mc, .bool mg, .slice la ln lc, .string ms])] 0) 60) Try.f25 (bodyOf Try.f25) (mkFr (List.map some [.v (.pointer (some ⟨b, 0, none⟩)), .v (.agg #[.int .i64 mk, .int .i64 mf, .int .i64 mt, .int .i64 mm, .int .i64 mi, .int .i64 mp, .int .i64 mc, .bool mg, .slice la ln lc, .string ms])]) 60) = vc_Take π b mk mf mt mm mi mp mc mg la ln lc ms := by kernel_rfl
theorem ok_Take (b : Nat) (mk mf mt mm mi mp mc : Int) (mg : Bool) (la : Option Addr) (ln lc : Nat) (ms : ByteArray) (R : Value → PH → Prop) (s : PH) (h : vc_Take (RP Try.prog R) b mk mf mt mm mi mp mc mg la ln lc ms s) : DCalls Try.prog 25 (List.map AV.val [.v (.pointer (some ⟨b, 0, none⟩)), .v (.agg #[.int .i64 mk, .int .i64 mf, .int .i64 mt, .int .i64 mm, .int .i64 mi, .int .i64 mp, .int .i64 mc, .bool mg, .slice la ln lc, .string ms])]).toArray s R :=
  calls_vc (c := bodyOf Try.f25) (ann := ann_Take) (by kernel_rfl) Try.func25 rfl (by kernel_rfl) [.v (.pointer (some ⟨b, 0, none⟩)), .v (.agg #[.int .i64 mk, .int .i64 mf, .int .i64 mt, .int .i64 mm, .int .i64 mi, .int .i64 mp, .int .i64 mc, .bool mg, .slice la ln lc, .string ms])] [] (by rw [Try.ntmps25]; exact Nat.le_of_ble_eq_true rfl) (by rw [show Try.f25.ntmps = 60 from Try.ntmps25, eq_Take]; exact h)

/-- (*lintel/ballot.Ballot).Cut -/
def vc_Cut {W : Type} (π : Prims W) (b : Nat) (i : Int) (snap : ByteArray) : W :=
  π.join [] (fun J0 =>
    π.ite ((some (Addr.mk b (0 : Nat) none)).isNone) (
      π.ret (Go.Value.bool (false))
    ) (
      π.unSome (some (Addr.mk b (0 : Nat) none)) fun p1 =>
      π.ld [.int .i64] ((p1.add (2 : Nat)).add (4 : Nat)) fun ((x2 : Int), _) =>
      π.ite (decide (i ≤ x2)) (
        π.ret (Go.Value.bool (false))
      ) (
        π.unSome (some (Addr.mk b (0 : Nat) none)) fun p3 =>
        π.ld [.int .i64] ((p3.add (2 : Nat)).add (6 : Nat)) fun ((x4 : Int), _) =>
        π.ite (decide (i > x4)) (
          π.ret (Go.Value.bool (false))
        ) (
          J0 (())
        )
      )
    )
  ) (fun (_) =>
    π.call (55 : Nat) #[(Go.Value.pointer (some (Addr.mk b (0 : Nat) none))), (Go.Value.int (IntKind.i64) (i))] (true, [(false, [.int .i64]), (false, [.bool])]) fun (((x5 : Int), _), ((b6 : Bool), _), _) =>
    π.unSome (some (Addr.mk b (0 : Nat) none)) fun p7 =>
    π.ld [.slice] (p7.add (11 : Nat)) fun (((a8 : Option Addr), (n9 : Nat), (c10 : Nat)), _) =>
    π.unSome (some (Addr.mk b (0 : Nat) none)) fun p11 =>
    π.ld [.int .i64] ((p11.add (2 : Nat)).add (4 : Nat)) fun ((x12 : Int), _) =>
    π.guard ((0 : Int) ≤ IntKind.i64.wrap (i - x12) ∧ IntKind.i64.wrap (i - x12) ≤ (↑n9 : Int) ∧ (↑n9 : Int) ≤ (↑c10 : Int)) <|
    π.call (38 : Nat) #[(Go.Value.slice (if c10 = (IntKind.i64.wrap (i - x12)).toNat then a8 else Option.map (fun x => x.add ((IntKind.i64.wrap (i - x12)).toNat * (4 : Nat))) a8) ((↑n9 : Int).toNat - (IntKind.i64.wrap (i - x12)).toNat) (c10 - (IntKind.i64.wrap (i - x12)).toNat))] (false, [(false, [.slice])]) fun ((((a13 : Option Addr), (n14 : Nat), (c15 : Nat)), _), _) =>
    π.call (56 : Nat) #[(Go.Value.pointer (some (Addr.mk b (0 : Nat) none))), (Go.Value.int (IntKind.i64) (i)), (Go.Value.int (IntKind.i64) (x5)), (Go.Value.string (snap)), (Go.Value.slice (a13) (n14) (c15))] (true, []) fun (_) =>
    π.ret (Go.Value.bool (true))
  )

def ann_Cut : Ann := { draws := [(4, { A := [0, 1, 2, 3, 4, 5, 6, 7, 8, 9, 10, 11, 12, 13, 14, 15] })], join := [(3, [])], loop := [] }
set_option maxRecDepth 100000 in
theorem eq_Cut {W : Type} (π : Prims W) (b : Nat) (i : Int) (snap : ByteArray) : bodyW π Try.prog ann_Cut (mkFr (maskA [] [.v (.pointer (some ⟨b, 0, none⟩)), .v (.int .i64 i), .v (.string snap)] 0) 53) Try.f30 (bodyOf Try.f30) (mkFr (List.map some [.v (.pointer (some ⟨b, 0, none⟩)), .v (.int .i64 i), .v (.string snap)]) 53) = vc_Cut π b i snap := by kernel_rfl
theorem ok_Cut (b : Nat) (i : Int) (snap : ByteArray) (R : Value → PH → Prop) (s : PH) (h : vc_Cut (RP Try.prog R) b i snap s) : DCalls Try.prog 30 (List.map AV.val [.v (.pointer (some ⟨b, 0, none⟩)), .v (.int .i64 i), .v (.string snap)]).toArray s R :=
  calls_vc (c := bodyOf Try.f30) (ann := ann_Cut) (by kernel_rfl) Try.func30 rfl (by kernel_rfl) [.v (.pointer (some ⟨b, 0, none⟩)), .v (.int .i64 i), .v (.string snap)] [] (by rw [Try.ntmps30]; exact Nat.le_of_ble_eq_true rfl) (by rw [show Try.f30.ntmps = 53 from Try.ntmps30, eq_Cut]; exact h)

/-- (*lintel/ballot.Ballot).Delta -/
def vc_Delta {W : Type} (π : Prims W) (b : Nat) : W :=
  π.nw (Go.Obj.cells #[(Go.Value.int (IntKind.i64) ((0 : Int))), (Go.Value.int (IntKind.i64) ((0 : Int))), (Go.Value.bool (false)), (Go.Value.int (IntKind.i64) ((0 : Int))), (Go.Value.int (IntKind.i64) ((0 : Int))), (Go.Value.string (ByteArray.mk #[])), (Go.Value.int (IntKind.i64) ((0 : Int))), (Go.Value.slice (none) ((0 : Nat)) ((0 : Nat)))] (53 : Nat) ((0 : Nat), (0 : Nat))) fun r0 =>
  π.join [(false, [.addr])] (fun J1 =>
    π.ite ((some (Addr.mk b (0 : Nat) none)).isNone) (
      π.st (Addr.mk r0 (0 : Nat) none) [(Go.Value.int (IntKind.i64) ((0 : Int))), (Go.Value.int (IntKind.i64) ((0 : Int))), (Go.Value.bool (false)), (Go.Value.int (IntKind.i64) ((0 : Int))), (Go.Value.int (IntKind.i64) ((0 : Int))), (Go.Value.string (ByteArray.mk #[])), (Go.Value.int (IntKind.i64) ((0 : Int))), (Go.Value.slice (none) ((0 : Nat)) ((0 : Nat)))] <|
      π.ld [.int .i64, .int .i64, .bool, .int .i64, .int .i64, .str, .int .i64, .slice] (Addr.mk r0 (0 : Nat) none) fun ((x2 : Int), (x3 : Int), (b4 : Bool), (x5 : Int), (x6 : Int), (t7 : ByteArray), (x8 : Int), ((a9 : Option Addr), (n10 : Nat), (c11 : Nat)), _) =>
      π.ret (Go.Value.tuple #[(Go.Value.agg #[(Go.Value.int (IntKind.i64) (x2)), (Go.Value.int (IntKind.i64) (x3)), (Go.Value.bool (b4)), (Go.Value.int (IntKind.i64) (x5)), (Go.Value.int (IntKind.i64) (x6)), (Go.Value.string (t7)), (Go.Value.int (IntKind.i64) (x8)), (Go.Value.slice (a9) (n10) (c11))]), (Go.Value.bool (false))])
    ) (
      π.unSome (some (Addr.mk b (0 : Nat) none)) fun p12 =>
      π.ld [.bool] (p12.add (15 : Nat)) fun ((b13 : Bool), _) =>
      π.ite (!b13) (
        π.st (Addr.mk r0 (0 : Nat) none) [(Go.Value.int (IntKind.i64) ((0 : Int))), (Go.Value.int (IntKind.i64) ((0 : Int))), (Go.Value.bool (false)), (Go.Value.int (IntKind.i64) ((0 : Int))), (Go.Value.int (IntKind.i64) ((0 : Int))), (Go.Value.string (ByteArray.mk #[])), (Go.Value.int (IntKind.i64) ((0 : Int))), (Go.Value.slice (none) ((0 : Nat)) ((0 : Nat)))] <|
        π.ld [.int .i64, .int .i64, .bool, .int .i64, .int .i64, .str, .int .i64, .slice] (Addr.mk r0 (0 : Nat) none) fun ((x14 : Int), (x15 : Int), (b16 : Bool), (x17 : Int), (x18 : Int), (t19 : ByteArray), (x20 : Int), ((a21 : Option Addr), (n22 : Nat), (c23 : Nat)), _) =>
        π.ret (Go.Value.tuple #[(Go.Value.agg #[(Go.Value.int (IntKind.i64) (x14)), (Go.Value.int (IntKind.i64) (x15)), (Go.Value.bool (b16)), (Go.Value.int (IntKind.i64) (x17)), (Go.Value.int (IntKind.i64) (x18)), (Go.Value.string (t19)), (Go.Value.int (IntKind.i64) (x20)), (Go.Value.slice (a21) (n22) (c23))]), (Go.Value.bool (false))])
      ) (
        J1 ((Addr.mk r0 (0 : Nat) none, ()), ())
      )
    )
  ) (fun ((p24, _), _) =>
    π.unSome (some (Addr.mk b (0 : Nat) none)) fun p25 =>
    π.ld [.int .i64] ((p25.add (2 : Nat)).add (0 : Nat)) fun ((x26 : Int), _) =>
    π.unSome (some (Addr.mk b (0 : Nat) none)) fun p27 =>
    π.ld [.int .i64] ((p27.add (2 : Nat)).add (1 : Nat)) fun ((x28 : Int), _) =>
    π.unSome (some (Addr.mk b (0 : Nat) none)) fun p29 =>
    π.ld [.int .i64] (p29.add (17 : Nat)) fun ((x30 : Int), _) =>
    π.nw (Go.Obj.cells #[(Go.Value.int (IntKind.i64) ((0 : Int))), (Go.Value.int (IntKind.i64) ((0 : Int))), (Go.Value.bool (false)), (Go.Value.int (IntKind.i64) ((0 : Int))), (Go.Value.int (IntKind.i64) ((0 : Int))), (Go.Value.string (ByteArray.mk #[])), (Go.Value.int (IntKind.i64) ((0 : Int))), (Go.Value.slice (none) ((0 : Nat)) ((0 : Nat)))] (53 : Nat) ((0 : Nat), (0 : Nat))) fun r31 =>
    π.st (Addr.mk r31 (0 : Nat) none) [(Go.Value.int (IntKind.i64) (x26)), (Go.Value.int (IntKind.i64) (x28)), (Go.Value.bool (false)), (Go.Value.int (IntKind.i64) ((0 : Int))), (Go.Value.int (IntKind.i64) ((0 : Int))), (Go.Value.string (ByteArray.mk #[])), (Go.Value.int (IntKind.i64) (x30)), (Go.Value.slice (none) ((0 : Nat)) ((0 : Nat)))] <|
    π.join [(false, [.addr]), (false, [.addr])] (fun J32 =>
      π.unSome (some (Addr.mk b (0 : Nat) none)) fun p33 =>
      π.ld [.bool] (p33.add (16 : Nat)) fun ((b34 : Bool), _) =>
      π.ite (b34) (
        π.unSome (some (Addr.mk b (0 : Nat) none)) fun p35 =>
        π.ld [.int .i64] ((p35.add (2 : Nat)).add (4 : Nat)) fun ((x36 : Int), _) =>
        π.unSome (some (Addr.mk b (0 : Nat) none)) fun p37 =>
        π.ld [.int .i64] (p37.add (9 : Nat)) fun ((x38 : Int), _) =>
        π.unSome (some (Addr.mk b (0 : Nat) none)) fun p39 =>
        π.ld [.str] (p39.add (10 : Nat)) fun ((t40 : ByteArray), _) =>
        π.unSome (some (Addr.mk b (0 : Nat) none)) fun p41 =>
        π.ld [.int .i64] ((p41.add (2 : Nat)).add (4 : Nat)) fun ((x42 : Int), _) =>
        π.st ((Addr.mk r31 (0 : Nat) none).add (2 : Nat)) [(Go.Value.bool (true))] <|
        π.still [.int .i64] ((p35.add (2 : Nat)).add (4 : Nat)) (x36, ()) <|
        π.still [.int .i64] (p37.add (9 : Nat)) (x38, ()) <|
        π.still [.str] (p39.add (10 : Nat)) (t40, ()) <|
        π.still [.int .i64] ((p41.add (2 : Nat)).add (4 : Nat)) (x42, ()) <|
        π.st ((Addr.mk r31 (0 : Nat) none).add (3 : Nat)) [(Go.Value.int (IntKind.i64) (x36))] <|
        π.still [.int .i64] (p37.add (9 : Nat)) (x38, ()) <|
        π.still [.str] (p39.add (10 : Nat)) (t40, ()) <|
        π.still [.int .i64] ((p41.add (2 : Nat)).add (4 : Nat)) (x42, ()) <|
        π.st ((Addr.mk r31 (0 : Nat) none).add (4 : Nat)) [(Go.Value.int (IntKind.i64) (x38))] <|
        π.still [.str] (p39.add (10 : Nat)) (t40, ()) <|
        π.still [.int .i64] ((p41.add (2 : Nat)).add (4 : Nat)) (x42, ()) <|
        π.st ((Addr.mk r31 (0 : Nat) none).add (5 : Nat)) [(Go.Value.string (t40))] <|
        π.still [.int .i64] ((p41.add (2 : Nat)).add (4 : Nat)) (x42, ()) <|
        π.st ((Addr.mk r31 (0 : Nat) none).add (6 : Nat)) [(Go.Value.int (IntKind.i64) (IntKind.i64.wrap (x42 + (1 : Int))))] <|
        J32 ((p24, ()), (Addr.mk r31 (0 : Nat) none, ()), ())
      ) (
        J32 ((p24, ()), (Addr.mk r31 (0 : Nat) none, ()), ())
      )
    ) (fun ((p43, _), (p44, _), _) =>
      π.unSome (some (Addr.mk b (0 : Nat) none)) fun p45 =>
      π.ld [.slice] (p45.add (11 : Nat)) fun (((a46 : Option Addr), (n47 : Nat), (c48 : Nat)), _) =>
      π.ld [.int .i64] (p44.add (6 : Nat)) fun ((x49 : Int), _) =>
      π.unSome (some (Addr.mk b (0 : Nat) none)) fun p50 =>
      π.ld [.int .i64] ((p50.add (2 : Nat)).add (4 : Nat)) fun ((x51 : Int), _) =>
      π.guard ((0 : Int) ≤ IntKind.i64.wrap (IntKind.i64.wrap (x49 - x51) - (1 : Int)) ∧ IntKind.i64.wrap (IntKind.i64.wrap (x49 - x51) - (1 : Int)) ≤ (↑n47 : Int) ∧ (↑n47 : Int) ≤ (↑c48 : Int)) <|
      π.call (38 : Nat) #[(Go.Value.slice (if c48 = (IntKind.i64.wrap (IntKind.i64.wrap (x49 - x51) - (1 : Int))).toNat then a46 else Option.map (fun x => x.add ((IntKind.i64.wrap (IntKind.i64.wrap (x49 - x51) - (1 : Int))).toNat * (4 : Nat))) a46) ((↑n47 : Int).toNat - (IntKind.i64.wrap (IntKind.i64.wrap (x49 - x51) - (1 : Int))).toNat) (c48 - (IntKind.i64.wrap (IntKind.i64.wrap (x49 - x51) - (1 : Int))).toNat))] (false, [(false, [.slice])]) fun ((((a52 : Option Addr), (n53 : Nat), (c54 : Nat)), _), _) =>
      π.st (p44.add (7 : Nat)) [(Go.Value.slice (a52) (n53) (c54))] <|
      π.call (23 : Nat) #[(Go.Value.pointer (some (Addr.mk b (0 : Nat) none)))] (true, []) fun (_) =>
      π.ld [.int .i64, .int .i64, .bool, .int .i64, .int .i64, .str, .int .i64, .slice] (p44) fun ((x55 : Int), (x56 : Int), (b57 : Bool), (x58 : Int), (x59 : Int), (t60 : ByteArray), (x61 : Int), ((a62 : Option Addr), (n63 : Nat), (c64 : Nat)), _) =>
      π.st (p43) [(Go.Value.int (IntKind.i64) (x55)), (Go.Value.int (IntKind.i64) (x56)), (Go.Value.bool (b57)), (Go.Value.int (IntKind.i64) (x58)), (Go.Value.int (IntKind.i64) (x59)), (Go.Value.string (t60)), (Go.Value.int (IntKind.i64) (x61)), (Go.Value.slice (a62) (n63) (c64))] <|
      π.ld [.int .i64, .int .i64, .bool, .int .i64, .int .i64, .str, .int .i64, .slice] (p43) fun ((x65 : Int), (x66 : Int), (b67 : Bool), (x68 : Int), (x69 : Int), (t70 : ByteArray), (x71 : Int), ((a72 : Option Addr), (n73 : Nat), (c74 : Nat)), _) =>
      π.ret (Go.Value.tuple #[(Go.Value.agg #[(Go.Value.int (IntKind.i64) (x65)), (Go.Value.int (IntKind.i64) (x66)), (Go.Value.bool (b67)), (Go.Value.int (IntKind.i64) (x68)), (Go.Value.int (IntKind.i64) (x69)), (Go.Value.string (t70)), (Go.Value.int (IntKind.i64) (x71)), (Go.Value.slice (a72) (n73) (c74))]), (Go.Value.bool (true))])
    )
  )

def ann_Delta : Ann := { draws := [(3, { A := [0, 1, 2, 3, 4, 5, 6, 7, 8, 9, 10, 11, 12, 13, 14] }), (5, { A := [0, 1, 2, 3, 4, 5, 6, 7, 8, 9, 10, 11, 12, 13, 14, 15, 16, 17, 18, 19], chkL := [(20, [4, 8, 12, 17]), (22, [8, 12, 17]), (24, [12, 17]), (26, [17])], eag := [21, 23, 25, 27] }), (6, { A := [0, 1, 2, 3, 4, 5, 6, 7, 8, 9, 10, 11, 12, 13], eag := [15] })], join := [(3, [(2, 1000000)]), (6, [(2, 1000000), (4, 1000000)])], loop := [] }
set_option maxRecDepth 100000 in
theorem eq_Delta {W : Type} (π : Prims W) (b : Nat) : bodyW π Try.prog ann_Delta (mkFr (maskA [] [.v (.pointer (some ⟨b, 0, none⟩))] 0) 77) Try.f17 (bodyOf Try.f17) (mkFr (List.map some [.v (.pointer (some ⟨b, 0, none⟩))]) 77) = vc_Delta π b := by kernel_rfl
theorem ok_Delta (b : Nat) (R : Value → PH → Prop) (s : PH) (h : vc_Delta (RP Try.prog R) b s) : DCalls Try.prog 17 (List.map AV.val [.v (.pointer (some ⟨b, 0, none⟩))]).toArray s R :=
  calls_vc (c := bodyOf Try.f17) (ann := ann_Delta) (by kernel_rfl) Try.func17 rfl (by kernel_rfl) [.v (.pointer (some ⟨b, 0, none⟩))] [] (by rw [Try.ntmps17]; exact Nat.le_of_ble_eq_true rfl) (by rw [show Try.f17.ntmps = 77 from Try.ntmps17, eq_Delta]; exact h)

/-- (*lintel/ballot.Ballot).Stand -/
def vc_Stand {W : Type} (π : Prims W) (b : Nat) : W :=
  π.nw (Go.Obj.cells #[(Go.Value.int (IntKind.i64) ((0 : Int))), (Go.Value.int (IntKind.i64) ((0 : Int))), (Go.Value.int (IntKind.i64) ((0 : Int))), (Go.Value.int (IntKind.i64) ((0 : Int))), (Go.Value.int (IntKind.i64) ((0 : Int))), (Go.Value.int (IntKind.i64) ((0 : Int))), (Go.Value.int (IntKind.i64) ((0 : Int)))] (36 : Nat) ((0 : Nat), (0 : Nat))) fun r0 =>
  π.ite ((some (Addr.mk b (0 : Nat) none)).isNone) (
    π.st (Addr.mk r0 (0 : Nat) none) [(Go.Value.int (IntKind.i64) ((0 : Int))), (Go.Value.int (IntKind.i64) ((0 : Int))), (Go.Value.int (IntKind.i64) ((0 : Int))), (Go.Value.int (IntKind.i64) ((0 : Int))), (Go.Value.int (IntKind.i64) ((0 : Int))), (Go.Value.int (IntKind.i64) ((0 : Int))), (Go.Value.int (IntKind.i64) ((0 : Int)))] <|
    π.ld [.int .i64, .int .i64, .int .i64, .int .i64, .int .i64, .int .i64, .int .i64] (Addr.mk r0 (0 : Nat) none) fun ((x1 : Int), (x2 : Int), (x3 : Int), (x4 : Int), (x5 : Int), (x6 : Int), (x7 : Int), _) =>
    π.ret (Go.Value.agg #[(Go.Value.int (IntKind.i64) (x1)), (Go.Value.int (IntKind.i64) (x2)), (Go.Value.int (IntKind.i64) (x3)), (Go.Value.int (IntKind.i64) (x4)), (Go.Value.int (IntKind.i64) (x5)), (Go.Value.int (IntKind.i64) (x6)), (Go.Value.int (IntKind.i64) (x7))])
  ) (
    π.unSome (some (Addr.mk b (0 : Nat) none)) fun p8 =>
    π.ld [.int .i64, .int .i64, .int .i64, .int .i64, .int .i64, .int .i64, .int .i64] (p8.add (2 : Nat)) fun ((x9 : Int), (x10 : Int), (x11 : Int), (x12 : Int), (x13 : Int), (x14 : Int), (x15 : Int), _) =>
    π.nw (Go.Obj.cells #[(Go.Value.int (IntKind.i64) ((0 : Int))), (Go.Value.int (IntKind.i64) ((0 : Int))), (Go.Value.int (IntKind.i64) ((0 : Int))), (Go.Value.int (IntKind.i64) ((0 : Int))), (Go.Value.int (IntKind.i64) ((0 : Int))), (Go.Value.int (IntKind.i64) ((0 : Int))), (Go.Value.int (IntKind.i64) ((0 : Int)))] (36 : Nat) ((0 : Nat), (0 : Nat))) fun r16 =>
    π.st (Addr.mk r16 (0 : Nat) none) [(Go.Value.int (IntKind.i64) (x9)), (Go.Value.int (IntKind.i64) (x10)), (Go.Value.int (IntKind.i64) (x11)), (Go.Value.int (IntKind.i64) (x12)), (Go.Value.int (IntKind.i64) (x13)), (Go.Value.int (IntKind.i64) (x14)), (Go.Value.int (IntKind.i64) (x15))] <|
    π.call (26 : Nat) #[(Go.Value.pointer (some (Addr.mk b (0 : Nat) none)))] (false, [(false, [.int .i64])]) fun (((x17 : Int), _), _) =>
    π.st ((Addr.mk r16 (0 : Nat) none).add (5 : Nat)) [(Go.Value.int (IntKind.i64) (x17))] <|
    π.ld [.int .i64, .int .i64, .int .i64, .int .i64, .int .i64, .int .i64, .int .i64] (Addr.mk r16 (0 : Nat) none) fun ((x18 : Int), (x19 : Int), (x20 : Int), (x21 : Int), (x22 : Int), (x23 : Int), (x24 : Int), _) =>
    π.st (Addr.mk r0 (0 : Nat) none) [(Go.Value.int (IntKind.i64) (x18)), (Go.Value.int (IntKind.i64) (x19)), (Go.Value.int (IntKind.i64) (x20)), (Go.Value.int (IntKind.i64) (x21)), (Go.Value.int (IntKind.i64) (x22)), (Go.Value.int (IntKind.i64) (x23)), (Go.Value.int (IntKind.i64) (x24))] <|
    π.ld [.int .i64, .int .i64, .int .i64, .int .i64, .int .i64, .int .i64, .int .i64] (Addr.mk r0 (0 : Nat) none) fun ((x25 : Int), (x26 : Int), (x27 : Int), (x28 : Int), (x29 : Int), (x30 : Int), (x31 : Int), _) =>
    π.ret (Go.Value.agg #[(Go.Value.int (IntKind.i64) (x25)), (Go.Value.int (IntKind.i64) (x26)), (Go.Value.int (IntKind.i64) (x27)), (Go.Value.int (IntKind.i64) (x28)), (Go.Value.int (IntKind.i64) (x29)), (Go.Value.int (IntKind.i64) (x30)), (Go.Value.int (IntKind.i64) (x31))])
  )

def ann_Stand : Ann := { draws := [], join := [], loop := [] }
set_option maxRecDepth 100000 in
theorem eq_Stand {W : Type} (π : Prims W) (b : Nat) : bodyW π Try.prog ann_Stand (mkFr (maskA [] [.v (.pointer (some ⟨b, 0, none⟩))] 0) 15) Try.f10 (bodyOf Try.f10) (mkFr (List.map some [.v (.pointer (some ⟨b, 0, none⟩))]) 15) = vc_Stand π b := by kernel_rfl
theorem ok_Stand (b : Nat) (R : Value → PH → Prop) (s : PH) (h : vc_Stand (RP Try.prog R) b s) : DCalls Try.prog 10 (List.map AV.val [.v (.pointer (some ⟨b, 0, none⟩))]).toArray s R :=
  calls_vc (c := bodyOf Try.f10) (ann := ann_Stand) (by kernel_rfl) Try.func10 rfl (by kernel_rfl) [.v (.pointer (some ⟨b, 0, none⟩))] [] (by rw [Try.ntmps10]; exact Nat.le_of_ble_eq_true rfl) (by rw [show Try.f10.ntmps = 15 from Try.ntmps10, eq_Stand]; exact h)

/-- (*lintel/ballot.Ballot).Snap -/
def vc_Snap {W : Type} (π : Prims W) (b : Nat) : W :=
  π.ite ((some (Addr.mk b (0 : Nat) none)).isNone) (
    π.ret (Go.Value.string (ByteArray.mk #[]))
  ) (
    π.unSome (some (Addr.mk b (0 : Nat) none)) fun p0 =>
    π.ld [.str] (p0.add (10 : Nat)) fun ((t1 : ByteArray), _) =>
    π.ret (Go.Value.string (t1))
  )

def ann_Snap : Ann := { draws := [], join := [], loop := [] }
set_option maxRecDepth 100000 in
theorem eq_Snap {W : Type} (π : Prims W) (b : Nat) : bodyW π Try.prog ann_Snap (mkFr (maskA [] [.v (.pointer (some ⟨b, 0, none⟩))] 0) 9) Try.f20 (bodyOf Try.f20) (mkFr (List.map some [.v (.pointer (some ⟨b, 0, none⟩))]) 9) = vc_Snap π b := by kernel_rfl
theorem ok_Snap (b : Nat) (R : Value → PH → Prop) (s : PH) (h : vc_Snap (RP Try.prog R) b s) : DCalls Try.prog 20 (List.map AV.val [.v (.pointer (some ⟨b, 0, none⟩))]).toArray s R :=
  calls_vc (c := bodyOf Try.f20) (ann := ann_Snap) (by kernel_rfl) Try.func20 rfl (by kernel_rfl) [.v (.pointer (some ⟨b, 0, none⟩))] [] (by rw [Try.ntmps20]; exact Nat.le_of_ble_eq_true rfl) (by rw [show Try.f20.ntmps = 9 from Try.ntmps20, eq_Snap]; exact h)

end Go.Proofs.Ytfpbiecmobdnnaa
