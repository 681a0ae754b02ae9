/-
  The functions of the document's ballot: printed by a program of this session's own, each proved to be the function's by the kernel.
  Conditions: none; it proves no statement by itself.
-/
import Derived.Test.YtfpbiecmobdnnaaFwU
import Derived.Test.YtfpbiecmobdnnaaProg
set_option linter.unusedVariables false
set_option maxHeartbeats 1000000
namespace Go.Proofs.Ytfpbiecmobdnnaa
open Fw Fw.W Go

/-- (*lintel/lintelref09.Ballot).Last -/
def vc_rLast {W : Type} (π : Prims W) (r : Nat) : W :=
  π.unSome (some (Addr.mk r (0 : Nat) none)) fun p0 =>
  π.ld [.int .i64] (p0.add (6 : Nat)) fun ((x1 : Int), _) =>
  π.unSome (some (Addr.mk r (0 : Nat) none)) fun p2 =>
  π.ld [.slice] (p2.add (9 : Nat)) fun (((a3 : Option Addr), (n4 : Nat), (c5 : Nat)), _) =>
  π.ret (Go.Value.int (IntKind.i64) (IntKind.i64.wrap (x1 + (↑n4 : Int))))

def ann_rLast : Ann := { draws := [(1, { A := [0, 1, 2, 3, 4, 5, 6, 7, 8, 9, 10] })], join := [], loop := [] }
def la_rLast : LA := { ptr := [], ty := [] }
set_option maxRecDepth 100000 in
theorem eq_rLast {W : Type} (π : Prims W) (r : Nat) : bodyL π Try.prog la_rLast ann_rLast (mkFr (maskA [] [.v (.pointer (some ⟨r, 0, none⟩))] 0) 13) Try.f37 (bodyOf Try.f37) (mkFr (List.map some [.v (.pointer (some ⟨r, 0, none⟩))]) 13) = vc_rLast π r := by kernel_rfl
theorem ok_rLast (r : Nat) (R : Value → PH → Prop) (s : PH) (h : vc_rLast (RP Try.prog R) r s) : DCalls Try.prog 37 (List.map AV.val [.v (.pointer (some ⟨r, 0, none⟩))]).toArray s R :=
  calls_vcL (c := bodyOf Try.f37) (ann := ann_rLast) la_rLast (by kernel_rfl) Try.func37 rfl (by kernel_rfl) [.v (.pointer (some ⟨r, 0, none⟩))] [] (by rw [Try.ntmps37]; exact Nat.le_of_ble_eq_true rfl) (by kernel_rfl) (by rw [show Try.f37.ntmps = 13 from Try.ntmps37, eq_rLast]; exact h)

/-- (*lintel/lintelref09.Ballot).TermAt -/
def vc_rTermAt {W : Type} (π : Prims W) (r : Nat) (i : Int) : W :=
  π.unSome (some (Addr.mk r (0 : Nat) none)) fun p0 =>
  π.ld [.int .i64] (p0.add (6 : Nat)) fun ((x1 : Int), _) =>
  π.ite (i == x1) (
    π.unSome (some (Addr.mk r (0 : Nat) none)) fun p2 =>
    π.ld [.int .i64] (p2.add (7 : Nat)) fun ((x3 : Int), _) =>
    π.ret (Go.Value.int (IntKind.i64) (x3))
  ) (
    π.unSome (some (Addr.mk r (0 : Nat) none)) fun p4 =>
    π.ld [.int .i64] (p4.add (6 : Nat)) fun ((x5 : Int), _) =>
    π.ite (decide (i < x5)) (
      π.ret (Go.Value.int (IntKind.i64) ((-1 : Int)))
    ) (
      π.call (37 : Nat) #[(Go.Value.pointer (some (Addr.mk r (0 : Nat) none)))] (false, [(false, [.int .i64])]) fun (((x6 : Int), _), _) =>
      π.ite (decide (i > x6)) (
        π.ret (Go.Value.int (IntKind.i64) ((-1 : Int)))
      ) (
        π.unSome (some (Addr.mk r (0 : Nat) none)) fun p7 =>
        π.ld [.slice] (p7.add (9 : Nat)) fun (((a8 : Option Addr), (n9 : Nat), (c10 : Nat)), _) =>
        π.unSome (some (Addr.mk r (0 : Nat) none)) fun p11 =>
        π.ld [.int .i64] (p11.add (6 : Nat)) fun ((x12 : Int), _) =>
        π.guard ((0 : Int) ≤ IntKind.i64.wrap (IntKind.i64.wrap (i - x12) - (1 : Int)) ∧ IntKind.i64.wrap (IntKind.i64.wrap (i - x12) - (1 : Int)) < (↑n9 : Int)) <|
        π.unSome (a8) fun p13 =>
        π.ld [.int .i64] ((p13.add ((IntKind.i64.wrap (IntKind.i64.wrap (i - x12) - (1 : Int))).toNat * (4 : Nat))).add (0 : Nat)) fun ((x14 : Int), _) =>
        π.ret (Go.Value.int (IntKind.i64) (x14))
      )
    )
  )

def ann_rTermAt : Ann := { draws := [(5, { A := [0, 1, 2, 3, 4, 5, 6, 7, 8, 9, 10, 11, 12, 13, 14] })], join := [], loop := [] }
def la_rTermAt : LA := { ptr := [], ty := [] }
set_option maxRecDepth 100000 in
theorem eq_rTermAt {W : Type} (π : Prims W) (r : Nat) (i : Int) : bodyL π Try.prog la_rTermAt ann_rTermAt (mkFr (maskA [] [.v (.pointer (some ⟨r, 0, none⟩)), .v (.int .i64 i)] 0) 41) Try.f58 (bodyOf Try.f58) (mkFr (List.map some [.v (.pointer (some ⟨r, 0, none⟩)), .v (.int .i64 i)]) 41) = vc_rTermAt π r i := by kernel_rfl
theorem ok_rTermAt (r : Nat) (i : Int) (R : Value → PH → Prop) (s : PH) (h : vc_rTermAt (RP Try.prog R) r i s) : DCalls Try.prog 58 (List.map AV.val [.v (.pointer (some ⟨r, 0, none⟩)), .v (.int .i64 i)]).toArray s R :=
  calls_vcL (c := bodyOf Try.f58) (ann := ann_rTermAt) la_rTermAt (by kernel_rfl) Try.func58 rfl (by kernel_rfl) [.v (.pointer (some ⟨r, 0, none⟩)), .v (.int .i64 i)] [] (by rw [Try.ntmps58]; exact Nat.le_of_ble_eq_true rfl) (by kernel_rfl) (by rw [show Try.f58.ntmps = 41 from Try.ntmps58, eq_rTermAt]; exact h)

/-- (*lintel/lintelref09.Ballot).put -/
def vc_rput {W : Type} (π : Prims W) (r : Nat) (i : Int) (a : Option Addr) (an ac : Nat) : W :=
  π.unSome (some (Addr.mk r (0 : Nat) none)) fun p0 =>
  π.ld [.slice] (p0.add (9 : Nat)) fun (((a1 : Option Addr), (n2 : Nat), (c3 : Nat)), _) =>
  π.unSome (some (Addr.mk r (0 : Nat) none)) fun p4 =>
  π.ld [.int .i64] (p4.add (6 : Nat)) fun ((x5 : Int), _) =>
  π.guard ((0 : Int) ≤ (0 : Int) ∧ (0 : Int) ≤ IntKind.i64.wrap (IntKind.i64.wrap (i - x5) - (1 : Int)) ∧ IntKind.i64.wrap (IntKind.i64.wrap (i - x5) - (1 : Int)) ≤ (↑c3 : Int)) <|
  π.nw (Go.Obj.cells #[] (39 : Nat) ((0 : Nat), (0 : Nat))) fun r6 =>
  π.app (39 : Nat) (4 : Nat) (40 : Nat) [(Go.Value.int (IntKind.i64) ((0 : Int))), (Go.Value.int (IntKind.i64) ((0 : Int))), (Go.Value.int (IntKind.i64) ((0 : Int))), (Go.Value.string (ByteArray.mk #[]))] (some (Addr.mk r6 (0 : Nat) none)) ((0 : Nat)) ((0 : Nat)) (Src.sl (if c3 = (0 : Nat) then a1 else Option.map (fun x => x.add (0 : Nat)) a1) ((IntKind.i64.wrap (IntKind.i64.wrap (i - x5) - (1 : Int))).toNat - (0 : Nat))) fun a7 n8 c9 =>
  π.app (39 : Nat) (4 : Nat) (40 : Nat) [(Go.Value.int (IntKind.i64) ((0 : Int))), (Go.Value.int (IntKind.i64) ((0 : Int))), (Go.Value.int (IntKind.i64) ((0 : Int))), (Go.Value.string (ByteArray.mk #[]))] (a7) (n8) (c9) (Src.sl a an) fun a10 n11 c12 =>
  π.unSome (some (Addr.mk r (0 : Nat) none)) fun p13 =>
  π.st (p13.add (9 : Nat)) [(Go.Value.slice (a10) (n11) (c12))] <|
  π.unSome (some (Addr.mk r (0 : Nat) none)) fun p14 =>
  π.st (p14.add (26 : Nat)) [(Go.Value.bool (true))] <|
  π.unSome (some (Addr.mk r (0 : Nat) none)) fun p15 =>
  π.ld [.int .i64] (p15.add (28 : Nat)) fun ((x16 : Int), _) =>
  π.ite (decide (i < x16)) (
    π.unSome (some (Addr.mk r (0 : Nat) none)) fun p17 =>
    π.st (p17.add (28 : Nat)) [(Go.Value.int (IntKind.i64) (i))] <|
    π.ret (Go.Value.tuple #[])
  ) (
    π.ret (Go.Value.tuple #[])
  )

def ann_rput : Ann := { draws := [(0, { A := [1, 2, 3, 4, 5, 6, 7, 8, 9, 10, 11, 12], eag := [14] })], join := [], loop := [] }
def la_rput : LA := { ptr := [], ty := [] }
set_option maxRecDepth 100000 in
theorem eq_rput {W : Type} (π : Prims W) (r : Nat) (i : Int) (a : Option Addr) (an ac : Nat) : bodyL π Try.prog la_rput ann_rput (mkFr (maskA [] [.v (.pointer (some ⟨r, 0, none⟩)), .v (.int .i64 i), .v (.slice a an ac)] 0) 40) Try.f62 (bodyOf Try.f62) (mkFr (List.map some [.v (.pointer (some ⟨r, 0, none⟩)), .v (.int .i64 i), .v (.slice a an ac)]) 40) = vc_rput π r i a an ac := by kernel_rfl
theorem ok_rput (r : Nat) (i : Int) (a : Option Addr) (an ac : Nat) (R : Value → PH → Prop) (s : PH) (h : vc_rput (RP Try.prog R) r i a an ac s) : DCalls Try.prog 62 (List.map AV.val [.v (.pointer (some ⟨r, 0, none⟩)), .v (.int .i64 i), .v (.slice a an ac)]).toArray s R :=
  calls_vcL (c := bodyOf Try.f62) (ann := ann_rput) la_rput (by kernel_rfl) Try.func62 rfl (by kernel_rfl) [.v (.pointer (some ⟨r, 0, none⟩)), .v (.int .i64 i), .v (.slice a an ac)] [] (by rw [Try.ntmps62]; exact Nat.le_of_ble_eq_true rfl) (by kernel_rfl) (by rw [show Try.f62.ntmps = 40 from Try.ntmps62, eq_rput]; exact h)

/-- (*lintel/lintelref09.Ballot).send -/
def vc_rsend {W : Type} (π : Prims W) (r : Nat) (mk mf mt mm mi mp mc : Int) (mg : Bool) (la : Option Addr) (ln lc : Nat) (ms : ByteArray) : W :=
  π.nw (Go.Obj.cells #[(Go.Value.int (IntKind.i64) (mk)), (Go.Value.int (IntKind.i64) (mf)), (Go.Value.int (IntKind.i64) (mt)), (Go.Value.int (IntKind.i64) (mm)), (Go.Value.int (IntKind.i64) (mi)), (Go.Value.int (IntKind.i64) (mp)), (Go.Value.int (IntKind.i64) (mc)), (Go.Value.bool (mg)), (Go.Value.slice (la) (ln) (lc)), (Go.Value.string (ms))] (32 : Nat) ((0 : Nat), (0 : Nat))) fun r0 =>
  π.unSome (some (Addr.mk r (0 : Nat) none)) fun p1 =>
  π.ld [.int .i64] (p1.add (0 : Nat)) fun ((x2 : Int), _) =>
  π.st ((Addr.mk r0 (0 : Nat) none).add (1 : Nat)) [(Go.Value.int (IntKind.i64) (x2))] <|
  π.unSome (some (Addr.mk r (0 : Nat) none)) fun p3 =>
  π.ld [.int .i64] (p3.add (2 : Nat)) fun ((x4 : Int), _) =>
  π.st ((Addr.mk r0 (0 : Nat) none).add (3 : Nat)) [(Go.Value.int (IntKind.i64) (x4))] <|
  π.unSome (some (Addr.mk r (0 : Nat) none)) fun p5 =>
  π.ld [.slice] (p5.add (29 : Nat)) fun (((a6 : Option Addr), (n7 : Nat), (c8 : Nat)), _) =>
  π.ld [.int .i64, .int .i64, .int .i64, .int .i64, .int .i64, .int .i64, .int .i64, .bool, .slice, .str] (Addr.mk r0 (0 : Nat) none) fun ((x9 : Int), (x10 : Int), (x11 : Int), (x12 : Int), (x13 : Int), (x14 : Int), (x15 : Int), (b16 : Bool), ((a17 : Option Addr), (n18 : Nat), (c19 : Nat)), (t20 : ByteArray), _) =>
  π.nw (Go.Obj.cells #[(Go.Value.int (IntKind.i64) (x9)), (Go.Value.int (IntKind.i64) (x10)), (Go.Value.int (IntKind.i64) (x11)), (Go.Value.int (IntKind.i64) (x12)), (Go.Value.int (IntKind.i64) (x13)), (Go.Value.int (IntKind.i64) (x14)), (Go.Value.int (IntKind.i64) (x15)), (Go.Value.bool (b16)), (Go.Value.slice (a17) (n18) (c19)), (Go.Value.string (t20))] (32 : Nat) ((0 : Nat), (0 : Nat))) fun r21 =>
  π.app (32 : Nat) (10 : Nat) (104 : Nat) [(Go.Value.int (IntKind.i64) ((0 : Int))), (Go.Value.int (IntKind.i64) ((0 : Int))), (Go.Value.int (IntKind.i64) ((0 : Int))), (Go.Value.int (IntKind.i64) ((0 : Int))), (Go.Value.int (IntKind.i64) ((0 : Int))), (Go.Value.int (IntKind.i64) ((0 : Int))), (Go.Value.int (IntKind.i64) ((0 : Int))), (Go.Value.bool (false)), (Go.Value.slice (none) ((0 : Nat)) ((0 : Nat))), (Go.Value.string (ByteArray.mk #[]))] (a6) (n7) (c8) (Src.sl (some (Addr.mk r21 (0 : Nat) none)) (1 : Nat)) fun a22 n23 c24 =>
  π.unSome (some (Addr.mk r (0 : Nat) none)) fun p25 =>
  π.st (p25.add (29 : Nat)) [(Go.Value.slice (a22) (n23) (c24))] <|
  π.ret (Go.Value.tuple #[])

def ann_rsend : Ann := { draws := [(3, { A := [0, 1, 2, 3, 4, 5], eag := [8, 9] })], join := [], loop := [] }
def la_rsend : LA := { ptr := [], ty := [] }
set_option maxRecDepth 100000 in
theorem eq_rsend {W : Type} (π : Prims W) (r : Nat) (mk mf mt mm mi mp mc : Int) (mg : Bool) (la : Option Addr) (ln lc : Nat) (ms : ByteArray) : bodyL π Try.prog la_rsend ann_rsend (mkFr (maskA [] [.v (.pointer (some ⟨r, 0, none⟩)), .v (.agg #[.int .i64 mk, .int .i64 mf, .int .i64 mt, .int .i64 mm, .int .i64 mi, .int .i64 mp, .int .i64 mc, .bool mg, .slice la ln lc, .string ms])] 0) 24) Try.f57 (bodyOf Try.f57) (mkFr (List.map some [.v (.pointer (some ⟨r, 0, none⟩)), .v (.agg #[.int .i64 mk, .int .i64 mf, .int .i64 mt, .int .i64 mm, .int .i64 mi, .int .i64 mp, .int .i64 mc, .bool mg, .slice la ln lc, .string ms])]) 24) = vc_rsend π r mk mf mt mm mi mp mc mg la ln lc ms := by kernel_rfl
theorem ok_rsend (r : Nat) (mk mf mt mm mi mp mc : Int) (mg : Bool) (la : Option Addr) (ln lc : Nat) (ms : ByteArray) (R : Value → PH → Prop) (s : PH) (h : vc_rsend (RP Try.prog R) r mk mf mt mm mi mp mc mg la ln lc ms s) : DCalls Try.prog 57 (List.map AV.val [.v (.pointer (some ⟨r, 0, none⟩)), .v (.agg #[.int .i64 mk, .int .i64 mf, .int .i64 mt, .int .i64 mm, .int .i64 mi, .int .i64 mp, .int .i64 mc, .bool mg, .slice la ln lc, .string ms])]).toArray s R :=
  calls_vcL (c := bodyOf Try.f57) (ann := ann_rsend) la_rsend (by kernel_rfl) Try.func57 rfl (by kernel_rfl) [.v (.pointer (some ⟨r, 0, none⟩)), .v (.agg #[.int .i64 mk, .int .i64 mf, .int .i64 mt, .int .i64 mm, .int .i64 mi, .int .i64 mp, .int .i64 mc, .bool mg, .slice la ln lc, .string ms])] [] (by rw [Try.ntmps57]; exact Nat.le_of_ble_eq_true rfl) (by kernel_rfl) (by rw [show Try.f57.ntmps = 24 from Try.ntmps57, eq_rsend]; exact h)

/-- (*lintel/lintelref09.Ballot).sent -/
def vc_rsent {W : Type} (π : Prims W) (r : Nat) : W :=
  π.unSome (some (Addr.mk r (0 : Nat) none)) fun p0 =>
  π.ld [.slice] (p0.add (29 : Nat)) fun (((a1 : Option Addr), (n2 : Nat), (c3 : Nat)), _) =>
  π.unSome (some (Addr.mk r (0 : Nat) none)) fun p4 =>
  π.st (p4.add (29 : Nat)) [(Go.Value.slice (none) ((0 : Nat)) ((0 : Nat)))] <|
  π.ret (Go.Value.slice (a1) (n2) (c3))

def ann_rsent : Ann := { draws := [], join := [], loop := [] }
def la_rsent : LA := { ptr := [], ty := [] }
set_option maxRecDepth 100000 in
theorem eq_rsent {W : Type} (π : Prims W) (r : Nat) : bodyL π Try.prog la_rsent ann_rsent (mkFr (maskA [] [.v (.pointer (some ⟨r, 0, none⟩))] 0) 12) Try.f60 (bodyOf Try.f60) (mkFr (List.map some [.v (.pointer (some ⟨r, 0, none⟩))]) 12) = vc_rsent π r := by kernel_rfl
theorem ok_rsent (r : Nat) (R : Value → PH → Prop) (s : PH) (h : vc_rsent (RP Try.prog R) r s) : DCalls Try.prog 60 (List.map AV.val [.v (.pointer (some ⟨r, 0, none⟩))]).toArray s R :=
  calls_vcL (c := bodyOf Try.f60) (ann := ann_rsent) la_rsent (by kernel_rfl) Try.func60 rfl (by kernel_rfl) [.v (.pointer (some ⟨r, 0, none⟩))] [] (by rw [Try.ntmps60]; exact Nat.le_of_ble_eq_true rfl) (by kernel_rfl) (by rw [show Try.f60.ntmps = 12 from Try.ntmps60, eq_rsent]; exact h)

/-- (*lintel/lintelref09.Ballot).feed -/
def vc_rfeed {W : Type} (π : Prims W) (r : Nat) (to : Int) : W :=
  π.unSome (some (Addr.mk r (0 : Nat) none)) fun p0 =>
  π.guard ((0 : Int) ≤ to ∧ to < (5 : Int)) <|
  π.ld [.int .i64] ((p0.add (15 : Nat)).add (to.toNat * (1 : Nat))) fun ((x1 : Int), _) =>
  π.unSome (some (Addr.mk r (0 : Nat) none)) fun p2 =>
  π.ld [.int .i64] (p2.add (6 : Nat)) fun ((x3 : Int), _) =>
  π.ite (decide (x1 ≤ x3)) (
    π.unSome (some (Addr.mk r (0 : Nat) none)) fun p4 =>
    π.ld [.int .i64] (p4.add (6 : Nat)) fun ((x5 : Int), _) =>
    π.unSome (some (Addr.mk r (0 : Nat) none)) fun p6 =>
    π.ld [.int .i64] (p6.add (7 : Nat)) fun ((x7 : Int), _) =>
    π.unSome (some (Addr.mk r (0 : Nat) none)) fun p8 =>
    π.ld [.str] (p8.add (8 : Nat)) fun ((t9 : ByteArray), _) =>
    π.call (57 : Nat) #[(Go.Value.pointer (some (Addr.mk r (0 : Nat) none))), (Go.Value.agg #[(Go.Value.int (IntKind.i64) ((5 : Int))), (Go.Value.int (IntKind.i64) ((0 : Int))), (Go.Value.int (IntKind.i64) (to)), (Go.Value.int (IntKind.i64) ((0 : Int))), (Go.Value.int (IntKind.i64) (x5)), (Go.Value.int (IntKind.i64) (x7)), (Go.Value.int (IntKind.i64) ((0 : Int))), (Go.Value.bool (false)), (Go.Value.slice (none) ((0 : Nat)) ((0 : Nat))), (Go.Value.string (t9))])] (true, []) fun (_) =>
    π.ret (Go.Value.tuple #[])
  ) (
    π.loop [(false, [.int .i64]), (false, [.slice]), (false, [.int .i64])] ((x1, ()), ((none, (0 : Nat), (0 : Nat)), ()), (x1, ()), ()) fun (((x11 : Int), _), (((a12 : Option Addr), (n13 : Nat), (c14 : Nat)), _), ((x15 : Int), _), _) again10 =>
      π.join [(false, [.int .i64]), (false, [.slice]), (false, [.int .i64])] (fun J16 =>
        π.call (37 : Nat) #[(Go.Value.pointer (some (Addr.mk r (0 : Nat) none)))] (false, [(false, [.int .i64])]) fun (((x17 : Int), _), _) =>
        π.ite (decide (x15 ≤ x17)) (
          π.ite (decide (x15 < IntKind.i64.wrap (x11 + (8 : Int)))) (
            J16 ((x11, ()), ((a12, n13, c14), ()), (x15, ()), ())
          ) (
            π.callQ (58 : Nat) #[(Go.Value.pointer (some (Addr.mk r (0 : Nat) none))), (Go.Value.int (IntKind.i64) (IntKind.i64.wrap (x11 - (1 : Int))))] (false, [(false, [.int .i64])]) fun (((x18 : Int), _), _) =>
            π.unSome (some (Addr.mk r (0 : Nat) none)) fun p19 =>
            π.ld [.int .i64] (p19.add (25 : Nat)) fun ((x20 : Int), _) =>
            π.call (57 : Nat) #[(Go.Value.pointer (some (Addr.mk r (0 : Nat) none))), (Go.Value.agg #[(Go.Value.int (IntKind.i64) ((3 : Int))), (Go.Value.int (IntKind.i64) ((0 : Int))), (Go.Value.int (IntKind.i64) (to)), (Go.Value.int (IntKind.i64) ((0 : Int))), (Go.Value.int (IntKind.i64) (IntKind.i64.wrap (x11 - (1 : Int)))), (Go.Value.int (IntKind.i64) (x18)), (Go.Value.int (IntKind.i64) (x20)), (Go.Value.bool (false)), (Go.Value.slice (a12) (n13) (c14)), (Go.Value.string (ByteArray.mk #[]))])] (true, []) fun (_) =>
            π.ret (Go.Value.tuple #[])
          )
        ) (
          π.callQ (58 : Nat) #[(Go.Value.pointer (some (Addr.mk r (0 : Nat) none))), (Go.Value.int (IntKind.i64) (IntKind.i64.wrap (x11 - (1 : Int))))] (false, [(false, [.int .i64])]) fun (((x21 : Int), _), _) =>
          π.unSome (some (Addr.mk r (0 : Nat) none)) fun p22 =>
          π.ld [.int .i64] (p22.add (25 : Nat)) fun ((x23 : Int), _) =>
          π.call (57 : Nat) #[(Go.Value.pointer (some (Addr.mk r (0 : Nat) none))), (Go.Value.agg #[(Go.Value.int (IntKind.i64) ((3 : Int))), (Go.Value.int (IntKind.i64) ((0 : Int))), (Go.Value.int (IntKind.i64) (to)), (Go.Value.int (IntKind.i64) ((0 : Int))), (Go.Value.int (IntKind.i64) (IntKind.i64.wrap (x11 - (1 : Int)))), (Go.Value.int (IntKind.i64) (x21)), (Go.Value.int (IntKind.i64) (x23)), (Go.Value.bool (false)), (Go.Value.slice (a12) (n13) (c14)), (Go.Value.string (ByteArray.mk #[]))])] (true, []) fun (_) =>
          π.ret (Go.Value.tuple #[])
        )
      ) (fun (((x24 : Int), _), (((a25 : Option Addr), (n26 : Nat), (c27 : Nat)), _), ((x28 : Int), _), _) =>
        π.unSome (some (Addr.mk r (0 : Nat) none)) fun p29 =>
        π.ld [.slice] (p29.add (9 : Nat)) fun (((a30 : Option Addr), (n31 : Nat), (c32 : Nat)), _) =>
        π.unSome (some (Addr.mk r (0 : Nat) none)) fun p33 =>
        π.ld [.int .i64] (p33.add (6 : Nat)) fun ((x34 : Int), _) =>
        π.guard ((0 : Int) ≤ IntKind.i64.wrap (IntKind.i64.wrap (x28 - x34) - (1 : Int)) ∧ IntKind.i64.wrap (IntKind.i64.wrap (x28 - x34) - (1 : Int)) < (↑n31 : Int)) <|
        π.unSome (a30) fun p35 =>
        π.ld [.int .i64, .int .i64, .int .i64, .str] (p35.add ((IntKind.i64.wrap (IntKind.i64.wrap (x28 - x34) - (1 : Int))).toNat * (4 : Nat))) fun ((x36 : Int), (x37 : Int), (x38 : Int), (t39 : ByteArray), _) =>
        π.nw (Go.Obj.cells #[(Go.Value.int (IntKind.i64) (x36)), (Go.Value.int (IntKind.i64) (x37)), (Go.Value.int (IntKind.i64) (x38)), (Go.Value.string (t39))] (39 : Nat) ((0 : Nat), (0 : Nat))) fun r40 =>
        π.app (39 : Nat) (4 : Nat) (40 : Nat) [(Go.Value.int (IntKind.i64) ((0 : Int))), (Go.Value.int (IntKind.i64) ((0 : Int))), (Go.Value.int (IntKind.i64) ((0 : Int))), (Go.Value.string (ByteArray.mk #[]))] (a25) (n26) (c27) (Src.sl (some (Addr.mk r40 (0 : Nat) none)) (1 : Nat)) fun a41 n42 c43 =>
        again10 ((x24, ()), ((a41, n42, c43), ()), (IntKind.i64.wrap (x28 + (1 : Int)), ()), ())
      )
  )

def ann_rfeed : Ann := { draws := [(2, { A := [0, 1, 2, 3, 4, 5, 6, 7, 8, 9, 10, 11, 12, 13, 14] }), (7, { A := [0, 1, 2, 3, 4, 5, 6, 7, 8, 9, 10, 11, 12, 13] }), (8, { A := [0, 1, 2, 3, 4, 5, 6, 7, 8, 9, 10, 11, 12, 13], quiet := [7] })], join := [(7, [(4, 3), (5, 30), (6, 3)])], loop := [(5, [(4, 3), (5, 30), (6, 3)])] }
def la_rfeed : LA := { ptr := [], ty := [] }
set_option maxRecDepth 100000 in
theorem eq_rfeed {W : Type} (π : Prims W) (r : Nat) (to : Int) : bodyL π Try.prog la_rfeed ann_rfeed (mkFr (maskA [] [.v (.pointer (some ⟨r, 0, none⟩)), .v (.int .i64 to)] 0) 79) Try.f72 (bodyOf Try.f72) (mkFr (List.map some [.v (.pointer (some ⟨r, 0, none⟩)), .v (.int .i64 to)]) 79) = vc_rfeed π r to := by kernel_rfl
theorem ok_rfeed (r : Nat) (to : Int) (R : Value → PH → Prop) (s : PH) (h : vc_rfeed (RP Try.prog R) r to s) : DCalls Try.prog 72 (List.map AV.val [.v (.pointer (some ⟨r, 0, none⟩)), .v (.int .i64 to)]).toArray s R :=
  calls_vcL (c := bodyOf Try.f72) (ann := ann_rfeed) la_rfeed (by kernel_rfl) Try.func72 rfl (by kernel_rfl) [.v (.pointer (some ⟨r, 0, none⟩)), .v (.int .i64 to)] [] (by rw [Try.ntmps72]; exact Nat.le_of_ble_eq_true rfl) (by kernel_rfl) (by rw [show Try.f72.ntmps = 79 from Try.ntmps72, eq_rfeed]; exact h)

/-- (*lintel/lintelref09.Ballot).feedAll -/
def vc_rfeedAll {W : Type} (π : Prims W) (r : Nat) : W :=
  π.loop [(false, [.int .i64])] (((0 : Int), ()), ()) fun (((x1 : Int), _), _) again0 =>
    π.unSome (some (Addr.mk r (0 : Nat) none)) fun p2 =>
    π.ld [.int .i64] (p2.add (1 : Nat)) fun ((x3 : Int), _) =>
    π.ite (decide (x1 < x3)) (
      π.unSome (some (Addr.mk r (0 : Nat) none)) fun p4 =>
      π.ld [.int .i64] (p4.add (0 : Nat)) fun ((x5 : Int), _) =>
      π.ite (x1 != x5) (
        π.call (72 : Nat) #[(Go.Value.pointer (some (Addr.mk r (0 : Nat) none))), (Go.Value.int (IntKind.i64) (x1))] (true, []) fun (_) =>
        again0 ((IntKind.i64.wrap (x1 + (1 : Int)), ()), ())
      ) (
        again0 ((IntKind.i64.wrap (x1 + (1 : Int)), ()), ())
      )
    ) (
      π.ret (Go.Value.tuple #[])
    )

def ann_rfeedAll : Ann := { draws := [], join := [], loop := [(1, [(2, 3)])] }
def la_rfeedAll : LA := { ptr := [], ty := [] }
set_option maxRecDepth 100000 in
theorem eq_rfeedAll {W : Type} (π : Prims W) (r : Nat) : bodyL π Try.prog la_rfeedAll ann_rfeedAll (mkFr (maskA [] [.v (.pointer (some ⟨r, 0, none⟩))] 0) 20) Try.f61 (bodyOf Try.f61) (mkFr (List.map some [.v (.pointer (some ⟨r, 0, none⟩))]) 20) = vc_rfeedAll π r := by kernel_rfl
theorem ok_rfeedAll (r : Nat) (R : Value → PH → Prop) (s : PH) (h : vc_rfeedAll (RP Try.prog R) r s) : DCalls Try.prog 61 (List.map AV.val [.v (.pointer (some ⟨r, 0, none⟩))]).toArray s R :=
  calls_vcL (c := bodyOf Try.f61) (ann := ann_rfeedAll) la_rfeedAll (by kernel_rfl) Try.func61 rfl (by kernel_rfl) [.v (.pointer (some ⟨r, 0, none⟩))] [] (by rw [Try.ntmps61]; exact Nat.le_of_ble_eq_true rfl) (by kernel_rfl) (by rw [show Try.f61.ntmps = 20 from Try.ntmps61, eq_rfeedAll]; exact h)

/-- (*lintel/lintelref09.Ballot).settle -/
def vc_rsettle {W : Type} (π : Prims W) (r : Nat) : W :=
  π.unSome (some (Addr.mk r (0 : Nat) none)) fun p0 =>
  π.ld [.int .i64] (p0.add (25 : Nat)) fun ((x1 : Int), _) =>
  π.loop [(false, [.int .i64]), (false, [.int .i64])] (((0 : Int), ()), (IntKind.i64.wrap (x1 + (1 : Int)), ()), ()) fun (((x3 : Int), _), ((x4 : Int), _), _) again2 =>
    π.call (37 : Nat) #[(Go.Value.pointer (some (Addr.mk r (0 : Nat) none)))] (false, [(false, [.int .i64])]) fun (((x5 : Int), _), _) =>
    π.ite (decide (x4 ≤ x5)) (
      π.loop [(false, [.int .i64]), (false, [.int .i64]), (false, [.int .i64]), (false, [.int .i64])] ((x3, ()), (x4, ()), ((1 : Int), ()), ((0 : Int), ()), ()) fun (((x7 : Int), _), ((x8 : Int), _), ((x9 : Int), _), ((x10 : Int), _), _) again6 =>
        π.unSome (some (Addr.mk r (0 : Nat) none)) fun p11 =>
        π.ld [.int .i64] (p11.add (1 : Nat)) fun ((x12 : Int), _) =>
        π.ite (decide (x10 < x12)) (
          π.unSome (some (Addr.mk r (0 : Nat) none)) fun p13 =>
          π.ld [.int .i64] (p13.add (0 : Nat)) fun ((x14 : Int), _) =>
          π.ite (x10 != x14) (
            π.unSome (some (Addr.mk r (0 : Nat) none)) fun p15 =>
            π.guard ((0 : Int) ≤ x10 ∧ x10 < (5 : Int)) <|
            π.ld [.int .i64] ((p15.add (20 : Nat)).add (x10.toNat * (1 : Nat))) fun ((x16 : Int), _) =>
            π.ite (decide (x16 ≥ x8)) (
              again6 ((x7, ()), (x8, ()), (IntKind.i64.wrap (x9 + (1 : Int)), ()), (IntKind.i64.wrap (x10 + (1 : Int)), ()), ())
            ) (
              again6 ((x7, ()), (x8, ()), (x9, ()), (IntKind.i64.wrap (x10 + (1 : Int)), ()), ())
            )
          ) (
            again6 ((x7, ()), (x8, ()), (x9, ()), (IntKind.i64.wrap (x10 + (1 : Int)), ()), ())
          )
        ) (
          π.unSome (some (Addr.mk r (0 : Nat) none)) fun p17 =>
          π.ld [.int .i64] (p17.add (1 : Nat)) fun ((x18 : Int), _) =>
          π.ite (decide (IntKind.i64.wrap ((2 : Int) * x9) > x18)) (
            π.callQ (58 : Nat) #[(Go.Value.pointer (some (Addr.mk r (0 : Nat) none))), (Go.Value.int (IntKind.i64) (x8))] (false, [(false, [.int .i64])]) fun (((x19 : Int), _), _) =>
            π.unSome (some (Addr.mk r (0 : Nat) none)) fun p20 =>
            π.ld [.int .i64] (p20.add (2 : Nat)) fun ((x21 : Int), _) =>
            π.ite (x19 == x21) (
              again2 ((x8, ()), (IntKind.i64.wrap (x8 + (1 : Int)), ()), ())
            ) (
              again2 ((x7, ()), (IntKind.i64.wrap (x8 + (1 : Int)), ()), ())
            )
          ) (
            again2 ((x7, ()), (IntKind.i64.wrap (x8 + (1 : Int)), ()), ())
          )
        )
    ) (
      π.ite (decide (x3 > (0 : Int))) (
        π.unSome (some (Addr.mk r (0 : Nat) none)) fun p22 =>
        π.st (p22.add (25 : Nat)) [(Go.Value.int (IntKind.i64) (x3))] <|
        π.call (61 : Nat) #[(Go.Value.pointer (some (Addr.mk r (0 : Nat) none)))] (true, []) fun (_) =>
        π.ret (Go.Value.tuple #[])
      ) (
        π.ret (Go.Value.tuple #[])
      )
    )

def ann_rsettle : Ann := { draws := [(10, { A := [0, 1, 2, 3, 4, 5, 6, 7, 8, 9, 10, 11, 12, 13, 14, 15, 16], quiet := [10] })], join := [], loop := [(2, [(2, 3), (3, 3)]), (6, [(2, 3), (3, 3), (4, 3), (5, 3)])] }
def la_rsettle : LA := { ptr := [], ty := [] }
set_option maxRecDepth 100000 in
theorem eq_rsettle {W : Type} (π : Prims W) (r : Nat) : bodyL π Try.prog la_rsettle ann_rsettle (mkFr (maskA [] [.v (.pointer (some ⟨r, 0, none⟩))] 0) 69) Try.f63 (bodyOf Try.f63) (mkFr (List.map some [.v (.pointer (some ⟨r, 0, none⟩))]) 69) = vc_rsettle π r := by kernel_rfl
theorem ok_rsettle (r : Nat) (R : Value → PH → Prop) (s : PH) (h : vc_rsettle (RP Try.prog R) r s) : DCalls Try.prog 63 (List.map AV.val [.v (.pointer (some ⟨r, 0, none⟩))]).toArray s R :=
  calls_vcL (c := bodyOf Try.f63) (ann := ann_rsettle) la_rsettle (by kernel_rfl) Try.func63 rfl (by kernel_rfl) [.v (.pointer (some ⟨r, 0, none⟩))] [] (by rw [Try.ntmps63]; exact Nat.le_of_ble_eq_true rfl) (by kernel_rfl) (by rw [show Try.f63.ntmps = 69 from Try.ntmps63, eq_rsettle]; exact h)

/-- (*lintel/lintelref09.Ballot).count -/
def vc_rcount {W : Type} (π : Prims W) (r : Nat) : W :=
  π.loop [(false, [.int .i64]), (false, [.int .i64])] (((0 : Int), ()), ((0 : Int), ()), ()) fun (((x1 : Int), _), ((x2 : Int), _), _) again0 =>
    π.unSome (some (Addr.mk r (0 : Nat) none)) fun p3 =>
    π.ld [.int .i64] (p3.add (1 : Nat)) fun ((x4 : Int), _) =>
    π.ite (decide (x2 < x4)) (
      π.unSome (some (Addr.mk r (0 : Nat) none)) fun p5 =>
      π.guard ((0 : Int) ≤ x2 ∧ x2 < (5 : Int)) <|
      π.ld [.bool] ((p5.add (10 : Nat)).add (x2.toNat * (1 : Nat))) fun ((b6 : Bool), _) =>
      π.ite (b6) (
        again0 ((IntKind.i64.wrap (x1 + (1 : Int)), ()), (IntKind.i64.wrap (x2 + (1 : Int)), ()), ())
      ) (
        again0 ((x1, ()), (IntKind.i64.wrap (x2 + (1 : Int)), ()), ())
      )
    ) (
      π.unSome (some (Addr.mk r (0 : Nat) none)) fun p7 =>
      π.ld [.int .i64] (p7.add (1 : Nat)) fun ((x8 : Int), _) =>
      π.ite (decide (IntKind.i64.wrap ((2 : Int) * x1) ≤ x8)) (
        π.ret (Go.Value.tuple #[])
      ) (
        π.unSome (some (Addr.mk r (0 : Nat) none)) fun p9 =>
        π.st (p9.add (4 : Nat)) [(Go.Value.int (IntKind.i64) ((2 : Int)))] <|
        π.unSome (some (Addr.mk r (0 : Nat) none)) fun p10 =>
        π.ld [.int .i64] (p10.add (0 : Nat)) fun ((x11 : Int), _) =>
        π.unSome (some (Addr.mk r (0 : Nat) none)) fun p12 =>
        π.st (p12.add (5 : Nat)) [(Go.Value.int (IntKind.i64) (x11))] <|
        π.loop [(false, [.int .i64])] (((0 : Int), ()), ()) fun (((x14 : Int), _), _) again13 =>
          π.unSome (some (Addr.mk r (0 : Nat) none)) fun p15 =>
          π.ld [.int .i64] (p15.add (1 : Nat)) fun ((x16 : Int), _) =>
          π.ite (decide (x14 < x16)) (
            π.callQ (37 : Nat) #[(Go.Value.pointer (some (Addr.mk r (0 : Nat) none)))] (false, [(false, [.int .i64])]) fun (((x17 : Int), _), _) =>
            π.unSome (some (Addr.mk r (0 : Nat) none)) fun p18 =>
            π.guard ((0 : Int) ≤ x14 ∧ x14 < (5 : Int)) <|
            π.st ((p18.add (15 : Nat)).add (x14.toNat * (1 : Nat))) [(Go.Value.int (IntKind.i64) (IntKind.i64.wrap (x17 + (1 : Int))))] <|
            π.unSome (some (Addr.mk r (0 : Nat) none)) fun p19 =>
            π.guard ((0 : Int) ≤ x14 ∧ x14 < (5 : Int)) <|
            π.st ((p19.add (20 : Nat)).add (x14.toNat * (1 : Nat))) [(Go.Value.int (IntKind.i64) ((0 : Int)))] <|
            again13 ((IntKind.i64.wrap (x14 + (1 : Int)), ()), ())
          ) (
            π.callQ (37 : Nat) #[(Go.Value.pointer (some (Addr.mk r (0 : Nat) none)))] (false, [(false, [.int .i64])]) fun (((x20 : Int), _), _) =>
            π.unSome (some (Addr.mk r (0 : Nat) none)) fun p21 =>
            π.ld [.int .i64] (p21.add (2 : Nat)) fun ((x22 : Int), _) =>
            π.nw (Go.Obj.cells #[(Go.Value.int (IntKind.i64) (x22)), (Go.Value.int (IntKind.i64) ((0 : Int))), (Go.Value.int (IntKind.i64) ((0 : Int))), (Go.Value.string (ByteArray.mk #[]))] (39 : Nat) ((0 : Nat), (0 : Nat))) fun r23 =>
            π.call (62 : Nat) #[(Go.Value.pointer (some (Addr.mk r (0 : Nat) none))), (Go.Value.int (IntKind.i64) (IntKind.i64.wrap (x20 + (1 : Int)))), (Go.Value.slice (some (Addr.mk r23 (0 : Nat) none)) ((1 : Nat)) ((1 : Nat)))] (true, []) fun (_) =>
            π.call (61 : Nat) #[(Go.Value.pointer (some (Addr.mk r (0 : Nat) none)))] (true, []) fun (_) =>
            π.call (63 : Nat) #[(Go.Value.pointer (some (Addr.mk r (0 : Nat) none)))] (true, []) fun (_) =>
            π.ret (Go.Value.tuple #[])
          )
      )
    )

def ann_rcount : Ann := { draws := [(12, { A := [0, 1, 2, 3, 4, 5, 6, 7], quiet := [3] }), (14, { A := [0, 1, 2, 3, 4, 5, 6, 7, 8], quiet := [2] })], join := [], loop := [(2, [(2, 3), (3, 3)]), (10, [(4, 3)])] }
def la_rcount : LA := { ptr := [], ty := [] }
set_option maxRecDepth 100000 in
theorem eq_rcount {W : Type} (π : Prims W) (r : Nat) : bodyL π Try.prog la_rcount ann_rcount (mkFr (maskA [] [.v (.pointer (some ⟨r, 0, none⟩))] 0) 74) Try.f59 (bodyOf Try.f59) (mkFr (List.map some [.v (.pointer (some ⟨r, 0, none⟩))]) 74) = vc_rcount π r := by kernel_rfl
theorem ok_rcount (r : Nat) (R : Value → PH → Prop) (s : PH) (h : vc_rcount (RP Try.prog R) r s) : DCalls Try.prog 59 (List.map AV.val [.v (.pointer (some ⟨r, 0, none⟩))]).toArray s R :=
  calls_vcL (c := bodyOf Try.f59) (ann := ann_rcount) la_rcount (by kernel_rfl) Try.func59 rfl (by kernel_rfl) [.v (.pointer (some ⟨r, 0, none⟩))] [] (by rw [Try.ntmps59]; exact Nat.le_of_ble_eq_true rfl) (by kernel_rfl) (by rw [show Try.f59.ntmps = 74 from Try.ntmps59, eq_rcount]; exact h)

/-- (*lintel/lintelref09.Ballot).Timeout -/
def vc_rTimeout {W : Type} (π : Prims W) (r : Nat) : W :=
  π.unSome (some (Addr.mk r (0 : Nat) none)) fun p0 =>
  π.ld [.int .i64] (p0.add (4 : Nat)) fun ((x1 : Int), _) =>
  π.ite (x1 == (2 : Int)) (
    π.ret (Go.Value.slice (none) ((0 : Nat)) ((0 : Nat)))
  ) (
    π.unSome (some (Addr.mk r (0 : Nat) none)) fun p2 =>
    π.ld [.int .i64] (p2.add (2 : Nat)) fun ((x3 : Int), _) =>
    π.unSome (some (Addr.mk r (0 : Nat) none)) fun p4 =>
    π.st (p4.add (2 : Nat)) [(Go.Value.int (IntKind.i64) (IntKind.i64.wrap (x3 + (1 : Int))))] <|
    π.unSome (some (Addr.mk r (0 : Nat) none)) fun p5 =>
    π.ld [.int .i64] (p5.add (0 : Nat)) fun ((x6 : Int), _) =>
    π.unSome (some (Addr.mk r (0 : Nat) none)) fun p7 =>
    π.st (p7.add (3 : Nat)) [(Go.Value.int (IntKind.i64) (x6))] <|
    π.unSome (some (Addr.mk r (0 : Nat) none)) fun p8 =>
    π.st (p8.add (4 : Nat)) [(Go.Value.int (IntKind.i64) ((1 : Int)))] <|
    π.unSome (some (Addr.mk r (0 : Nat) none)) fun p9 =>
    π.st (p9.add (5 : Nat)) [(Go.Value.int (IntKind.i64) ((-1 : Int)))] <|
    π.unSome (some (Addr.mk r (0 : Nat) none)) fun p10 =>
    π.st (p10.add (26 : Nat)) [(Go.Value.bool (true))] <|
    π.unSome (some (Addr.mk r (0 : Nat) none)) fun p11 =>
    π.st (p11.add (10 : Nat)) [(Go.Value.bool (false)), (Go.Value.bool (false)), (Go.Value.bool (false)), (Go.Value.bool (false)), (Go.Value.bool (false))] <|
    π.unSome (some (Addr.mk r (0 : Nat) none)) fun p12 =>
    π.ld [.int .i64] (p12.add (0 : Nat)) fun ((x13 : Int), _) =>
    π.unSome (some (Addr.mk r (0 : Nat) none)) fun p14 =>
    π.guard ((0 : Int) ≤ x13 ∧ x13 < (5 : Int)) <|
    π.st ((p14.add (10 : Nat)).add (x13.toNat * (1 : Nat))) [(Go.Value.bool (true))] <|
    π.loop [(false, [.int .i64])] (((0 : Int), ()), ()) fun (((x16 : Int), _), _) again15 =>
      π.unSome (some (Addr.mk r (0 : Nat) none)) fun p17 =>
      π.ld [.int .i64] (p17.add (1 : Nat)) fun ((x18 : Int), _) =>
      π.ite (decide (x16 < x18)) (
        π.unSome (some (Addr.mk r (0 : Nat) none)) fun p19 =>
        π.ld [.int .i64] (p19.add (0 : Nat)) fun ((x20 : Int), _) =>
        π.ite (x16 != x20) (
          π.call (37 : Nat) #[(Go.Value.pointer (some (Addr.mk r (0 : Nat) none)))] (false, [(false, [.int .i64])]) fun (((x21 : Int), _), _) =>
          π.call (37 : Nat) #[(Go.Value.pointer (some (Addr.mk r (0 : Nat) none)))] (false, [(false, [.int .i64])]) fun (((x22 : Int), _), _) =>
          π.call (58 : Nat) #[(Go.Value.pointer (some (Addr.mk r (0 : Nat) none))), (Go.Value.int (IntKind.i64) (x22))] (false, [(false, [.int .i64])]) fun (((x23 : Int), _), _) =>
          π.call (57 : Nat) #[(Go.Value.pointer (some (Addr.mk r (0 : Nat) none))), (Go.Value.agg #[(Go.Value.int (IntKind.i64) ((1 : Int))), (Go.Value.int (IntKind.i64) ((0 : Int))), (Go.Value.int (IntKind.i64) (x16)), (Go.Value.int (IntKind.i64) ((0 : Int))), (Go.Value.int (IntKind.i64) (x21)), (Go.Value.int (IntKind.i64) (x23)), (Go.Value.int (IntKind.i64) ((0 : Int))), (Go.Value.bool (false)), (Go.Value.slice (none) ((0 : Nat)) ((0 : Nat))), (Go.Value.string (ByteArray.mk #[]))])] (true, []) fun (_) =>
          again15 ((IntKind.i64.wrap (x16 + (1 : Int)), ()), ())
        ) (
          again15 ((IntKind.i64.wrap (x16 + (1 : Int)), ()), ())
        )
      ) (
        π.call (59 : Nat) #[(Go.Value.pointer (some (Addr.mk r (0 : Nat) none)))] (true, []) fun (_) =>
        π.call (60 : Nat) #[(Go.Value.pointer (some (Addr.mk r (0 : Nat) none)))] (false, [(false, [.slice])]) fun ((((a24 : Option Addr), (n25 : Nat), (c26 : Nat)), _), _) =>
        π.ret (Go.Value.slice (a24) (n25) (c26))
      )
  )

def ann_rTimeout : Ann := { draws := [(9, { A := [0, 1, 2, 3, 4, 5, 6, 7] })], join := [], loop := [(11, [(3, 3)])] }
def la_rTimeout : LA := { ptr := [], ty := [] }
set_option maxRecDepth 100000 in
theorem eq_rTimeout {W : Type} (π : Prims W) (r : Nat) : bodyL π Try.prog la_rTimeout ann_rTimeout (mkFr (maskA [] [.v (.pointer (some ⟨r, 0, none⟩))] 0) 72) Try.f31 (bodyOf Try.f31) (mkFr (List.map some [.v (.pointer (some ⟨r, 0, none⟩))]) 72) = vc_rTimeout π r := by kernel_rfl
theorem ok_rTimeout (r : Nat) (R : Value → PH → Prop) (s : PH) (h : vc_rTimeout (RP Try.prog R) r s) : DCalls Try.prog 31 (List.map AV.val [.v (.pointer (some ⟨r, 0, none⟩))]).toArray s R :=
  calls_vcL (c := bodyOf Try.f31) (ann := ann_rTimeout) la_rTimeout (by kernel_rfl) Try.func31 rfl (by kernel_rfl) [.v (.pointer (some ⟨r, 0, none⟩))] [] (by rw [Try.ntmps31]; exact Nat.le_of_ble_eq_true rfl) (by kernel_rfl) (by rw [show Try.f31.ntmps = 72 from Try.ntmps31, eq_rTimeout]; exact h)

/-- (*lintel/lintelref09.Ballot).Beat -/
def vc_rBeat {W : Type} (π : Prims W) (r : Nat) : W :=
  π.unSome (some (Addr.mk r (0 : Nat) none)) fun p0 =>
  π.ld [.int .i64] (p0.add (4 : Nat)) fun ((x1 : Int), _) =>
  π.ite (x1 == (2 : Int)) (
    π.call (61 : Nat) #[(Go.Value.pointer (some (Addr.mk r (0 : Nat) none)))] (true, []) fun (_) =>
    π.call (60 : Nat) #[(Go.Value.pointer (some (Addr.mk r (0 : Nat) none)))] (false, [(false, [.slice])]) fun ((((a2 : Option Addr), (n3 : Nat), (c4 : Nat)), _), _) =>
    π.ret (Go.Value.slice (a2) (n3) (c4))
  ) (
    π.call (60 : Nat) #[(Go.Value.pointer (some (Addr.mk r (0 : Nat) none)))] (false, [(false, [.slice])]) fun ((((a5 : Option Addr), (n6 : Nat), (c7 : Nat)), _), _) =>
    π.ret (Go.Value.slice (a5) (n6) (c7))
  )

def ann_rBeat : Ann := { draws := [], join := [], loop := [] }
def la_rBeat : LA := { ptr := [], ty := [] }
set_option maxRecDepth 100000 in
theorem eq_rBeat {W : Type} (π : Prims W) (r : Nat) : bodyL π Try.prog la_rBeat ann_rBeat (mkFr (maskA [] [.v (.pointer (some ⟨r, 0, none⟩))] 0) 12) Try.f32 (bodyOf Try.f32) (mkFr (List.map some [.v (.pointer (some ⟨r, 0, none⟩))]) 12) = vc_rBeat π r := by kernel_rfl
theorem ok_rBeat (r : Nat) (R : Value → PH → Prop) (s : PH) (h : vc_rBeat (RP Try.prog R) r s) : DCalls Try.prog 32 (List.map AV.val [.v (.pointer (some ⟨r, 0, none⟩))]).toArray s R :=
  calls_vcL (c := bodyOf Try.f32) (ann := ann_rBeat) la_rBeat (by kernel_rfl) Try.func32 rfl (by kernel_rfl) [.v (.pointer (some ⟨r, 0, none⟩))] [] (by rw [Try.ntmps32]; exact Nat.le_of_ble_eq_true rfl) (by kernel_rfl) (by rw [show Try.f32.ntmps = 12 from Try.ntmps32, eq_rBeat]; exact h)

/-- (*lintel/lintelref09.Ballot).Propose -/
def vc_rPropose {W : Type} (π : Prims W) (r : Nat) (at_ born : Int) (text : ByteArray) : W :=
  π.unSome (some (Addr.mk r (0 : Nat) none)) fun p0 =>
  π.ld [.int .i64] (p0.add (4 : Nat)) fun ((x1 : Int), _) =>
  π.ite (x1 != (2 : Int)) (
    π.ret (Go.Value.tuple #[(Go.Value.int (IntKind.i64) ((0 : Int))), (Go.Value.slice (none) ((0 : Nat)) ((0 : Nat)))])
  ) (
    π.callQ (37 : Nat) #[(Go.Value.pointer (some (Addr.mk r (0 : Nat) none)))] (false, [(false, [.int .i64])]) fun (((x2 : Int), _), _) =>
    π.unSome (some (Addr.mk r (0 : Nat) none)) fun p3 =>
    π.ld [.int .i64] (p3.add (2 : Nat)) fun ((x4 : Int), _) =>
    π.nw (Go.Obj.cells #[(Go.Value.int (IntKind.i64) (x4)), (Go.Value.int (IntKind.i64) (at_)), (Go.Value.int (IntKind.i64) (born)), (Go.Value.string (text))] (39 : Nat) ((0 : Nat), (0 : Nat))) fun r5 =>
    π.call (62 : Nat) #[(Go.Value.pointer (some (Addr.mk r (0 : Nat) none))), (Go.Value.int (IntKind.i64) (IntKind.i64.wrap (x2 + (1 : Int)))), (Go.Value.slice (some (Addr.mk r5 (0 : Nat) none)) ((1 : Nat)) ((1 : Nat)))] (true, []) fun (_) =>
    π.call (37 : Nat) #[(Go.Value.pointer (some (Addr.mk r (0 : Nat) none)))] (false, [(false, [.int .i64])]) fun (((x6 : Int), _), _) =>
    π.call (61 : Nat) #[(Go.Value.pointer (some (Addr.mk r (0 : Nat) none)))] (true, []) fun (_) =>
    π.call (63 : Nat) #[(Go.Value.pointer (some (Addr.mk r (0 : Nat) none)))] (true, []) fun (_) =>
    π.call (60 : Nat) #[(Go.Value.pointer (some (Addr.mk r (0 : Nat) none)))] (false, [(false, [.slice])]) fun ((((a7 : Option Addr), (n8 : Nat), (c9 : Nat)), _), _) =>
    π.ret (Go.Value.tuple #[(Go.Value.int (IntKind.i64) (x6)), (Go.Value.slice (a7) (n8) (c9))])
  )

def ann_rPropose : Ann := { draws := [(3, { A := [0, 1, 2, 3, 4, 5, 6, 7, 8, 9, 10, 11], quiet := [2] })], join := [], loop := [] }
def la_rPropose : LA := { ptr := [], ty := [] }
set_option maxRecDepth 100000 in
theorem eq_rPropose {W : Type} (π : Prims W) (r : Nat) (at_ born : Int) (text : ByteArray) : bodyL π Try.prog la_rPropose ann_rPropose (mkFr (maskA [] [.v (.pointer (some ⟨r, 0, none⟩)), .v (.int .i64 at_), .v (.int .i64 born), .v (.string text)] 0) 39) Try.f33 (bodyOf Try.f33) (mkFr (List.map some [.v (.pointer (some ⟨r, 0, none⟩)), .v (.int .i64 at_), .v (.int .i64 born), .v (.string text)]) 39) = vc_rPropose π r at_ born text := by kernel_rfl
theorem ok_rPropose (r : Nat) (at_ born : Int) (text : ByteArray) (R : Value → PH → Prop) (s : PH) (h : vc_rPropose (RP Try.prog R) r at_ born text s) : DCalls Try.prog 33 (List.map AV.val [.v (.pointer (some ⟨r, 0, none⟩)), .v (.int .i64 at_), .v (.int .i64 born), .v (.string text)]).toArray s R :=
  calls_vcL (c := bodyOf Try.f33) (ann := ann_rPropose) la_rPropose (by kernel_rfl) Try.func33 rfl (by kernel_rfl) [.v (.pointer (some ⟨r, 0, none⟩)), .v (.int .i64 at_), .v (.int .i64 born), .v (.string text)] [] (by rw [Try.ntmps33]; exact Nat.le_of_ble_eq_true rfl) (by kernel_rfl) (by rw [show Try.f33.ntmps = 39 from Try.ntmps33, eq_rPropose]; exact h)

/-- (*lintel/lintelref09.Ballot).Strange -/
def vc_rStrange {W : Type} (π : Prims W) (r : Nat) (mk mf mt mm mi mp mc : Int) (mg : Bool) (la : Option Addr) (ln lc : Nat) (ms : ByteArray) : W :=
  π.nw (Go.Obj.cells #[(Go.Value.int (IntKind.i64) (mk)), (Go.Value.int (IntKind.i64) (mf)), (Go.Value.int (IntKind.i64) (mt)), (Go.Value.int (IntKind.i64) (mm)), (Go.Value.int (IntKind.i64) (mi)), (Go.Value.int (IntKind.i64) (mp)), (Go.Value.int (IntKind.i64) (mc)), (Go.Value.bool (mg)), (Go.Value.slice (la) (ln) (lc)), (Go.Value.string (ms))] (32 : Nat) ((0 : Nat), (0 : Nat))) fun r0 =>
  π.ld [.int .i64] ((Addr.mk r0 (0 : Nat) none).add (2 : Nat)) fun ((x1 : Int), _) =>
  π.unSome (some (Addr.mk r (0 : Nat) none)) fun p2 =>
  π.ld [.int .i64] (p2.add (0 : Nat)) fun ((x3 : Int), _) =>
  π.ite (x1 != x3) (
    π.ret (Go.Value.bool (true))
  ) (
    π.ld [.int .i64] ((Addr.mk r0 (0 : Nat) none).add (1 : Nat)) fun ((x4 : Int), _) =>
    π.unSome (some (Addr.mk r (0 : Nat) none)) fun p5 =>
    π.ld [.int .i64] (p5.add (0 : Nat)) fun ((x6 : Int), _) =>
    π.ite (x4 == x6) (
      π.ret (Go.Value.bool (true))
    ) (
      π.ld [.int .i64] ((Addr.mk r0 (0 : Nat) none).add (1 : Nat)) fun ((x7 : Int), _) =>
      π.ite (decide (x7 < (0 : Int))) (
        π.ret (Go.Value.bool (true))
      ) (
        π.ld [.int .i64] ((Addr.mk r0 (0 : Nat) none).add (1 : Nat)) fun ((x8 : Int), _) =>
        π.unSome (some (Addr.mk r (0 : Nat) none)) fun p9 =>
        π.ld [.int .i64] (p9.add (1 : Nat)) fun ((x10 : Int), _) =>
        π.ite (decide (x8 ≥ x10)) (
          π.ret (Go.Value.bool (true))
        ) (
          π.ld [.int .i64] ((Addr.mk r0 (0 : Nat) none).add (0 : Nat)) fun ((x11 : Int), _) =>
          π.ite (decide (x11 < (1 : Int))) (
            π.ret (Go.Value.bool (true))
          ) (
            π.ld [.int .i64] ((Addr.mk r0 (0 : Nat) none).add (0 : Nat)) fun ((x12 : Int), _) =>
            π.ite (decide (x12 > (5 : Int))) (
              π.ret (Go.Value.bool (true))
            ) (
              π.ld [.int .i64] ((Addr.mk r0 (0 : Nat) none).add (3 : Nat)) fun ((x13 : Int), _) =>
              π.ite (decide (x13 < (1 : Int))) (
                π.ret (Go.Value.bool (true))
              ) (
                π.ld [.int .i64] ((Addr.mk r0 (0 : Nat) none).add (3 : Nat)) fun ((x14 : Int), _) =>
                π.ite (decide (x14 > (1099511627776 : Int))) (
                  π.ret (Go.Value.bool (true))
                ) (
                  π.ld [.int .i64] ((Addr.mk r0 (0 : Nat) none).add (4 : Nat)) fun ((x15 : Int), _) =>
                  π.ite (decide (x15 < (-1 : Int))) (
                    π.ret (Go.Value.bool (true))
                  ) (
                    π.ld [.int .i64] ((Addr.mk r0 (0 : Nat) none).add (4 : Nat)) fun ((x16 : Int), _) =>
                    π.ite (x16 == (-1 : Int)) (
                      π.ld [.int .i64] ((Addr.mk r0 (0 : Nat) none).add (0 : Nat)) fun ((x17 : Int), _) =>
                      π.ite (x17 != (4 : Int)) (
                        π.ret (Go.Value.bool (true))
                      ) (
                        π.ld [.int .i64] ((Addr.mk r0 (0 : Nat) none).add (4 : Nat)) fun ((x18 : Int), _) =>
                        π.ite (decide (x18 > (1099511627776 : Int))) (
                          π.ret (Go.Value.bool (true))
                        ) (
                          π.ld [.int .i64] ((Addr.mk r0 (0 : Nat) none).add (5 : Nat)) fun ((x19 : Int), _) =>
                          π.ite (decide (x19 < (0 : Int))) (
                            π.ret (Go.Value.bool (true))
                          ) (
                            π.ld [.int .i64] ((Addr.mk r0 (0 : Nat) none).add (5 : Nat)) fun ((x20 : Int), _) =>
                            π.ite (decide (x20 > (1099511627776 : Int))) (
                              π.ret (Go.Value.bool (true))
                            ) (
                              π.ld [.int .i64] ((Addr.mk r0 (0 : Nat) none).add (6 : Nat)) fun ((x21 : Int), _) =>
                              π.ite (decide (x21 < (0 : Int))) (
                                π.ret (Go.Value.bool (true))
                              ) (
                                π.ld [.int .i64] ((Addr.mk r0 (0 : Nat) none).add (6 : Nat)) fun ((x22 : Int), _) =>
                                π.ret (Go.Value.bool (decide (x22 > (1099511627776 : Int))))
                              )
                            )
                          )
                        )
                      )
                    ) (
                      π.ld [.int .i64] ((Addr.mk r0 (0 : Nat) none).add (4 : Nat)) fun ((x23 : Int), _) =>
                      π.ite (decide (x23 > (1099511627776 : Int))) (
                        π.ret (Go.Value.bool (true))
                      ) (
                        π.ld [.int .i64] ((Addr.mk r0 (0 : Nat) none).add (5 : Nat)) fun ((x24 : Int), _) =>
                        π.ite (decide (x24 < (0 : Int))) (
                          π.ret (Go.Value.bool (true))
                        ) (
                          π.ld [.int .i64] ((Addr.mk r0 (0 : Nat) none).add (5 : Nat)) fun ((x25 : Int), _) =>
                          π.ite (decide (x25 > (1099511627776 : Int))) (
                            π.ret (Go.Value.bool (true))
                          ) (
                            π.ld [.int .i64] ((Addr.mk r0 (0 : Nat) none).add (6 : Nat)) fun ((x26 : Int), _) =>
                            π.ite (decide (x26 < (0 : Int))) (
                              π.ret (Go.Value.bool (true))
                            ) (
                              π.ld [.int .i64] ((Addr.mk r0 (0 : Nat) none).add (6 : Nat)) fun ((x27 : Int), _) =>
                              π.ret (Go.Value.bool (decide (x27 > (1099511627776 : Int))))
                            )
                          )
                        )
                      )
                    )
                  )
                )
              )
            )
          )
        )
      )
    )
  )

def ann_rStrange : Ann := { draws := [(1, { A := [0, 1, 2, 3, 4, 5, 6, 7, 8, 9, 10, 11, 12, 13, 14, 15, 16, 17, 18, 19, 20, 21, 22, 23, 24, 25, 26, 27, 28, 29, 30, 31, 32, 33, 34, 35, 36, 37, 38, 39, 40, 41, 42, 43, 44, 45, 46, 47, 48, 49] })], join := [], loop := [] }
def la_rStrange : LA := { ptr := [], ty := [] }
set_option maxRecDepth 100000 in
theorem eq_rStrange {W : Type} (π : Prims W) (r : Nat) (mk mf mt mm mi mp mc : Int) (mg : Bool) (la : Option Addr) (ln lc : Nat) (ms : ByteArray) : bodyL π Try.prog la_rStrange ann_rStrange (mkFr (maskA [] [.v (.pointer (some ⟨r, 0, none⟩)), .v (.agg #[.int .i64 mk, .int .i64 mf, .int .i64 mt, .int .i64 mm, .int .i64 mi, .int .i64 mp, .int .i64 mc, .bool mg, .slice la ln lc, .string ms])] 0) 91) Try.f64 (bodyOf Try.f64) (mkFr (List.map some [.v (.pointer (some ⟨r, 0, none⟩)), .v (.agg #[.int .i64 mk, .int .i64 mf, .int .i64 mt, .int .i64 mm, .int .i64 mi, .int .i64 mp, .int .i64 mc, .bool mg, .slice la ln lc, .string ms])]) 91) = vc_rStrange π r mk mf mt mm mi mp mc mg la ln lc ms := by kernel_rfl
theorem ok_rStrange (r : Nat) (mk mf mt mm mi mp mc : Int) (mg : Bool) (la : Option Addr) (ln lc : Nat) (ms : ByteArray) (R : Value → PH → Prop) (s : PH) (h : vc_rStrange (RP Try.prog R) r mk mf mt mm mi mp mc mg la ln lc ms s) : DCalls Try.prog 64 (List.map AV.val [.v (.pointer (some ⟨r, 0, none⟩)), .v (.agg #[.int .i64 mk, .int .i64 mf, .int .i64 mt, .int .i64 mm, .int .i64 mi, .int .i64 mp, .int .i64 mc, .bool mg, .slice la ln lc, .string ms])]).toArray s R :=
  calls_vcL (c := bodyOf Try.f64) (ann := ann_rStrange) la_rStrange (by kernel_rfl) Try.func64 rfl (by kernel_rfl) [.v (.pointer (some ⟨r, 0, none⟩)), .v (.agg #[.int .i64 mk, .int .i64 mf, .int .i64 mt, .int .i64 mm, .int .i64 mi, .int .i64 mp, .int .i64 mc, .bool mg, .slice la ln lc, .string ms])] [] (by rw [Try.ntmps64]; exact Nat.le_of_ble_eq_true rfl) (by kernel_rfl) (by rw [show Try.f64.ntmps = 91 from Try.ntmps64, eq_rStrange]; exact h)

/-- (*lintel/lintelref09.Ballot).Take -/
def vc_rTake {W : Type} (π : Prims W) (r : Nat) (mk mf mt mm mi mp mc : Int) (mg : Bool) (la : Option Addr) (ln lc : Nat) (ms : ByteArray) : W :=
  π.nw (Go.Obj.cells #[(Go.Value.int (IntKind.i64) (mk)), (Go.Value.int (IntKind.i64) (mf)), (Go.Value.int (IntKind.i64) (mt)), (Go.Value.int (IntKind.i64) (mm)), (Go.Value.int (IntKind.i64) (mi)), (Go.Value.int (IntKind.i64) (mp)), (Go.Value.int (IntKind.i64) (mc)), (Go.Value.bool (mg)), (Go.Value.slice (la) (ln) (lc)), (Go.Value.string (ms))] (32 : Nat) ((0 : Nat), (0 : Nat))) fun r0 =>
  π.ld [.int .i64, .int .i64, .int .i64, .int .i64, .int .i64, .int .i64, .int .i64, .bool, .slice, .str] (Addr.mk r0 (0 : Nat) none) fun ((x1 : Int), (x2 : Int), (x3 : Int), (x4 : Int), (x5 : Int), (x6 : Int), (x7 : Int), (b8 : Bool), ((a9 : Option Addr), (n10 : Nat), (c11 : Nat)), (t12 : ByteArray), _) =>
  π.call (64 : Nat) #[(Go.Value.pointer (some (Addr.mk r (0 : Nat) none))), (Go.Value.agg #[(Go.Value.int (IntKind.i64) (x1)), (Go.Value.int (IntKind.i64) (x2)), (Go.Value.int (IntKind.i64) (x3)), (Go.Value.int (IntKind.i64) (x4)), (Go.Value.int (IntKind.i64) (x5)), (Go.Value.int (IntKind.i64) (x6)), (Go.Value.int (IntKind.i64) (x7)), (Go.Value.bool (b8)), (Go.Value.slice (a9) (n10) (c11)), (Go.Value.string (t12))])] (false, [(false, [.bool])]) fun (((b13 : Bool), _), _) =>
  π.ite (b13) (
    π.ret (Go.Value.slice (none) ((0 : Nat)) ((0 : Nat)))
  ) (
    π.join [(false, [.addr])] (fun J14 =>
      π.ld [.int .i64] ((Addr.mk r0 (0 : Nat) none).add (3 : Nat)) fun ((x15 : Int), _) =>
      π.unSome (some (Addr.mk r (0 : Nat) none)) fun p16 =>
      π.ld [.int .i64] (p16.add (2 : Nat)) fun ((x17 : Int), _) =>
      π.ite (decide (x15 > x17)) (
        π.ld [.int .i64] ((Addr.mk r0 (0 : Nat) none).add (3 : Nat)) fun ((x18 : Int), _) =>
        π.unSome (some (Addr.mk r (0 : Nat) none)) fun p19 =>
        π.st (p19.add (2 : Nat)) [(Go.Value.int (IntKind.i64) (x18))] <|
        π.unSome (some (Addr.mk r (0 : Nat) none)) fun p20 =>
        π.st (p20.add (3 : Nat)) [(Go.Value.int (IntKind.i64) ((-1 : Int)))] <|
        π.unSome (some (Addr.mk r (0 : Nat) none)) fun p21 =>
        π.st (p21.add (4 : Nat)) [(Go.Value.int (IntKind.i64) ((0 : Int)))] <|
        π.unSome (some (Addr.mk r (0 : Nat) none)) fun p22 =>
        π.st (p22.add (5 : Nat)) [(Go.Value.int (IntKind.i64) ((-1 : Int)))] <|
        π.unSome (some (Addr.mk r (0 : Nat) none)) fun p23 =>
        π.st (p23.add (26 : Nat)) [(Go.Value.bool (true))] <|
        J14 ((Addr.mk r0 (0 : Nat) none, ()), ())
      ) (
        J14 ((Addr.mk r0 (0 : Nat) none, ()), ())
      )
    ) (fun ((p24, _), _) =>
      π.ld [.int .i64] (p24.add (3 : Nat)) fun ((x25 : Int), _) =>
      π.unSome (some (Addr.mk r (0 : Nat) none)) fun p26 =>
      π.ld [.int .i64] (p26.add (2 : Nat)) fun ((x27 : Int), _) =>
      π.ite (decide (x25 < x27)) (
        π.join [(false, [.addr])] (fun J28 =>
          π.ld [.int .i64] (p24.add (0 : Nat)) fun ((x29 : Int), _) =>
          π.ite (x29 == (1 : Int)) (
            π.ld [.int .i64] (p24.add (1 : Nat)) fun ((x30 : Int), _) =>
            π.call (57 : Nat) #[(Go.Value.pointer (some (Addr.mk r (0 : Nat) none))), (Go.Value.agg #[(Go.Value.int (IntKind.i64) ((2 : Int))), (Go.Value.int (IntKind.i64) ((0 : Int))), (Go.Value.int (IntKind.i64) (x30)), (Go.Value.int (IntKind.i64) ((0 : Int))), (Go.Value.int (IntKind.i64) ((0 : Int))), (Go.Value.int (IntKind.i64) ((0 : Int))), (Go.Value.int (IntKind.i64) ((0 : Int))), (Go.Value.bool (false)), (Go.Value.slice (none) ((0 : Nat)) ((0 : Nat))), (Go.Value.string (ByteArray.mk #[]))])] (true, []) fun (_) =>
            J28 ((p24, ()), ())
          ) (
            J28 ((p24, ()), ())
          )
        ) (fun ((p31, _), _) =>
          π.join [(false, [.addr]), (false, [.bool])] (fun J32 =>
            π.ld [.int .i64] (p31.add (0 : Nat)) fun ((x33 : Int), _) =>
            π.ite (x33 == (3 : Int)) (
              J32 ((p31, ()), (true, ()), ())
            ) (
              π.ld [.int .i64] (p31.add (0 : Nat)) fun ((x34 : Int), _) =>
              J32 ((p31, ()), (x34 == (5 : Int), ()), ())
            )
          ) (fun ((p35, _), ((b36 : Bool), _), _) =>
            π.ite (b36) (
              π.ld [.int .i64] (p35.add (1 : Nat)) fun ((x37 : Int), _) =>
              π.callQ (37 : Nat) #[(Go.Value.pointer (some (Addr.mk r (0 : Nat) none)))] (false, [(false, [.int .i64])]) fun (((x38 : Int), _), _) =>
              π.call (57 : Nat) #[(Go.Value.pointer (some (Addr.mk r (0 : Nat) none))), (Go.Value.agg #[(Go.Value.int (IntKind.i64) ((4 : Int))), (Go.Value.int (IntKind.i64) ((0 : Int))), (Go.Value.int (IntKind.i64) (x37)), (Go.Value.int (IntKind.i64) ((0 : Int))), (Go.Value.int (IntKind.i64) (x38)), (Go.Value.int (IntKind.i64) ((0 : Int))), (Go.Value.int (IntKind.i64) ((0 : Int))), (Go.Value.bool (false)), (Go.Value.slice (none) ((0 : Nat)) ((0 : Nat))), (Go.Value.string (ByteArray.mk #[]))])] (true, []) fun (_) =>
              π.call (60 : Nat) #[(Go.Value.pointer (some (Addr.mk r (0 : Nat) none)))] (false, [(false, [.slice])]) fun ((((a39 : Option Addr), (n40 : Nat), (c41 : Nat)), _), _) =>
              π.ret (Go.Value.slice (a39) (n40) (c41))
            ) (
              π.call (60 : Nat) #[(Go.Value.pointer (some (Addr.mk r (0 : Nat) none)))] (false, [(false, [.slice])]) fun ((((a42 : Option Addr), (n43 : Nat), (c44 : Nat)), _), _) =>
              π.ret (Go.Value.slice (a42) (n43) (c44))
            )
          )
        )
      ) (
        π.ld [.int .i64] (p24.add (0 : Nat)) fun ((x45 : Int), _) =>
        π.ite (x45 == (1 : Int)) (
          π.ld [.int .i64, .int .i64, .int .i64, .int .i64, .int .i64, .int .i64, .int .i64, .bool, .slice, .str] (p24) fun ((x46 : Int), (x47 : Int), (x48 : Int), (x49 : Int), (x50 : Int), (x51 : Int), (x52 : Int), (b53 : Bool), ((a54 : Option Addr), (n55 : Nat), (c56 : Nat)), (t57 : ByteArray), _) =>
          π.call (65 : Nat) #[(Go.Value.pointer (some (Addr.mk r (0 : Nat) none))), (Go.Value.agg #[(Go.Value.int (IntKind.i64) (x46)), (Go.Value.int (IntKind.i64) (x47)), (Go.Value.int (IntKind.i64) (x48)), (Go.Value.int (IntKind.i64) (x49)), (Go.Value.int (IntKind.i64) (x50)), (Go.Value.int (IntKind.i64) (x51)), (Go.Value.int (IntKind.i64) (x52)), (Go.Value.bool (b53)), (Go.Value.slice (a54) (n55) (c56)), (Go.Value.string (t57))])] (true, []) fun (_) =>
          π.call (60 : Nat) #[(Go.Value.pointer (some (Addr.mk r (0 : Nat) none)))] (false, [(false, [.slice])]) fun ((((a58 : Option Addr), (n59 : Nat), (c60 : Nat)), _), _) =>
          π.ret (Go.Value.slice (a58) (n59) (c60))
        ) (
          π.ite (x45 == (2 : Int)) (
            π.join [(false, [.addr]), (false, [.bool])] (fun J61 =>
              π.unSome (some (Addr.mk r (0 : Nat) none)) fun p62 =>
              π.ld [.int .i64] (p62.add (4 : Nat)) fun ((x63 : Int), _) =>
              π.ite (x63 == (1 : Int)) (
                π.ld [.bool] (p24.add (7 : Nat)) fun ((b64 : Bool), _) =>
                J61 ((p24, ()), (b64, ()), ())
              ) (
                J61 ((p24, ()), (false, ()), ())
              )
            ) (fun ((p65, _), ((b66 : Bool), _), _) =>
              π.ite (b66) (
                π.ld [.int .i64] (p65.add (1 : Nat)) fun ((x67 : Int), _) =>
                π.unSome (some (Addr.mk r (0 : Nat) none)) fun p68 =>
                π.guard ((0 : Int) ≤ x67 ∧ x67 < (5 : Int)) <|
                π.st ((p68.add (10 : Nat)).add (x67.toNat * (1 : Nat))) [(Go.Value.bool (true))] <|
                π.call (59 : Nat) #[(Go.Value.pointer (some (Addr.mk r (0 : Nat) none)))] (true, []) fun (_) =>
                π.call (60 : Nat) #[(Go.Value.pointer (some (Addr.mk r (0 : Nat) none)))] (false, [(false, [.slice])]) fun ((((a69 : Option Addr), (n70 : Nat), (c71 : Nat)), _), _) =>
                π.ret (Go.Value.slice (a69) (n70) (c71))
              ) (
                π.call (60 : Nat) #[(Go.Value.pointer (some (Addr.mk r (0 : Nat) none)))] (false, [(false, [.slice])]) fun ((((a72 : Option Addr), (n73 : Nat), (c74 : Nat)), _), _) =>
                π.ret (Go.Value.slice (a72) (n73) (c74))
              )
            )
          ) (
            π.ite (x45 == (3 : Int)) (
              π.ld [.int .i64, .int .i64, .int .i64, .int .i64, .int .i64, .int .i64, .int .i64, .bool, .slice, .str] (p24) fun ((x75 : Int), (x76 : Int), (x77 : Int), (x78 : Int), (x79 : Int), (x80 : Int), (x81 : Int), (b82 : Bool), ((a83 : Option Addr), (n84 : Nat), (c85 : Nat)), (t86 : ByteArray), _) =>
              π.call (66 : Nat) #[(Go.Value.pointer (some (Addr.mk r (0 : Nat) none))), (Go.Value.agg #[(Go.Value.int (IntKind.i64) (x75)), (Go.Value.int (IntKind.i64) (x76)), (Go.Value.int (IntKind.i64) (x77)), (Go.Value.int (IntKind.i64) (x78)), (Go.Value.int (IntKind.i64) (x79)), (Go.Value.int (IntKind.i64) (x80)), (Go.Value.int (IntKind.i64) (x81)), (Go.Value.bool (b82)), (Go.Value.slice (a83) (n84) (c85)), (Go.Value.string (t86))])] (true, []) fun (_) =>
              π.call (60 : Nat) #[(Go.Value.pointer (some (Addr.mk r (0 : Nat) none)))] (false, [(false, [.slice])]) fun ((((a87 : Option Addr), (n88 : Nat), (c89 : Nat)), _), _) =>
              π.ret (Go.Value.slice (a87) (n88) (c89))
            ) (
              π.ite (x45 == (4 : Int)) (
                π.ld [.int .i64, .int .i64, .int .i64, .int .i64, .int .i64, .int .i64, .int .i64, .bool, .slice, .str] (p24) fun ((x90 : Int), (x91 : Int), (x92 : Int), (x93 : Int), (x94 : Int), (x95 : Int), (x96 : Int), (b97 : Bool), ((a98 : Option Addr), (n99 : Nat), (c100 : Nat)), (t101 : ByteArray), _) =>
                π.call (67 : Nat) #[(Go.Value.pointer (some (Addr.mk r (0 : Nat) none))), (Go.Value.agg #[(Go.Value.int (IntKind.i64) (x90)), (Go.Value.int (IntKind.i64) (x91)), (Go.Value.int (IntKind.i64) (x92)), (Go.Value.int (IntKind.i64) (x93)), (Go.Value.int (IntKind.i64) (x94)), (Go.Value.int (IntKind.i64) (x95)), (Go.Value.int (IntKind.i64) (x96)), (Go.Value.bool (b97)), (Go.Value.slice (a98) (n99) (c100)), (Go.Value.string (t101))])] (true, []) fun (_) =>
                π.call (60 : Nat) #[(Go.Value.pointer (some (Addr.mk r (0 : Nat) none)))] (false, [(false, [.slice])]) fun ((((a102 : Option Addr), (n103 : Nat), (c104 : Nat)), _), _) =>
                π.ret (Go.Value.slice (a102) (n103) (c104))
              ) (
                π.ite (x45 == (5 : Int)) (
                  π.ld [.int .i64, .int .i64, .int .i64, .int .i64, .int .i64, .int .i64, .int .i64, .bool, .slice, .str] (p24) fun ((x105 : Int), (x106 : Int), (x107 : Int), (x108 : Int), (x109 : Int), (x110 : Int), (x111 : Int), (b112 : Bool), ((a113 : Option Addr), (n114 : Nat), (c115 : Nat)), (t116 : ByteArray), _) =>
                  π.call (68 : Nat) #[(Go.Value.pointer (some (Addr.mk r (0 : Nat) none))), (Go.Value.agg #[(Go.Value.int (IntKind.i64) (x105)), (Go.Value.int (IntKind.i64) (x106)), (Go.Value.int (IntKind.i64) (x107)), (Go.Value.int (IntKind.i64) (x108)), (Go.Value.int (IntKind.i64) (x109)), (Go.Value.int (IntKind.i64) (x110)), (Go.Value.int (IntKind.i64) (x111)), (Go.Value.bool (b112)), (Go.Value.slice (a113) (n114) (c115)), (Go.Value.string (t116))])] (true, []) fun (_) =>
                  π.call (60 : Nat) #[(Go.Value.pointer (some (Addr.mk r (0 : Nat) none)))] (false, [(false, [.slice])]) fun ((((a117 : Option Addr), (n118 : Nat), (c119 : Nat)), _), _) =>
                  π.ret (Go.Value.slice (a117) (n118) (c119))
                ) (
                  π.call (60 : Nat) #[(Go.Value.pointer (some (Addr.mk r (0 : Nat) none)))] (false, [(false, [.slice])]) fun ((((a120 : Option Addr), (n121 : Nat), (c122 : Nat)), _), _) =>
                  π.ret (Go.Value.slice (a120) (n121) (c122))
                )
              )
            )
          )
        )
      )
    )
  )

def ann_rTake : Ann := { draws := [(3, { A := [0, 1, 2, 3, 4, 5, 6] }), (9, { A := [0, 1, 2, 3, 4, 5, 6] }), (13, { A := [0, 1, 2, 3, 4, 5], quiet := [4] }), (20, { A := [0, 1, 2, 3, 4, 5] })], join := [(9, [(3, 1000000)]), (12, [(3, 1000000)]), (13, [(3, 1000000), (54, 4)]), (20, [(3, 1000000), (81, 4)])], loop := [] }
def la_rTake : LA := { ptr := [], ty := [] }
set_option maxRecDepth 100000 in
theorem eq_rTake {W : Type} (π : Prims W) (r : Nat) (mk mf mt mm mi mp mc : Int) (mg : Bool) (la : Option Addr) (ln lc : Nat) (ms : ByteArray) : bodyL π Try.prog la_rTake ann_rTake (mkFr (maskA [] [.v (.pointer (some ⟨r, 0, none⟩)), .v (.agg #[.int .i64 mk, .int .i64 mf, .int .i64 mt, .int .i64 mm, .int .i64 mi, .int .i64 mp, .int .i64 mc, .bool mg, .slice la ln lc, .string ms])] 0) 107) Try.f34 (bodyOf Try.f34) (mkFr (List.map some [.v (.pointer (some ⟨r, 0, none⟩)), .v (.agg #[.int .i64 mk, .int .i64 mf, .int .i64 mt, .int .i64 mm, .int .i64 mi, .int .i64 mp, .int .i64 mc, .bool mg, .slice la ln lc, .string ms])]) 107) = vc_rTake π r mk mf mt mm mi mp mc mg la ln lc ms := by kernel_rfl
theorem ok_rTake (r : Nat) (mk mf mt mm mi mp mc : Int) (mg : Bool) (la : Option Addr) (ln lc : Nat) (ms : ByteArray) (R : Value → PH → Prop) (s : PH) (h : vc_rTake (RP Try.prog R) r mk mf mt mm mi mp mc mg la ln lc ms s) : DCalls Try.prog 34 (List.map AV.val [.v (.pointer (some ⟨r, 0, none⟩)), .v (.agg #[.int .i64 mk, .int .i64 mf, .int .i64 mt, .int .i64 mm, .int .i64 mi, .int .i64 mp, .int .i64 mc, .bool mg, .slice la ln lc, .string ms])]).toArray s R :=
  calls_vcL (c := bodyOf Try.f34) (ann := ann_rTake) la_rTake (by kernel_rfl) Try.func34 rfl (by kernel_rfl) [.v (.pointer (some ⟨r, 0, none⟩)), .v (.agg #[.int .i64 mk, .int .i64 mf, .int .i64 mt, .int .i64 mm, .int .i64 mi, .int .i64 mp, .int .i64 mc, .bool mg, .slice la ln lc, .string ms])] [] (by rw [Try.ntmps34]; exact Nat.le_of_ble_eq_true rfl) (by kernel_rfl) (by rw [show Try.f34.ntmps = 107 from Try.ntmps34, eq_rTake]; exact h)

/-- (*lintel/lintelref09.Ballot).ask -/
def vc_rask {W : Type} (π : Prims W) (r : Nat) (mk mf mt mm mi mp mc : Int) (mg : Bool) (la : Option Addr) (ln lc : Nat) (ms : ByteArray) : W :=
  π.nw (Go.Obj.cells #[(Go.Value.int (IntKind.i64) (mk)), (Go.Value.int (IntKind.i64) (mf)), (Go.Value.int (IntKind.i64) (mt)), (Go.Value.int (IntKind.i64) (mm)), (Go.Value.int (IntKind.i64) (mi)), (Go.Value.int (IntKind.i64) (mp)), (Go.Value.int (IntKind.i64) (mc)), (Go.Value.bool (mg)), (Go.Value.slice (la) (ln) (lc)), (Go.Value.string (ms))] (32 : Nat) ((0 : Nat), (0 : Nat))) fun r0 =>
  π.call (37 : Nat) #[(Go.Value.pointer (some (Addr.mk r (0 : Nat) none)))] (false, [(false, [.int .i64])]) fun (((x1 : Int), _), _) =>
  π.call (58 : Nat) #[(Go.Value.pointer (some (Addr.mk r (0 : Nat) none))), (Go.Value.int (IntKind.i64) (x1))] (false, [(false, [.int .i64])]) fun (((x2 : Int), _), _) =>
  π.join [(false, [.addr]), (false, [.int .i64]), (false, [.bool])] (fun J3 =>
    π.unSome (some (Addr.mk r (0 : Nat) none)) fun p4 =>
    π.ld [.int .i64] (p4.add (3 : Nat)) fun ((x5 : Int), _) =>
    π.ite (x5 == (-1 : Int)) (
      J3 ((Addr.mk r0 (0 : Nat) none, ()), (x2, ()), (true, ()), ())
    ) (
      π.unSome (some (Addr.mk r (0 : Nat) none)) fun p6 =>
      π.ld [.int .i64] (p6.add (3 : Nat)) fun ((x7 : Int), _) =>
      π.ld [.int .i64] ((Addr.mk r0 (0 : Nat) none).add (1 : Nat)) fun ((x8 : Int), _) =>
      J3 ((Addr.mk r0 (0 : Nat) none, ()), (x2, ()), (x7 == x8, ()), ())
    )
  ) (fun ((p9, _), ((x10 : Int), _), ((b11 : Bool), _), _) =>
    π.join [(false, [.addr]), (false, [.bool])] (fun J12 =>
      π.ld [.int .i64] (p9.add (5 : Nat)) fun ((x13 : Int), _) =>
      π.ite (decide (x13 < x10)) (
        J12 ((p9, ()), (false, ()), ())
      ) (
        π.ld [.int .i64] (p9.add (5 : Nat)) fun ((x14 : Int), _) =>
        π.ite (x14 == x10) (
          π.ld [.int .i64] (p9.add (4 : Nat)) fun ((x15 : Int), _) =>
          π.callQ (37 : Nat) #[(Go.Value.pointer (some (Addr.mk r (0 : Nat) none)))] (false, [(false, [.int .i64])]) fun (((x16 : Int), _), _) =>
          π.ite (decide (x15 < x16)) (
            J12 ((p9, ()), (false, ()), ())
          ) (
            J12 ((p9, ()), (b11, ()), ())
          )
        ) (
          J12 ((p9, ()), (b11, ()), ())
        )
      )
    ) (fun ((p17, _), ((b18 : Bool), _), _) =>
      π.ite (b18) (
        π.ld [.int .i64] (p17.add (1 : Nat)) fun ((x19 : Int), _) =>
        π.unSome (some (Addr.mk r (0 : Nat) none)) fun p20 =>
        π.st (p20.add (3 : Nat)) [(Go.Value.int (IntKind.i64) (x19))] <|
        π.unSome (some (Addr.mk r (0 : Nat) none)) fun p21 =>
        π.st (p21.add (26 : Nat)) [(Go.Value.bool (true))] <|
        π.ld [.int .i64] (p17.add (1 : Nat)) fun ((x22 : Int), _) =>
        π.call (57 : Nat) #[(Go.Value.pointer (some (Addr.mk r (0 : Nat) none))), (Go.Value.agg #[(Go.Value.int (IntKind.i64) ((2 : Int))), (Go.Value.int (IntKind.i64) ((0 : Int))), (Go.Value.int (IntKind.i64) (x22)), (Go.Value.int (IntKind.i64) ((0 : Int))), (Go.Value.int (IntKind.i64) ((0 : Int))), (Go.Value.int (IntKind.i64) ((0 : Int))), (Go.Value.int (IntKind.i64) ((0 : Int))), (Go.Value.bool (b18)), (Go.Value.slice (none) ((0 : Nat)) ((0 : Nat))), (Go.Value.string (ByteArray.mk #[]))])] (true, []) fun (_) =>
        π.ret (Go.Value.tuple #[])
      ) (
        π.ld [.int .i64] (p17.add (1 : Nat)) fun ((x23 : Int), _) =>
        π.call (57 : Nat) #[(Go.Value.pointer (some (Addr.mk r (0 : Nat) none))), (Go.Value.agg #[(Go.Value.int (IntKind.i64) ((2 : Int))), (Go.Value.int (IntKind.i64) ((0 : Int))), (Go.Value.int (IntKind.i64) (x23)), (Go.Value.int (IntKind.i64) ((0 : Int))), (Go.Value.int (IntKind.i64) ((0 : Int))), (Go.Value.int (IntKind.i64) ((0 : Int))), (Go.Value.int (IntKind.i64) ((0 : Int))), (Go.Value.bool (b18)), (Go.Value.slice (none) ((0 : Nat)) ((0 : Nat))), (Go.Value.string (ByteArray.mk #[]))])] (true, []) fun (_) =>
        π.ret (Go.Value.tuple #[])
      )
    )
  )

def ann_rask : Ann := { draws := [(2, { A := [0, 1, 2, 3, 4, 5, 6, 7, 8, 9, 10, 11, 12, 13, 14] }), (3, { A := [0, 1, 2, 3, 4, 5, 6, 7, 8, 9, 10, 11, 12, 13, 14, 15, 16], quiet := [13] })], join := [(3, [(3, 1000000), (4, 3), (5, 4)]), (5, [(3, 1000000), (5, 4)])], loop := [] }
def la_rask : LA := { ptr := [], ty := [] }
set_option maxRecDepth 100000 in
theorem eq_rask {W : Type} (π : Prims W) (r : Nat) (mk mf mt mm mi mp mc : Int) (mg : Bool) (la : Option Addr) (ln lc : Nat) (ms : ByteArray) : bodyL π Try.prog la_rask ann_rask (mkFr (maskA [] [.v (.pointer (some ⟨r, 0, none⟩)), .v (.agg #[.int .i64 mk, .int .i64 mf, .int .i64 mt, .int .i64 mm, .int .i64 mi, .int .i64 mp, .int .i64 mc, .bool mg, .slice la ln lc, .string ms])] 0) 56) Try.f65 (bodyOf Try.f65) (mkFr (List.map some [.v (.pointer (some ⟨r, 0, none⟩)), .v (.agg #[.int .i64 mk, .int .i64 mf, .int .i64 mt, .int .i64 mm, .int .i64 mi, .int .i64 mp, .int .i64 mc, .bool mg, .slice la ln lc, .string ms])]) 56) = vc_rask π r mk mf mt mm mi mp mc mg la ln lc ms := by kernel_rfl
theorem ok_rask (r : Nat) (mk mf mt mm mi mp mc : Int) (mg : Bool) (la : Option Addr) (ln lc : Nat) (ms : ByteArray) (R : Value → PH → Prop) (s : PH) (h : vc_rask (RP Try.prog R) r mk mf mt mm mi mp mc mg la ln lc ms s) : DCalls Try.prog 65 (List.map AV.val [.v (.pointer (some ⟨r, 0, none⟩)), .v (.agg #[.int .i64 mk, .int .i64 mf, .int .i64 mt, .int .i64 mm, .int .i64 mi, .int .i64 mp, .int .i64 mc, .bool mg, .slice la ln lc, .string ms])]).toArray s R :=
  calls_vcL (c := bodyOf Try.f65) (ann := ann_rask) la_rask (by kernel_rfl) Try.func65 rfl (by kernel_rfl) [.v (.pointer (some ⟨r, 0, none⟩)), .v (.agg #[.int .i64 mk, .int .i64 mf, .int .i64 mt, .int .i64 mm, .int .i64 mi, .int .i64 mp, .int .i64 mc, .bool mg, .slice la ln lc, .string ms])] [] (by rw [Try.ntmps65]; exact Nat.le_of_ble_eq_true rfl) (by kernel_rfl) (by rw [show Try.f65.ntmps = 56 from Try.ntmps65, eq_rask]; exact h)

/-- (*lintel/lintelref09.Ballot).entries -/
def vc_rentries {W : Type} (π : Prims W) (r : Nat) (mk mf mt mm mi mp mc : Int) (mg : Bool) (la : Option Addr) (ln lc : Nat) (ms : ByteArray) : W :=
  π.nw (Go.Obj.cells #[(Go.Value.int (IntKind.i64) (mk)), (Go.Value.int (IntKind.i64) (mf)), (Go.Value.int (IntKind.i64) (mt)), (Go.Value.int (IntKind.i64) (mm)), (Go.Value.int (IntKind.i64) (mi)), (Go.Value.int (IntKind.i64) (mp)), (Go.Value.int (IntKind.i64) (mc)), (Go.Value.bool (mg)), (Go.Value.slice (la) (ln) (lc)), (Go.Value.string (ms))] (32 : Nat) ((0 : Nat), (0 : Nat))) fun r0 =>
  π.unSome (some (Addr.mk r (0 : Nat) none)) fun p1 =>
  π.ld [.int .i64] (p1.add (4 : Nat)) fun ((x2 : Int), _) =>
  π.ite (x2 == (2 : Int)) (
    π.ret (Go.Value.tuple #[])
  ) (
    π.unSome (some (Addr.mk r (0 : Nat) none)) fun p3 =>
    π.st (p3.add (4 : Nat)) [(Go.Value.int (IntKind.i64) ((0 : Int)))] <|
    π.ld [.int .i64] ((Addr.mk r0 (0 : Nat) none).add (1 : Nat)) fun ((x4 : Int), _) =>
    π.unSome (some (Addr.mk r (0 : Nat) none)) fun p5 =>
    π.st (p5.add (5 : Nat)) [(Go.Value.int (IntKind.i64) (x4))] <|
    π.ld [.int .i64] ((Addr.mk r0 (0 : Nat) none).add (4 : Nat)) fun ((x6 : Int), _) =>
    π.ld [.slice] ((Addr.mk r0 (0 : Nat) none).add (8 : Nat)) fun (((a7 : Option Addr), (n8 : Nat), (c9 : Nat)), _) =>
    π.unSome (some (Addr.mk r (0 : Nat) none)) fun p10 =>
    π.ld [.int .i64] (p10.add (25 : Nat)) fun ((x11 : Int), _) =>
    π.ite (decide (IntKind.i64.wrap (x6 + (↑n8 : Int)) ≤ x11)) (
      π.ld [.int .i64] ((Addr.mk r0 (0 : Nat) none).add (1 : Nat)) fun ((x12 : Int), _) =>
      π.call (57 : Nat) #[(Go.Value.pointer (some (Addr.mk r (0 : Nat) none))), (Go.Value.agg #[(Go.Value.int (IntKind.i64) ((4 : Int))), (Go.Value.int (IntKind.i64) ((0 : Int))), (Go.Value.int (IntKind.i64) (x12)), (Go.Value.int (IntKind.i64) ((0 : Int))), (Go.Value.int (IntKind.i64) (IntKind.i64.wrap (x6 + (↑n8 : Int)))), (Go.Value.int (IntKind.i64) ((0 : Int))), (Go.Value.int (IntKind.i64) ((0 : Int))), (Go.Value.bool (true)), (Go.Value.slice (none) ((0 : Nat)) ((0 : Nat))), (Go.Value.string (ByteArray.mk #[]))])] (true, []) fun (_) =>
      π.ret (Go.Value.tuple #[])
    ) (
      π.join [(false, [.addr]), (false, [.int .i64]), (false, [.bool])] (fun J13 =>
        π.ld [.int .i64] ((Addr.mk r0 (0 : Nat) none).add (4 : Nat)) fun ((x14 : Int), _) =>
        π.unSome (some (Addr.mk r (0 : Nat) none)) fun p15 =>
        π.ld [.int .i64] (p15.add (25 : Nat)) fun ((x16 : Int), _) =>
        π.ite (decide (x14 ≥ x16)) (
          π.ld [.int .i64] ((Addr.mk r0 (0 : Nat) none).add (4 : Nat)) fun ((x17 : Int), _) =>
          π.callQ (58 : Nat) #[(Go.Value.pointer (some (Addr.mk r (0 : Nat) none))), (Go.Value.int (IntKind.i64) (x17))] (false, [(false, [.int .i64])]) fun (((x18 : Int), _), _) =>
          π.ld [.int .i64] ((Addr.mk r0 (0 : Nat) none).add (5 : Nat)) fun ((x19 : Int), _) =>
          J13 ((Addr.mk r0 (0 : Nat) none, ()), (IntKind.i64.wrap (x6 + (↑n8 : Int)), ()), (x18 != x19, ()), ())
        ) (
          J13 ((Addr.mk r0 (0 : Nat) none, ()), (IntKind.i64.wrap (x6 + (↑n8 : Int)), ()), (false, ()), ())
        )
      ) (fun ((p20, _), ((x21 : Int), _), ((b22 : Bool), _), _) =>
        π.ite (b22) (
          π.ld [.int .i64] (p20.add (1 : Nat)) fun ((x23 : Int), _) =>
          π.callQ (37 : Nat) #[(Go.Value.pointer (some (Addr.mk r (0 : Nat) none)))] (false, [(false, [.int .i64])]) fun (((x24 : Int), _), _) =>
          π.ld [.int .i64] (p20.add (4 : Nat)) fun ((x25 : Int), _) =>
          π.call (57 : Nat) #[(Go.Value.pointer (some (Addr.mk r (0 : Nat) none))), (Go.Value.agg #[(Go.Value.int (IntKind.i64) ((4 : Int))), (Go.Value.int (IntKind.i64) ((0 : Int))), (Go.Value.int (IntKind.i64) (x23)), (Go.Value.int (IntKind.i64) ((0 : Int))), (Go.Value.int (IntKind.i64) (if IntKind.i64.wrap (x25 - (1 : Int)) < x24 then IntKind.i64.wrap (x25 - (1 : Int)) else x24)), (Go.Value.int (IntKind.i64) ((0 : Int))), (Go.Value.int (IntKind.i64) ((0 : Int))), (Go.Value.bool (false)), (Go.Value.slice (none) ((0 : Nat)) ((0 : Nat))), (Go.Value.string (ByteArray.mk #[]))])] (true, []) fun (_) =>
          π.ret (Go.Value.tuple #[])
        ) (
          π.join [(false, [.addr]), (false, [.int .i64])] (fun J26 =>
            π.loop [(false, [.addr]), (false, [.int .i64]), (false, [.int .i64])] ((p20, ()), (x21, ()), ((0 : Int), ()), ()) fun ((p28, _), ((x29 : Int), _), ((x30 : Int), _), _) again27 =>
              π.ld [.slice] (p28.add (8 : Nat)) fun (((a31 : Option Addr), (n32 : Nat), (c33 : Nat)), _) =>
              π.ite (decide (x30 < (↑n32 : Int))) (
                π.ld [.int .i64] (p28.add (4 : Nat)) fun ((x34 : Int), _) =>
                π.unSome (some (Addr.mk r (0 : Nat) none)) fun p35 =>
                π.ld [.int .i64] (p35.add (25 : Nat)) fun ((x36 : Int), _) =>
                π.ite (decide (IntKind.i64.wrap (IntKind.i64.wrap (x34 + (1 : Int)) + x30) > x36)) (
                  π.callQ (37 : Nat) #[(Go.Value.pointer (some (Addr.mk r (0 : Nat) none)))] (false, [(false, [.int .i64])]) fun (((x37 : Int), _), _) =>
                  π.ite (decide (IntKind.i64.wrap (IntKind.i64.wrap (x34 + (1 : Int)) + x30) > x37)) (
                    π.ld [.slice] (p28.add (8 : Nat)) fun (((a38 : Option Addr), (n39 : Nat), (c40 : Nat)), _) =>
                    π.guard ((0 : Int) ≤ x30 ∧ x30 ≤ (↑n39 : Int) ∧ (↑n39 : Int) ≤ (↑c40 : Int)) <|
                    π.call (62 : Nat) #[(Go.Value.pointer (some (Addr.mk r (0 : Nat) none))), (Go.Value.int (IntKind.i64) (IntKind.i64.wrap (IntKind.i64.wrap (x34 + (1 : Int)) + x30))), (Go.Value.slice (if c40 = x30.toNat then a38 else Option.map (fun x => x.add (x30.toNat * (4 : Nat))) a38) ((↑n39 : Int).toNat - x30.toNat) (c40 - x30.toNat))] (true, []) fun (_) =>
                    J26 ((p28, ()), (x29, ()), ())
                  ) (
                    π.callQ (58 : Nat) #[(Go.Value.pointer (some (Addr.mk r (0 : Nat) none))), (Go.Value.int (IntKind.i64) (IntKind.i64.wrap (IntKind.i64.wrap (x34 + (1 : Int)) + x30)))] (false, [(false, [.int .i64])]) fun (((x41 : Int), _), _) =>
                    π.ld [.slice] (p28.add (8 : Nat)) fun (((a42 : Option Addr), (n43 : Nat), (c44 : Nat)), _) =>
                    π.guard ((0 : Int) ≤ x30 ∧ x30 < (↑n43 : Int)) <|
                    π.unSome (a42) fun p45 =>
                    π.ld [.int .i64] ((p45.add (x30.toNat * (4 : Nat))).add (0 : Nat)) fun ((x46 : Int), _) =>
                    π.ite (x41 != x46) (
                      π.ld [.slice] (p28.add (8 : Nat)) fun (((a47 : Option Addr), (n48 : Nat), (c49 : Nat)), _) =>
                      π.guard ((0 : Int) ≤ x30 ∧ x30 ≤ (↑n48 : Int) ∧ (↑n48 : Int) ≤ (↑c49 : Int)) <|
                      π.call (62 : Nat) #[(Go.Value.pointer (some (Addr.mk r (0 : Nat) none))), (Go.Value.int (IntKind.i64) (IntKind.i64.wrap (IntKind.i64.wrap (x34 + (1 : Int)) + x30))), (Go.Value.slice (if c49 = x30.toNat then a47 else Option.map (fun x => x.add (x30.toNat * (4 : Nat))) a47) ((↑n48 : Int).toNat - x30.toNat) (c49 - x30.toNat))] (true, []) fun (_) =>
                      J26 ((p28, ()), (x29, ()), ())
                    ) (
                      again27 ((p28, ()), (x29, ()), (IntKind.i64.wrap (x30 + (1 : Int)), ()), ())
                    )
                  )
                ) (
                  again27 ((p28, ()), (x29, ()), (IntKind.i64.wrap (x30 + (1 : Int)), ()), ())
                )
              ) (
                J26 ((p28, ()), (x29, ()), ())
              )
          ) (fun ((p50, _), ((x51 : Int), _), _) =>
            π.ld [.int .i64] (p50.add (6 : Nat)) fun ((x52 : Int), _) =>
            π.unSome (some (Addr.mk r (0 : Nat) none)) fun p53 =>
            π.ld [.int .i64] (p53.add (25 : Nat)) fun ((x54 : Int), _) =>
            π.ite (decide ((if x51 < x52 then x51 else x52) > x54)) (
              π.unSome (some (Addr.mk r (0 : Nat) none)) fun p55 =>
              π.st (p55.add (25 : Nat)) [(Go.Value.int (IntKind.i64) (if x51 < x52 then x51 else x52))] <|
              π.ld [.int .i64] (p50.add (1 : Nat)) fun ((x56 : Int), _) =>
              π.call (57 : Nat) #[(Go.Value.pointer (some (Addr.mk r (0 : Nat) none))), (Go.Value.agg #[(Go.Value.int (IntKind.i64) ((4 : Int))), (Go.Value.int (IntKind.i64) ((0 : Int))), (Go.Value.int (IntKind.i64) (x56)), (Go.Value.int (IntKind.i64) ((0 : Int))), (Go.Value.int (IntKind.i64) (x51)), (Go.Value.int (IntKind.i64) ((0 : Int))), (Go.Value.int (IntKind.i64) ((0 : Int))), (Go.Value.bool (true)), (Go.Value.slice (none) ((0 : Nat)) ((0 : Nat))), (Go.Value.string (ByteArray.mk #[]))])] (true, []) fun (_) =>
              π.ret (Go.Value.tuple #[])
            ) (
              π.ld [.int .i64] (p50.add (1 : Nat)) fun ((x57 : Int), _) =>
              π.call (57 : Nat) #[(Go.Value.pointer (some (Addr.mk r (0 : Nat) none))), (Go.Value.agg #[(Go.Value.int (IntKind.i64) ((4 : Int))), (Go.Value.int (IntKind.i64) ((0 : Int))), (Go.Value.int (IntKind.i64) (x57)), (Go.Value.int (IntKind.i64) ((0 : Int))), (Go.Value.int (IntKind.i64) (x51)), (Go.Value.int (IntKind.i64) ((0 : Int))), (Go.Value.int (IntKind.i64) ((0 : Int))), (Go.Value.bool (true)), (Go.Value.slice (none) ((0 : Nat)) ((0 : Nat))), (Go.Value.string (ByteArray.mk #[]))])] (true, []) fun (_) =>
              π.ret (Go.Value.tuple #[])
            )
          )
        )
      )
    )
  )

def ann_rentries : Ann := { draws := [(7, { A := [0, 1, 2, 3, 4, 5, 6, 7, 8, 9, 10, 11, 12, 13, 14, 15], quiet := [11] }), (8, { A := [0, 1, 2, 3, 4, 5, 6, 7, 8, 9], quiet := [4] }), (13, { A := [0, 1, 2, 3, 4, 5, 6, 7, 8, 9, 10, 11, 12, 13, 14, 15, 16, 17, 18, 19, 20, 21, 22, 23], quiet := [9, 14] })], join := [(8, [(3, 1000000), (4, 3), (54, 4)]), (15, [(3, 1000000), (4, 3)])], loop := [(10, [(3, 1000000), (4, 3), (5, 3)])] }
def la_rentries : LA := { ptr := [], ty := [] }
set_option maxRecDepth 100000 in
theorem eq_rentries {W : Type} (π : Prims W) (r : Nat) (mk mf mt mm mi mp mc : Int) (mg : Bool) (la : Option Addr) (ln lc : Nat) (ms : ByteArray) : bodyL π Try.prog la_rentries ann_rentries (mkFr (maskA [] [.v (.pointer (some ⟨r, 0, none⟩)), .v (.agg #[.int .i64 mk, .int .i64 mf, .int .i64 mt, .int .i64 mm, .int .i64 mi, .int .i64 mp, .int .i64 mc, .bool mg, .slice la ln lc, .string ms])] 0) 129) Try.f66 (bodyOf Try.f66) (mkFr (List.map some [.v (.pointer (some ⟨r, 0, none⟩)), .v (.agg #[.int .i64 mk, .int .i64 mf, .int .i64 mt, .int .i64 mm, .int .i64 mi, .int .i64 mp, .int .i64 mc, .bool mg, .slice la ln lc, .string ms])]) 129) = vc_rentries π r mk mf mt mm mi mp mc mg la ln lc ms := by kernel_rfl
theorem ok_rentries (r : Nat) (mk mf mt mm mi mp mc : Int) (mg : Bool) (la : Option Addr) (ln lc : Nat) (ms : ByteArray) (R : Value → PH → Prop) (s : PH) (h : vc_rentries (RP Try.prog R) r mk mf mt mm mi mp mc mg la ln lc ms s) : DCalls Try.prog 66 (List.map AV.val [.v (.pointer (some ⟨r, 0, none⟩)), .v (.agg #[.int .i64 mk, .int .i64 mf, .int .i64 mt, .int .i64 mm, .int .i64 mi, .int .i64 mp, .int .i64 mc, .bool mg, .slice la ln lc, .string ms])]).toArray s R :=
  calls_vcL (c := bodyOf Try.f66) (ann := ann_rentries) la_rentries (by kernel_rfl) Try.func66 rfl (by kernel_rfl) [.v (.pointer (some ⟨r, 0, none⟩)), .v (.agg #[.int .i64 mk, .int .i64 mf, .int .i64 mt, .int .i64 mm, .int .i64 mi, .int .i64 mp, .int .i64 mc, .bool mg, .slice la ln lc, .string ms])] [] (by rw [Try.ntmps66]; exact Nat.le_of_ble_eq_true rfl) (by kernel_rfl) (by rw [show Try.f66.ntmps = 129 from Try.ntmps66, eq_rentries]; exact h)

/-- (*lintel/lintelref09.Ballot).heard -/
def vc_rheard {W : Type} (π : Prims W) (r : Nat) (mk mf mt mm mi mp mc : Int) (mg : Bool) (la : Option Addr) (ln lc : Nat) (ms : ByteArray) : W :=
  π.nw (Go.Obj.cells #[(Go.Value.int (IntKind.i64) (mk)), (Go.Value.int (IntKind.i64) (mf)), (Go.Value.int (IntKind.i64) (mt)), (Go.Value.int (IntKind.i64) (mm)), (Go.Value.int (IntKind.i64) (mi)), (Go.Value.int (IntKind.i64) (mp)), (Go.Value.int (IntKind.i64) (mc)), (Go.Value.bool (mg)), (Go.Value.slice (la) (ln) (lc)), (Go.Value.string (ms))] (32 : Nat) ((0 : Nat), (0 : Nat))) fun r0 =>
  π.unSome (some (Addr.mk r (0 : Nat) none)) fun p1 =>
  π.ld [.int .i64] (p1.add (4 : Nat)) fun ((x2 : Int), _) =>
  π.ite (x2 != (2 : Int)) (
    π.ret (Go.Value.tuple #[])
  ) (
    π.ld [.int .i64] ((Addr.mk r0 (0 : Nat) none).add (1 : Nat)) fun ((x3 : Int), _) =>
    π.ld [.bool] ((Addr.mk r0 (0 : Nat) none).add (7 : Nat)) fun ((b4 : Bool), _) =>
    π.ite (!b4) (
      π.ld [.int .i64] ((Addr.mk r0 (0 : Nat) none).add (4 : Nat)) fun ((x5 : Int), _) =>
      π.unSome (some (Addr.mk r (0 : Nat) none)) fun p6 =>
      π.guard ((0 : Int) ≤ x3 ∧ x3 < (5 : Int)) <|
      π.ld [.int .i64] ((p6.add (15 : Nat)).add (x3.toNat * (1 : Nat))) fun ((x7 : Int), _) =>
      π.unSome (some (Addr.mk r (0 : Nat) none)) fun p8 =>
      π.guard ((0 : Int) ≤ x3 ∧ x3 < (5 : Int)) <|
      π.ld [.int .i64] ((p8.add (20 : Nat)).add (x3.toNat * (1 : Nat))) fun ((x9 : Int), _) =>
      π.unSome (some (Addr.mk r (0 : Nat) none)) fun p10 =>
      π.guard ((0 : Int) ≤ x3 ∧ x3 < (5 : Int)) <|
      π.st ((p10.add (15 : Nat)).add (x3.toNat * (1 : Nat))) [(Go.Value.int (IntKind.i64) (if IntKind.i64.wrap (x9 + (1 : Int)) > if IntKind.i64.wrap (x7 - (1 : Int)) < IntKind.i64.wrap (x5 + (1 : Int)) then IntKind.i64.wrap (x7 - (1 : Int)) else IntKind.i64.wrap (x5 + (1 : Int)) then IntKind.i64.wrap (x9 + (1 : Int)) else if IntKind.i64.wrap (x7 - (1 : Int)) < IntKind.i64.wrap (x5 + (1 : Int)) then IntKind.i64.wrap (x7 - (1 : Int)) else IntKind.i64.wrap (x5 + (1 : Int))))] <|
      π.call (72 : Nat) #[(Go.Value.pointer (some (Addr.mk r (0 : Nat) none))), (Go.Value.int (IntKind.i64) (x3))] (true, []) fun (_) =>
      π.ret (Go.Value.tuple #[])
    ) (
      π.unSome (some (Addr.mk r (0 : Nat) none)) fun p11 =>
      π.guard ((0 : Int) ≤ x3 ∧ x3 < (5 : Int)) <|
      π.ld [.int .i64] ((p11.add (20 : Nat)).add (x3.toNat * (1 : Nat))) fun ((x12 : Int), _) =>
      π.ld [.int .i64] ((Addr.mk r0 (0 : Nat) none).add (4 : Nat)) fun ((x13 : Int), _) =>
      π.callQ (37 : Nat) #[(Go.Value.pointer (some (Addr.mk r (0 : Nat) none)))] (false, [(false, [.int .i64])]) fun (((x14 : Int), _), _) =>
      π.unSome (some (Addr.mk r (0 : Nat) none)) fun p15 =>
      π.guard ((0 : Int) ≤ x3 ∧ x3 < (5 : Int)) <|
      π.st ((p15.add (20 : Nat)).add (x3.toNat * (1 : Nat))) [(Go.Value.int (IntKind.i64) (if (if x14 < x13 then x14 else x13) > x12 then if x14 < x13 then x14 else x13 else x12))] <|
      π.unSome (some (Addr.mk r (0 : Nat) none)) fun p16 =>
      π.guard ((0 : Int) ≤ x3 ∧ x3 < (5 : Int)) <|
      π.ld [.int .i64] ((p16.add (20 : Nat)).add (x3.toNat * (1 : Nat))) fun ((x17 : Int), _) =>
      π.unSome (some (Addr.mk r (0 : Nat) none)) fun p18 =>
      π.guard ((0 : Int) ≤ x3 ∧ x3 < (5 : Int)) <|
      π.st ((p18.add (15 : Nat)).add (x3.toNat * (1 : Nat))) [(Go.Value.int (IntKind.i64) (IntKind.i64.wrap (x17 + (1 : Int))))] <|
      π.call (63 : Nat) #[(Go.Value.pointer (some (Addr.mk r (0 : Nat) none)))] (true, []) fun (_) =>
      π.unSome (some (Addr.mk r (0 : Nat) none)) fun p19 =>
      π.guard ((0 : Int) ≤ x3 ∧ x3 < (5 : Int)) <|
      π.ld [.int .i64] ((p19.add (20 : Nat)).add (x3.toNat * (1 : Nat))) fun ((x20 : Int), _) =>
      π.ite (decide (x20 > x12)) (
        π.unSome (some (Addr.mk r (0 : Nat) none)) fun p21 =>
        π.guard ((0 : Int) ≤ x3 ∧ x3 < (5 : Int)) <|
        π.ld [.int .i64] ((p21.add (15 : Nat)).add (x3.toNat * (1 : Nat))) fun ((x22 : Int), _) =>
        π.callQ (37 : Nat) #[(Go.Value.pointer (some (Addr.mk r (0 : Nat) none)))] (false, [(false, [.int .i64])]) fun (((x23 : Int), _), _) =>
        π.ite (decide (x22 ≤ x23)) (
          π.call (72 : Nat) #[(Go.Value.pointer (some (Addr.mk r (0 : Nat) none))), (Go.Value.int (IntKind.i64) (x3))] (true, []) fun (_) =>
          π.ret (Go.Value.tuple #[])
        ) (
          π.ret (Go.Value.tuple #[])
        )
      ) (
        π.ret (Go.Value.tuple #[])
      )
    )
  )

def ann_rheard : Ann := { draws := [(4, { A := [0, 1, 2, 3, 4, 5, 6, 7, 8, 9, 10, 11, 12, 13, 14, 15, 16, 17, 18, 19, 20, 21, 22, 23] }), (7, { A := [0, 1, 2, 3, 4, 5, 6, 7, 8, 9, 10, 11], quiet := [6] }), (8, { A := [0, 1, 2, 3, 4, 5, 6, 7, 8, 9, 10, 11] }), (10, { A := [0, 1, 2, 3, 4, 5, 6, 7, 8, 9, 10, 11, 12, 13, 14, 15, 16, 17, 18], quiet := [16] })], join := [], loop := [] }
def la_rheard : LA := { ptr := [], ty := [] }
set_option maxRecDepth 100000 in
theorem eq_rheard {W : Type} (π : Prims W) (r : Nat) (mk mf mt mm mi mp mc : Int) (mg : Bool) (la : Option Addr) (ln lc : Nat) (ms : ByteArray) : bodyL π Try.prog la_rheard ann_rheard (mkFr (maskA [] [.v (.pointer (some ⟨r, 0, none⟩)), .v (.agg #[.int .i64 mk, .int .i64 mf, .int .i64 mt, .int .i64 mm, .int .i64 mi, .int .i64 mp, .int .i64 mc, .bool mg, .slice la ln lc, .string ms])] 0) 97) Try.f67 (bodyOf Try.f67) (mkFr (List.map some [.v (.pointer (some ⟨r, 0, none⟩)), .v (.agg #[.int .i64 mk, .int .i64 mf, .int .i64 mt, .int .i64 mm, .int .i64 mi, .int .i64 mp, .int .i64 mc, .bool mg, .slice la ln lc, .string ms])]) 97) = vc_rheard π r mk mf mt mm mi mp mc mg la ln lc ms := by kernel_rfl
theorem ok_rheard (r : Nat) (mk mf mt mm mi mp mc : Int) (mg : Bool) (la : Option Addr) (ln lc : Nat) (ms : ByteArray) (R : Value → PH → Prop) (s : PH) (h : vc_rheard (RP Try.prog R) r mk mf mt mm mi mp mc mg la ln lc ms s) : DCalls Try.prog 67 (List.map AV.val [.v (.pointer (some ⟨r, 0, none⟩)), .v (.agg #[.int .i64 mk, .int .i64 mf, .int .i64 mt, .int .i64 mm, .int .i64 mi, .int .i64 mp, .int .i64 mc, .bool mg, .slice la ln lc, .string ms])]).toArray s R :=
  calls_vcL (c := bodyOf Try.f67) (ann := ann_rheard) la_rheard (by kernel_rfl) Try.func67 rfl (by kernel_rfl) [.v (.pointer (some ⟨r, 0, none⟩)), .v (.agg #[.int .i64 mk, .int .i64 mf, .int .i64 mt, .int .i64 mm, .int .i64 mi, .int .i64 mp, .int .i64 mc, .bool mg, .slice la ln lc, .string ms])] [] (by rw [Try.ntmps67]; exact Nat.le_of_ble_eq_true rfl) (by kernel_rfl) (by rw [show Try.f67.ntmps = 97 from Try.ntmps67, eq_rheard]; exact h)

/-- (*lintel/lintelref09.Ballot).given -/
def vc_rgiven {W : Type} (π : Prims W) (r : Nat) (mk mf mt mm mi mp mc : Int) (mg : Bool) (la : Option Addr) (ln lc : Nat) (ms : ByteArray) : W :=
  π.nw (Go.Obj.cells #[(Go.Value.int (IntKind.i64) (mk)), (Go.Value.int (IntKind.i64) (mf)), (Go.Value.int (IntKind.i64) (mt)), (Go.Value.int (IntKind.i64) (mm)), (Go.Value.int (IntKind.i64) (mi)), (Go.Value.int (IntKind.i64) (mp)), (Go.Value.int (IntKind.i64) (mc)), (Go.Value.bool (mg)), (Go.Value.slice (la) (ln) (lc)), (Go.Value.string (ms))] (32 : Nat) ((0 : Nat), (0 : Nat))) fun r0 =>
  π.unSome (some (Addr.mk r (0 : Nat) none)) fun p1 =>
  π.ld [.int .i64] (p1.add (4 : Nat)) fun ((x2 : Int), _) =>
  π.ite (x2 == (2 : Int)) (
    π.ret (Go.Value.tuple #[])
  ) (
    π.unSome (some (Addr.mk r (0 : Nat) none)) fun p3 =>
    π.st (p3.add (4 : Nat)) [(Go.Value.int (IntKind.i64) ((0 : Int)))] <|
    π.ld [.int .i64] ((Addr.mk r0 (0 : Nat) none).add (1 : Nat)) fun ((x4 : Int), _) =>
    π.unSome (some (Addr.mk r (0 : Nat) none)) fun p5 =>
    π.st (p5.add (5 : Nat)) [(Go.Value.int (IntKind.i64) (x4))] <|
    π.ld [.int .i64] ((Addr.mk r0 (0 : Nat) none).add (4 : Nat)) fun ((x6 : Int), _) =>
    π.unSome (some (Addr.mk r (0 : Nat) none)) fun p7 =>
    π.ld [.int .i64] (p7.add (25 : Nat)) fun ((x8 : Int), _) =>
    π.ite (decide (x6 > x8)) (
      π.join [(false, [.addr]), (false, [.slice])] (fun J9 =>
        π.ld [.int .i64] ((Addr.mk r0 (0 : Nat) none).add (4 : Nat)) fun ((x10 : Int), _) =>
        π.callQ (58 : Nat) #[(Go.Value.pointer (some (Addr.mk r (0 : Nat) none))), (Go.Value.int (IntKind.i64) (x10))] (false, [(false, [.int .i64])]) fun (((x11 : Int), _), _) =>
        π.ld [.int .i64] ((Addr.mk r0 (0 : Nat) none).add (5 : Nat)) fun ((x12 : Int), _) =>
        π.ite (x11 == x12) (
          π.unSome (some (Addr.mk r (0 : Nat) none)) fun p13 =>
          π.ld [.slice] (p13.add (9 : Nat)) fun (((a14 : Option Addr), (n15 : Nat), (c16 : Nat)), _) =>
          π.ld [.int .i64] ((Addr.mk r0 (0 : Nat) none).add (4 : Nat)) fun ((x17 : Int), _) =>
          π.unSome (some (Addr.mk r (0 : Nat) none)) fun p18 =>
          π.ld [.int .i64] (p18.add (6 : Nat)) fun ((x19 : Int), _) =>
          π.guard ((0 : Int) ≤ IntKind.i64.wrap (x17 - x19) ∧ IntKind.i64.wrap (x17 - x19) ≤ (↑n15 : Int) ∧ (↑n15 : Int) ≤ (↑c16 : Int)) <|
          π.app (39 : Nat) (4 : Nat) (40 : Nat) [(Go.Value.int (IntKind.i64) ((0 : Int))), (Go.Value.int (IntKind.i64) ((0 : Int))), (Go.Value.int (IntKind.i64) ((0 : Int))), (Go.Value.string (ByteArray.mk #[]))] (none) ((0 : Nat)) ((0 : Nat)) (Src.sl (if c16 = (IntKind.i64.wrap (x17 - x19)).toNat then a14 else Option.map (fun x => x.add ((IntKind.i64.wrap (x17 - x19)).toNat * (4 : Nat))) a14) ((↑n15 : Int).toNat - (IntKind.i64.wrap (x17 - x19)).toNat)) fun a20 n21 c22 =>
          J9 ((Addr.mk r0 (0 : Nat) none, ()), ((a20, n21, c22), ()), ())
        ) (
          J9 ((Addr.mk r0 (0 : Nat) none, ()), ((none, (0 : Nat), (0 : Nat)), ()), ())
        )
      ) (fun ((p23, _), (((a24 : Option Addr), (n25 : Nat), (c26 : Nat)), _), _) =>
        π.ld [.int .i64] (p23.add (4 : Nat)) fun ((x27 : Int), _) =>
        π.ld [.int .i64] (p23.add (5 : Nat)) fun ((x28 : Int), _) =>
        π.ld [.str] (p23.add (9 : Nat)) fun ((t29 : ByteArray), _) =>
        π.call (69 : Nat) #[(Go.Value.pointer (some (Addr.mk r (0 : Nat) none))), (Go.Value.int (IntKind.i64) (x27)), (Go.Value.int (IntKind.i64) (x28)), (Go.Value.string (t29)), (Go.Value.slice (a24) (n25) (c26))] (true, []) fun (_) =>
        π.ld [.int .i64] (p23.add (4 : Nat)) fun ((x30 : Int), _) =>
        π.unSome (some (Addr.mk r (0 : Nat) none)) fun p31 =>
        π.st (p31.add (25 : Nat)) [(Go.Value.int (IntKind.i64) (x30))] <|
        π.ld [.int .i64] (p23.add (1 : Nat)) fun ((x32 : Int), _) =>
        π.ld [.int .i64] (p23.add (4 : Nat)) fun ((x33 : Int), _) =>
        π.call (57 : Nat) #[(Go.Value.pointer (some (Addr.mk r (0 : Nat) none))), (Go.Value.agg #[(Go.Value.int (IntKind.i64) ((4 : Int))), (Go.Value.int (IntKind.i64) ((0 : Int))), (Go.Value.int (IntKind.i64) (x32)), (Go.Value.int (IntKind.i64) ((0 : Int))), (Go.Value.int (IntKind.i64) (x33)), (Go.Value.int (IntKind.i64) ((0 : Int))), (Go.Value.int (IntKind.i64) ((0 : Int))), (Go.Value.bool (true)), (Go.Value.slice (none) ((0 : Nat)) ((0 : Nat))), (Go.Value.string (ByteArray.mk #[]))])] (true, []) fun (_) =>
        π.ret (Go.Value.tuple #[])
      )
    ) (
      π.ld [.int .i64] ((Addr.mk r0 (0 : Nat) none).add (1 : Nat)) fun ((x34 : Int), _) =>
      π.ld [.int .i64] ((Addr.mk r0 (0 : Nat) none).add (4 : Nat)) fun ((x35 : Int), _) =>
      π.call (57 : Nat) #[(Go.Value.pointer (some (Addr.mk r (0 : Nat) none))), (Go.Value.agg #[(Go.Value.int (IntKind.i64) ((4 : Int))), (Go.Value.int (IntKind.i64) ((0 : Int))), (Go.Value.int (IntKind.i64) (x34)), (Go.Value.int (IntKind.i64) ((0 : Int))), (Go.Value.int (IntKind.i64) (x35)), (Go.Value.int (IntKind.i64) ((0 : Int))), (Go.Value.int (IntKind.i64) ((0 : Int))), (Go.Value.bool (true)), (Go.Value.slice (none) ((0 : Nat)) ((0 : Nat))), (Go.Value.string (ByteArray.mk #[]))])] (true, []) fun (_) =>
      π.ret (Go.Value.tuple #[])
    )
  )

def ann_rgiven : Ann := { draws := [(4, { A := [0, 1, 2, 3, 4, 5, 6] }), (6, { A := [0, 1, 2, 3, 4, 5, 6], quiet := [3] }), (7, { A := [0, 1, 2, 3, 4, 5, 6, 7, 8, 9, 10, 11, 12] })], join := [(8, [(3, 1000000), (4, 30)])], loop := [] }
def la_rgiven : LA := { ptr := [], ty := [] }
set_option maxRecDepth 100000 in
theorem eq_rgiven {W : Type} (π : Prims W) (r : Nat) (mk mf mt mm mi mp mc : Int) (mg : Bool) (la : Option Addr) (ln lc : Nat) (ms : ByteArray) : bodyL π Try.prog la_rgiven ann_rgiven (mkFr (maskA [] [.v (.pointer (some ⟨r, 0, none⟩)), .v (.agg #[.int .i64 mk, .int .i64 mf, .int .i64 mt, .int .i64 mm, .int .i64 mi, .int .i64 mp, .int .i64 mc, .bool mg, .slice la ln lc, .string ms])] 0) 67) Try.f68 (bodyOf Try.f68) (mkFr (List.map some [.v (.pointer (some ⟨r, 0, none⟩)), .v (.agg #[.int .i64 mk, .int .i64 mf, .int .i64 mt, .int .i64 mm, .int .i64 mi, .int .i64 mp, .int .i64 mc, .bool mg, .slice la ln lc, .string ms])]) 67) = vc_rgiven π r mk mf mt mm mi mp mc mg la ln lc ms := by kernel_rfl
theorem ok_rgiven (r : Nat) (mk mf mt mm mi mp mc : Int) (mg : Bool) (la : Option Addr) (ln lc : Nat) (ms : ByteArray) (R : Value → PH → Prop) (s : PH) (h : vc_rgiven (RP Try.prog R) r mk mf mt mm mi mp mc mg la ln lc ms s) : DCalls Try.prog 68 (List.map AV.val [.v (.pointer (some ⟨r, 0, none⟩)), .v (.agg #[.int .i64 mk, .int .i64 mf, .int .i64 mt, .int .i64 mm, .int .i64 mi, .int .i64 mp, .int .i64 mc, .bool mg, .slice la ln lc, .string ms])]).toArray s R :=
  calls_vcL (c := bodyOf Try.f68) (ann := ann_rgiven) la_rgiven (by kernel_rfl) Try.func68 rfl (by kernel_rfl) [.v (.pointer (some ⟨r, 0, none⟩)), .v (.agg #[.int .i64 mk, .int .i64 mf, .int .i64 mt, .int .i64 mm, .int .i64 mi, .int .i64 mp, .int .i64 mc, .bool mg, .slice la ln lc, .string ms])] [] (by rw [Try.ntmps68]; exact Nat.le_of_ble_eq_true rfl) (by kernel_rfl) (by rw [show Try.f68.ntmps = 67 from Try.ntmps68, eq_rgiven]; exact h)

/-- (*lintel/lintelref09.Ballot).rebase -/
def vc_rrebase {W : Type} (π : Prims W) (r : Nat) (i term : Int) (snap : ByteArray) (a : Option Addr) (an ac : Nat) : W :=
  π.unSome (some (Addr.mk r (0 : Nat) none)) fun p0 =>
  π.st (p0.add (6 : Nat)) [(Go.Value.int (IntKind.i64) (i))] <|
  π.unSome (some (Addr.mk r (0 : Nat) none)) fun p1 =>
  π.st (p1.add (7 : Nat)) [(Go.Value.int (IntKind.i64) (term))] <|
  π.unSome (some (Addr.mk r (0 : Nat) none)) fun p2 =>
  π.st (p2.add (8 : Nat)) [(Go.Value.string (snap))] <|
  π.unSome (some (Addr.mk r (0 : Nat) none)) fun p3 =>
  π.st (p3.add (9 : Nat)) [(Go.Value.slice (a) (an) (ac))] <|
  π.unSome (some (Addr.mk r (0 : Nat) none)) fun p4 =>
  π.st (p4.add (26 : Nat)) [(Go.Value.bool (true))] <|
  π.unSome (some (Addr.mk r (0 : Nat) none)) fun p5 =>
  π.st (p5.add (27 : Nat)) [(Go.Value.bool (true))] <|
  π.ret (Go.Value.tuple #[])

def ann_rrebase : Ann := { draws := [], join := [], loop := [] }
def la_rrebase : LA := { ptr := [], ty := [] }
set_option maxRecDepth 100000 in
theorem eq_rrebase {W : Type} (π : Prims W) (r : Nat) (i term : Int) (snap : ByteArray) (a : Option Addr) (an ac : Nat) : bodyL π Try.prog la_rrebase ann_rrebase (mkFr (maskA [] [.v (.pointer (some ⟨r, 0, none⟩)), .v (.int .i64 i), .v (.int .i64 term), .v (.string snap), .v (.slice a an ac)] 0) 32) Try.f69 (bodyOf Try.f69) (mkFr (List.map some [.v (.pointer (some ⟨r, 0, none⟩)), .v (.int .i64 i), .v (.int .i64 term), .v (.string snap), .v (.slice a an ac)]) 32) = vc_rrebase π r i term snap a an ac := by kernel_rfl
theorem ok_rrebase (r : Nat) (i term : Int) (snap : ByteArray) (a : Option Addr) (an ac : Nat) (R : Value → PH → Prop) (s : PH) (h : vc_rrebase (RP Try.prog R) r i term snap a an ac s) : DCalls Try.prog 69 (List.map AV.val [.v (.pointer (some ⟨r, 0, none⟩)), .v (.int .i64 i), .v (.int .i64 term), .v (.string snap), .v (.slice a an ac)]).toArray s R :=
  calls_vcL (c := bodyOf Try.f69) (ann := ann_rrebase) la_rrebase (by kernel_rfl) Try.func69 rfl (by kernel_rfl) [.v (.pointer (some ⟨r, 0, none⟩)), .v (.int .i64 i), .v (.int .i64 term), .v (.string snap), .v (.slice a an ac)] [] (by rw [Try.ntmps69]; exact Nat.le_of_ble_eq_true rfl) (by kernel_rfl) (by rw [show Try.f69.ntmps = 32 from Try.ntmps69, eq_rrebase]; exact h)

/-- (*lintel/lintelref09.Ballot).Cut -/
def vc_rCut {W : Type} (π : Prims W) (r : Nat) (i : Int) (snap : ByteArray) : W :=
  π.join [] (fun J0 =>
    π.unSome (some (Addr.mk r (0 : Nat) none)) fun p1 =>
    π.ld [.int .i64] (p1.add (6 : Nat)) fun ((x2 : Int), _) =>
    π.ite (decide (i ≤ x2)) (
      π.ret (Go.Value.bool (false))
    ) (
      π.unSome (some (Addr.mk r (0 : Nat) none)) fun p3 =>
      π.ld [.int .i64] (p3.add (25 : Nat)) fun ((x4 : Int), _) =>
      π.ite (decide (i > x4)) (
        π.ret (Go.Value.bool (false))
      ) (
        J0 (())
      )
    )
  ) (fun (_) =>
    π.callQ (58 : Nat) #[(Go.Value.pointer (some (Addr.mk r (0 : Nat) none))), (Go.Value.int (IntKind.i64) (i))] (false, [(false, [.int .i64])]) fun (((x5 : Int), _), _) =>
    π.unSome (some (Addr.mk r (0 : Nat) none)) fun p6 =>
    π.ld [.slice] (p6.add (9 : Nat)) fun (((a7 : Option Addr), (n8 : Nat), (c9 : Nat)), _) =>
    π.unSome (some (Addr.mk r (0 : Nat) none)) fun p10 =>
    π.ld [.int .i64] (p10.add (6 : Nat)) fun ((x11 : Int), _) =>
    π.guard ((0 : Int) ≤ IntKind.i64.wrap (i - x11) ∧ IntKind.i64.wrap (i - x11) ≤ (↑n8 : Int) ∧ (↑n8 : Int) ≤ (↑c9 : Int)) <|
    π.nw (Go.Obj.cells #[] (39 : Nat) ((0 : Nat), (0 : Nat))) fun r12 =>
    π.app (39 : Nat) (4 : Nat) (40 : Nat) [(Go.Value.int (IntKind.i64) ((0 : Int))), (Go.Value.int (IntKind.i64) ((0 : Int))), (Go.Value.int (IntKind.i64) ((0 : Int))), (Go.Value.string (ByteArray.mk #[]))] (some (Addr.mk r12 (0 : Nat) none)) ((0 : Nat)) ((0 : Nat)) (Src.sl (if c9 = (IntKind.i64.wrap (i - x11)).toNat then a7 else Option.map (fun x => x.add ((IntKind.i64.wrap (i - x11)).toNat * (4 : Nat))) a7) ((↑n8 : Int).toNat - (IntKind.i64.wrap (i - x11)).toNat)) fun a13 n14 c15 =>
    π.call (69 : Nat) #[(Go.Value.pointer (some (Addr.mk r (0 : Nat) none))), (Go.Value.int (IntKind.i64) (i)), (Go.Value.int (IntKind.i64) (x5)), (Go.Value.string (snap)), (Go.Value.slice (a13) (n14) (c15))] (true, []) fun (_) =>
    π.ret (Go.Value.bool (true))
  )

def ann_rCut : Ann := { draws := [(3, { A := [0, 1, 2, 3, 4, 5, 7, 8, 9, 10, 11, 12, 13, 14, 15, 16, 17], quiet := [4] })], join := [(3, [])], loop := [] }
def la_rCut : LA := { ptr := [], ty := [] }
set_option maxRecDepth 100000 in
theorem eq_rCut {W : Type} (π : Prims W) (r : Nat) (i : Int) (snap : ByteArray) : bodyL π Try.prog la_rCut ann_rCut (mkFr (maskA [] [.v (.pointer (some ⟨r, 0, none⟩)), .v (.int .i64 i), .v (.string snap)] 0) 41) Try.f35 (bodyOf Try.f35) (mkFr (List.map some [.v (.pointer (some ⟨r, 0, none⟩)), .v (.int .i64 i), .v (.string snap)]) 41) = vc_rCut π r i snap := by kernel_rfl
theorem ok_rCut (r : Nat) (i : Int) (snap : ByteArray) (R : Value → PH → Prop) (s : PH) (h : vc_rCut (RP Try.prog R) r i snap s) : DCalls Try.prog 35 (List.map AV.val [.v (.pointer (some ⟨r, 0, none⟩)), .v (.int .i64 i), .v (.string snap)]).toArray s R :=
  calls_vcL (c := bodyOf Try.f35) (ann := ann_rCut) la_rCut (by kernel_rfl) Try.func35 rfl (by kernel_rfl) [.v (.pointer (some ⟨r, 0, none⟩)), .v (.int .i64 i), .v (.string snap)] [] (by rw [Try.ntmps35]; exact Nat.le_of_ble_eq_true rfl) (by kernel_rfl) (by rw [show Try.f35.ntmps = 41 from Try.ntmps35, eq_rCut]; exact h)

/-- (*lintel/lintelref09.Ballot).Delta -/
def vc_rDelta {W : Type} (π : Prims W) (r : Nat) : W :=
  π.unSome (some (Addr.mk r (0 : Nat) none)) fun p0 =>
  π.ld [.bool] (p0.add (26 : Nat)) fun ((b1 : Bool), _) =>
  π.ite (!b1) (
    π.ret (Go.Value.tuple #[(Go.Value.agg #[(Go.Value.int (IntKind.i64) ((0 : Int))), (Go.Value.int (IntKind.i64) ((0 : Int))), (Go.Value.bool (false)), (Go.Value.int (IntKind.i64) ((0 : Int))), (Go.Value.int (IntKind.i64) ((0 : Int))), (Go.Value.string (ByteArray.mk #[])), (Go.Value.int (IntKind.i64) ((0 : Int))), (Go.Value.slice (none) ((0 : Nat)) ((0 : Nat)))]), (Go.Value.bool (false))])
  ) (
    π.unSome (some (Addr.mk r (0 : Nat) none)) fun p2 =>
    π.ld [.int .i64] (p2.add (2 : Nat)) fun ((x3 : Int), _) =>
    π.unSome (some (Addr.mk r (0 : Nat) none)) fun p4 =>
    π.ld [.int .i64] (p4.add (3 : Nat)) fun ((x5 : Int), _) =>
    π.unSome (some (Addr.mk r (0 : Nat) none)) fun p6 =>
    π.ld [.int .i64] (p6.add (28 : Nat)) fun ((x7 : Int), _) =>
    π.join [(true, [.int .i64, .int .i64, .bool, .int .i64, .int .i64, .str, .int .i64, .slice]), (true, [.int .i64, .int .i64, .bool, .int .i64, .int .i64, .str, .int .i64, .slice])] (fun J8 =>
      π.unSome (some (Addr.mk r (0 : Nat) none)) fun p9 =>
      π.ld [.bool] (p9.add (27 : Nat)) fun ((b10 : Bool), _) =>
      π.ite (b10) (
        π.unSome (some (Addr.mk r (0 : Nat) none)) fun p11 =>
        π.ld [.int .i64] (p11.add (6 : Nat)) fun ((x12 : Int), _) =>
        π.unSome (some (Addr.mk r (0 : Nat) none)) fun p13 =>
        π.ld [.int .i64] (p13.add (7 : Nat)) fun ((x14 : Int), _) =>
        π.unSome (some (Addr.mk r (0 : Nat) none)) fun p15 =>
        π.ld [.str] (p15.add (8 : Nat)) fun ((t16 : ByteArray), _) =>
        π.unSome (some (Addr.mk r (0 : Nat) none)) fun p17 =>
        π.ld [.int .i64] (p17.add (6 : Nat)) fun ((x18 : Int), _) =>
        J8 (((0 : Int), (0 : Int), false, (0 : Int), (0 : Int), ByteArray.mk #[], (0 : Int), (none, (0 : Nat), (0 : Nat)), ()), (x3, x5, true, x12, x14, t16, IntKind.i64.wrap (x18 + (1 : Int)), (none, (0 : Nat), (0 : Nat)), ()), ())
      ) (
        J8 (((0 : Int), (0 : Int), false, (0 : Int), (0 : Int), ByteArray.mk #[], (0 : Int), (none, (0 : Nat), (0 : Nat)), ()), (x3, x5, false, (0 : Int), (0 : Int), ByteArray.mk #[], x7, (none, (0 : Nat), (0 : Nat)), ()), ())
      )
    ) (fun (((x19 : Int), (x20 : Int), (b21 : Bool), (x22 : Int), (x23 : Int), (t24 : ByteArray), (x25 : Int), ((a26 : Option Addr), (n27 : Nat), (c28 : Nat)), _), ((x29 : Int), (x30 : Int), (b31 : Bool), (x32 : Int), (x33 : Int), (t34 : ByteArray), (x35 : Int), ((a36 : Option Addr), (n37 : Nat), (c38 : Nat)), _), _) =>
      π.unSome (some (Addr.mk r (0 : Nat) none)) fun p39 =>
      π.ld [.slice] (p39.add (9 : Nat)) fun (((a40 : Option Addr), (n41 : Nat), (c42 : Nat)), _) =>
      π.unSome (some (Addr.mk r (0 : Nat) none)) fun p43 =>
      π.ld [.int .i64] (p43.add (6 : Nat)) fun ((x44 : Int), _) =>
      π.guard ((0 : Int) ≤ IntKind.i64.wrap (IntKind.i64.wrap (x35 - x44) - (1 : Int)) ∧ IntKind.i64.wrap (IntKind.i64.wrap (x35 - x44) - (1 : Int)) ≤ (↑n41 : Int) ∧ (↑n41 : Int) ≤ (↑c42 : Int)) <|
      π.app (39 : Nat) (4 : Nat) (40 : Nat) [(Go.Value.int (IntKind.i64) ((0 : Int))), (Go.Value.int (IntKind.i64) ((0 : Int))), (Go.Value.int (IntKind.i64) ((0 : Int))), (Go.Value.string (ByteArray.mk #[]))] (a36) (n37) (c38) (Src.sl (if c42 = (IntKind.i64.wrap (IntKind.i64.wrap (x35 - x44) - (1 : Int))).toNat then a40 else Option.map (fun x => x.add ((IntKind.i64.wrap (IntKind.i64.wrap (x35 - x44) - (1 : Int))).toNat * (4 : Nat))) a40) ((↑n41 : Int).toNat - (IntKind.i64.wrap (IntKind.i64.wrap (x35 - x44) - (1 : Int))).toNat)) fun a45 n46 c47 =>
      π.unSome (some (Addr.mk r (0 : Nat) none)) fun p48 =>
      π.st (p48.add (26 : Nat)) [(Go.Value.bool (false))] <|
      π.unSome (some (Addr.mk r (0 : Nat) none)) fun p49 =>
      π.st (p49.add (27 : Nat)) [(Go.Value.bool (false))] <|
      π.call (37 : Nat) #[(Go.Value.pointer (some (Addr.mk r (0 : Nat) none)))] (false, [(false, [.int .i64])]) fun (((x50 : Int), _), _) =>
      π.unSome (some (Addr.mk r (0 : Nat) none)) fun p51 =>
      π.st (p51.add (28 : Nat)) [(Go.Value.int (IntKind.i64) (IntKind.i64.wrap (x50 + (1 : Int))))] <|
      π.ret (Go.Value.tuple #[(Go.Value.agg #[(Go.Value.int (IntKind.i64) (x29)), (Go.Value.int (IntKind.i64) (x30)), (Go.Value.bool (b31)), (Go.Value.int (IntKind.i64) (x32)), (Go.Value.int (IntKind.i64) (x33)), (Go.Value.string (t34)), (Go.Value.int (IntKind.i64) (x35)), (Go.Value.slice (a45) (n46) (c47))]), (Go.Value.bool (true))])
    )
  )

def ann_rDelta : Ann := { draws := [(3, { A := [0, 1, 2, 3, 4, 5, 6, 7, 8, 9, 10, 11, 12] }), (10, { A := [0, 1, 2, 3, 4, 5, 6, 7, 8, 9, 10, 11, 12, 13, 14], eag := [16] })], join := [(10, [(2, 53), (4, 53)])], loop := [] }
def la_rDelta : LA := { ptr := [(2, 2, 0), (4, 4, 0), (28, 4, 2), (33, 4, 3), (38, 4, 4), (43, 4, 5), (49, 4, 6), (50, 4, 7), (56, 4, 6), (66, 4, 7)], ty := [(2, 53), (4, 53)] }
set_option maxRecDepth 100000 in
theorem eq_rDelta {W : Type} (π : Prims W) (r : Nat) : bodyL π Try.prog la_rDelta ann_rDelta (mkFr (maskA [] [.v (.pointer (some ⟨r, 0, none⟩))] 0) 80) Try.f18 (bodyOf Try.f18) (mkFr (List.map some [.v (.pointer (some ⟨r, 0, none⟩))]) 80) = vc_rDelta π r := by kernel_rfl
theorem ok_rDelta (r : Nat) (R : Value → PH → Prop) (s : PH) (h : vc_rDelta (RP Try.prog R) r s) : DCalls Try.prog 18 (List.map AV.val [.v (.pointer (some ⟨r, 0, none⟩))]).toArray s R :=
  calls_vcL (c := bodyOf Try.f18) (ann := ann_rDelta) la_rDelta (by kernel_rfl) Try.func18 rfl (by kernel_rfl) [.v (.pointer (some ⟨r, 0, none⟩))] [] (by rw [Try.ntmps18]; exact Nat.le_of_ble_eq_true rfl) (by kernel_rfl) (by rw [show Try.f18.ntmps = 80 from Try.ntmps18, eq_rDelta]; exact h)

end Go.Proofs.Ytfpbiecmobdnnaa
