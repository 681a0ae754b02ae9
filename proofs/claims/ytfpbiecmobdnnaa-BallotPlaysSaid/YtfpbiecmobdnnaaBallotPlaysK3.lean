/-
  Part 3 for the law: texts of this session's own, those parts that the claim needs, one behind the other.
  Conditions: none; it proves no statement by itself.
-/
import Derived.Test.YtfpbiecmobdnnaaBallotPlaysK2
set_option linter.unusedVariables false
set_option linter.unusedSectionVars false
set_option linter.unusedSimpArgs false
section
set_option linter.unusedVariables false
set_option maxHeartbeats 1000000
namespace Go.Proofs.Ytfpbiecmobdnnaa
open Fw Fw.W Go
/-- (*lintel/lintelref09.Ballot).Last -/
def vc_rLast {W : Type} (π : Prims W) (r : Nat) : W :=
  π.unSome (some (Addr.mk r (0 : Nat) none)) fun p0 =>
  π.ld [.int .i64] (p0.add (6 : Nat)) fun ((x1 : Int), _) =>
  π.unSome (some (Addr.mk r (0 : Nat) none)) fun p2 =>
  π.ld [.slice] (p2.add (9 : Nat)) fun (((a3 : Option Addr), (n4 : Nat), (c5 : Nat)), _) =>
  π.ret (Go.Value.int (IntKind.i64) (IntKind.i64.wrap (x1 + (↑n4 : Int))))
def ann_rLast : Ann := { draws := [(1, { A := [0, 1, 2, 3, 4, 5, 6, 7, 8, 9, 10] })], join := [], loop := [] }
def la_rLast : LA := { ptr := [], ty := [] }
set_option maxRecDepth 100000 in
theorem eq_rLast {W : Type} (π : Prims W) (r : Nat) : bodyL π Try.prog la_rLast ann_rLast (mkFr (maskA [] [.v (.pointer (some ⟨r, 0, none⟩))] 0) 13) Try.f37 (bodyOf Try.f37) (mkFr (List.map some [.v (.pointer (some ⟨r, 0, none⟩))]) 13) = vc_rLast π r := by kernel_rfl
theorem ok_rLast (r : Nat) (R : Value → PH → Prop) (s : PH) (h : vc_rLast (RP Try.prog R) r s) : DCalls Try.prog 37 (List.map AV.val [.v (.pointer (some ⟨r, 0, none⟩))]).toArray s R :=
  calls_vcL (c := bodyOf Try.f37) (ann := ann_rLast) la_rLast (by kernel_rfl) Try.func37 rfl (by kernel_rfl) [.v (.pointer (some ⟨r, 0, none⟩))] [] (by rw [Try.ntmps37]; exact Nat.le_of_ble_eq_true rfl) (by kernel_rfl) (by rw [show Try.f37.ntmps = 13 from Try.ntmps37, eq_rLast]; exact h)
/-- (*lintel/lintelref09.Ballot).TermAt -/
def vc_rTermAt {W : Type} (π : Prims W) (r : Nat) (i : Int) : W :=
  π.unSome (some (Addr.mk r (0 : Nat) none)) fun p0 =>
  π.ld [.int .i64] (p0.add (6 : Nat)) fun ((x1 : Int), _) =>
  π.ite (i == x1) (
    π.unSome (some (Addr.mk r (0 : Nat) none)) fun p2 =>
    π.ld [.int .i64] (p2.add (7 : Nat)) fun ((x3 : Int), _) =>
    π.ret (Go.Value.int (IntKind.i64) (x3))
  ) (
    π.unSome (some (Addr.mk r (0 : Nat) none)) fun p4 =>
    π.ld [.int .i64] (p4.add (6 : Nat)) fun ((x5 : Int), _) =>
    π.ite (decide (i < x5)) (
      π.ret (Go.Value.int (IntKind.i64) ((-1 : Int)))
    ) (
      π.call (37 : Nat) #[(Go.Value.pointer (some (Addr.mk r (0 : Nat) none)))] (false, [(false, [.int .i64])]) fun (((x6 : Int), _), _) =>
      π.ite (decide (i > x6)) (
        π.ret (Go.Value.int (IntKind.i64) ((-1 : Int)))
      ) (
        π.unSome (some (Addr.mk r (0 : Nat) none)) fun p7 =>
        π.ld [.slice] (p7.add (9 : Nat)) fun (((a8 : Option Addr), (n9 : Nat), (c10 : Nat)), _) =>
        π.unSome (some (Addr.mk r (0 : Nat) none)) fun p11 =>
        π.ld [.int .i64] (p11.add (6 : Nat)) fun ((x12 : Int), _) =>
        π.guard ((0 : Int) ≤ IntKind.i64.wrap (IntKind.i64.wrap (i - x12) - (1 : Int)) ∧ IntKind.i64.wrap (IntKind.i64.wrap (i - x12) - (1 : Int)) < (↑n9 : Int)) <|
        π.unSome (a8) fun p13 =>
        π.ld [.int .i64] ((p13.add ((IntKind.i64.wrap (IntKind.i64.wrap (i - x12) - (1 : Int))).toNat * (4 : Nat))).add (0 : Nat)) fun ((x14 : Int), _) =>
        π.ret (Go.Value.int (IntKind.i64) (x14))
      )
    )
  )
def ann_rTermAt : Ann := { draws := [(5, { A := [0, 1, 2, 3, 4, 5, 6, 7, 8, 9, 10, 11, 12, 13, 14] })], join := [], loop := [] }
def la_rTermAt : LA := { ptr := [], ty := [] }
set_option maxRecDepth 100000 in
theorem eq_rTermAt {W : Type} (π : Prims W) (r : Nat) (i : Int) : bodyL π Try.prog la_rTermAt ann_rTermAt (mkFr (maskA [] [.v (.pointer (some ⟨r, 0, none⟩)), .v (.int .i64 i)] 0) 41) Try.f58 (bodyOf Try.f58) (mkFr (List.map some [.v (.pointer (some ⟨r, 0, none⟩)), .v (.int .i64 i)]) 41) = vc_rTermAt π r i := by kernel_rfl
theorem ok_rTermAt (r : Nat) (i : Int) (R : Value → PH → Prop) (s : PH) (h : vc_rTermAt (RP Try.prog R) r i s) : DCalls Try.prog 58 (List.map AV.val [.v (.pointer (some ⟨r, 0, none⟩)), .v (.int .i64 i)]).toArray s R :=
  calls_vcL (c := bodyOf Try.f58) (ann := ann_rTermAt) la_rTermAt (by kernel_rfl) Try.func58 rfl (by kernel_rfl) [.v (.pointer (some ⟨r, 0, none⟩)), .v (.int .i64 i)] [] (by rw [Try.ntmps58]; exact Nat.le_of_ble_eq_true rfl) (by kernel_rfl) (by rw [show Try.f58.ntmps = 41 from Try.ntmps58, eq_rTermAt]; exact h)
/-- (*lintel/lintelref09.Ballot).put -/
def vc_rput {W : Type} (π : Prims W) (r : Nat) (i : Int) (a : Option Addr) (an ac : Nat) : W :=
  π.unSome (some (Addr.mk r (0 : Nat) none)) fun p0 =>
  π.ld [.slice] (p0.add (9 : Nat)) fun (((a1 : Option Addr), (n2 : Nat), (c3 : Nat)), _) =>
  π.unSome (some (Addr.mk r (0 : Nat) none)) fun p4 =>
  π.ld [.int .i64] (p4.add (6 : Nat)) fun ((x5 : Int), _) =>
  π.guard ((0 : Int) ≤ (0 : Int) ∧ (0 : Int) ≤ IntKind.i64.wrap (IntKind.i64.wrap (i - x5) - (1 : Int)) ∧ IntKind.i64.wrap (IntKind.i64.wrap (i - x5) - (1 : Int)) ≤ (↑c3 : Int)) <|
  π.nw (Go.Obj.cells #[] (39 : Nat) ((0 : Nat), (0 : Nat))) fun r6 =>
  π.app (39 : Nat) (4 : Nat) (40 : Nat) [(Go.Value.int (IntKind.i64) ((0 : Int))), (Go.Value.int (IntKind.i64) ((0 : Int))), (Go.Value.int (IntKind.i64) ((0 : Int))), (Go.Value.string (ByteArray.mk #[]))] (some (Addr.mk r6 (0 : Nat) none)) ((0 : Nat)) ((0 : Nat)) (Src.sl (if c3 = (0 : Nat) then a1 else Option.map (fun x => x.add (0 : Nat)) a1) ((IntKind.i64.wrap (IntKind.i64.wrap (i - x5) - (1 : Int))).toNat - (0 : Nat))) fun a7 n8 c9 =>
  π.app (39 : Nat) (4 : Nat) (40 : Nat) [(Go.Value.int (IntKind.i64) ((0 : Int))), (Go.Value.int (IntKind.i64) ((0 : Int))), (Go.Value.int (IntKind.i64) ((0 : Int))), (Go.Value.string (ByteArray.mk #[]))] (a7) (n8) (c9) (Src.sl a an) fun a10 n11 c12 =>
  π.unSome (some (Addr.mk r (0 : Nat) none)) fun p13 =>
  π.st (p13.add (9 : Nat)) [(Go.Value.slice (a10) (n11) (c12))] <|
  π.unSome (some (Addr.mk r (0 : Nat) none)) fun p14 =>
  π.st (p14.add (26 : Nat)) [(Go.Value.bool (true))] <|
  π.unSome (some (Addr.mk r (0 : Nat) none)) fun p15 =>
  π.ld [.int .i64] (p15.add (28 : Nat)) fun ((x16 : Int), _) =>
  π.ite (decide (i < x16)) (
    π.unSome (some (Addr.mk r (0 : Nat) none)) fun p17 =>
    π.st (p17.add (28 : Nat)) [(Go.Value.int (IntKind.i64) (i))] <|
    π.ret (Go.Value.tuple #[])
  ) (
    π.ret (Go.Value.tuple #[])
  )
def ann_rput : Ann := { draws := [(0, { A := [1, 2, 3, 4, 5, 6, 7, 8, 9, 10, 11, 12], eag := [14] })], join := [], loop := [] }
def la_rput : LA := { ptr := [], ty := [] }
set_option maxRecDepth 100000 in
theorem eq_rput {W : Type} (π : Prims W) (r : Nat) (i : Int) (a : Option Addr) (an ac : Nat) : bodyL π Try.prog la_rput ann_rput (mkFr (maskA [] [.v (.pointer (some ⟨r, 0, none⟩)), .v (.int .i64 i), .v (.slice a an ac)] 0) 40) Try.f62 (bodyOf Try.f62) (mkFr (List.map some [.v (.pointer (some ⟨r, 0, none⟩)), .v (.int .i64 i), .v (.slice a an ac)]) 40) = vc_rput π r i a an ac := by kernel_rfl
theorem ok_rput (r : Nat) (i : Int) (a : Option Addr) (an ac : Nat) (R : Value → PH → Prop) (s : PH) (h : vc_rput (RP Try.prog R) r i a an ac s) : DCalls Try.prog 62 (List.map AV.val [.v (.pointer (some ⟨r, 0, none⟩)), .v (.int .i64 i), .v (.slice a an ac)]).toArray s R :=
  calls_vcL (c := bodyOf Try.f62) (ann := ann_rput) la_rput (by kernel_rfl) Try.func62 rfl (by kernel_rfl) [.v (.pointer (some ⟨r, 0, none⟩)), .v (.int .i64 i), .v (.slice a an ac)] [] (by rw [Try.ntmps62]; exact Nat.le_of_ble_eq_true rfl) (by kernel_rfl) (by rw [show Try.f62.ntmps = 40 from Try.ntmps62, eq_rput]; exact h)
/-- (*lintel/lintelref09.Ballot).send -/
def vc_rsend {W : Type} (π : Prims W) (r : Nat) (mk mf mt mm mi mp mc : Int) (mg : Bool) (la : Option Addr) (ln lc : Nat) (ms : ByteArray) : W :=
  π.nw (Go.Obj.cells #[(Go.Value.int (IntKind.i64) (mk)), (Go.Value.int (IntKind.i64) (mf)), (Go.Value.int (IntKind.i64) (mt)), (Go.Value.int (IntKind.i64) (mm)), (Go.Value.int (IntKind.i64) (mi)), (Go.Value.int (IntKind.i64) (mp)), (Go.Value.int (IntKind.i64) (mc)), (Go.Value.bool (mg)), (Go.Value.slice (la) (ln) (lc)), (Go.Value.string (ms))] (32 : Nat) ((0 : Nat), (0 : Nat))) fun r0 =>
  π.unSome (some (Addr.mk r (0 : Nat) none)) fun p1 =>
  π.ld [.int .i64] (p1.add (0 : Nat)) fun ((x2 : Int), _) =>
  π.st ((Addr.mk r0 (0 : Nat) none).add (1 : Nat)) [(Go.Value.int (IntKind.i64) (x2))] <|
  π.unSome (some (Addr.mk r (0 : Nat) none)) fun p3 =>
  π.ld [.int .i64] (p3.add (2 : Nat)) fun ((x4 : Int), _) =>
  π.st ((Addr.mk r0 (0 : Nat) none).add (3 : Nat)) [(Go.Value.int (IntKind.i64) (x4))] <|
  π.unSome (some (Addr.mk r (0 : Nat) none)) fun p5 =>
  π.ld [.slice] (p5.add (29 : Nat)) fun (((a6 : Option Addr), (n7 : Nat), (c8 : Nat)), _) =>
  π.ld [.int .i64, .int .i64, .int .i64, .int .i64, .int .i64, .int .i64, .int .i64, .bool, .slice, .str] (Addr.mk r0 (0 : Nat) none) fun ((x9 : Int), (x10 : Int), (x11 : Int), (x12 : Int), (x13 : Int), (x14 : Int), (x15 : Int), (b16 : Bool), ((a17 : Option Addr), (n18 : Nat), (c19 : Nat)), (t20 : ByteArray), _) =>
  π.nw (Go.Obj.cells #[(Go.Value.int (IntKind.i64) (x9)), (Go.Value.int (IntKind.i64) (x10)), (Go.Value.int (IntKind.i64) (x11)), (Go.Value.int (IntKind.i64) (x12)), (Go.Value.int (IntKind.i64) (x13)), (Go.Value.int (IntKind.i64) (x14)), (Go.Value.int (IntKind.i64) (x15)), (Go.Value.bool (b16)), (Go.Value.slice (a17) (n18) (c19)), (Go.Value.string (t20))] (32 : Nat) ((0 : Nat), (0 : Nat))) fun r21 =>
  π.app (32 : Nat) (10 : Nat) (104 : Nat) [(Go.Value.int (IntKind.i64) ((0 : Int))), (Go.Value.int (IntKind.i64) ((0 : Int))), (Go.Value.int (IntKind.i64) ((0 : Int))), (Go.Value.int (IntKind.i64) ((0 : Int))), (Go.Value.int (IntKind.i64) ((0 : Int))), (Go.Value.int (IntKind.i64) ((0 : Int))), (Go.Value.int (IntKind.i64) ((0 : Int))), (Go.Value.bool (false)), (Go.Value.slice (none) ((0 : Nat)) ((0 : Nat))), (Go.Value.string (ByteArray.mk #[]))] (a6) (n7) (c8) (Src.sl (some (Addr.mk r21 (0 : Nat) none)) (1 : Nat)) fun a22 n23 c24 =>
  π.unSome (some (Addr.mk r (0 : Nat) none)) fun p25 =>
  π.st (p25.add (29 : Nat)) [(Go.Value.slice (a22) (n23) (c24))] <|
  π.ret (Go.Value.tuple #[])
def ann_rsend : Ann := { draws := [(3, { A := [0, 1, 2, 3, 4, 5], eag := [8, 9] })], join := [], loop := [] }
def la_rsend : LA := { ptr := [], ty := [] }
set_option maxRecDepth 100000 in
theorem eq_rsend {W : Type} (π : Prims W) (r : Nat) (mk mf mt mm mi mp mc : Int) (mg : Bool) (la : Option Addr) (ln lc : Nat) (ms : ByteArray) : bodyL π Try.prog la_rsend ann_rsend (mkFr (maskA [] [.v (.pointer (some ⟨r, 0, none⟩)), .v (.agg #[.int .i64 mk, .int .i64 mf, .int .i64 mt, .int .i64 mm, .int .i64 mi, .int .i64 mp, .int .i64 mc, .bool mg, .slice la ln lc, .string ms])] 0) 24) Try.f57 (bodyOf Try.f57) (mkFr (List.map some [.v (.pointer (some ⟨r, 0, none⟩)), .v (.agg #[.int .i64 mk, .int .i64 mf, .int .i64 mt, .int .i64 mm, .int .i64 mi, .int .i64 mp, .int .i64 mc, .bool mg, .slice la ln lc, .string ms])]) 24) = vc_rsend π r mk mf mt mm mi mp mc mg la ln lc ms := by kernel_rfl
theorem ok_rsend (r : Nat) (mk mf mt mm mi mp mc : Int) (mg : Bool) (la : Option Addr) (ln lc : Nat) (ms : ByteArray) (R : Value → PH → Prop) (s : PH) (h : vc_rsend (RP Try.prog R) r mk mf mt mm mi mp mc mg la ln lc ms s) : DCalls Try.prog 57 (List.map AV.val [.v (.pointer (some ⟨r, 0, none⟩)), .v (.agg #[.int .i64 mk, .int .i64 mf, .int .i64 mt, .int .i64 mm, .int .i64 mi, .int .i64 mp, .int .i64 mc, .bool mg, .slice la ln lc, .string ms])]).toArray s R :=
  calls_vcL (c := bodyOf Try.f57) (ann := ann_rsend) la_rsend (by kernel_rfl) Try.func57 rfl (by kernel_rfl) [.v (.pointer (some ⟨r, 0, none⟩)), .v (.agg #[.int .i64 mk, .int .i64 mf, .int .i64 mt, .int .i64 mm, .int .i64 mi, .int .i64 mp, .int .i64 mc, .bool mg, .slice la ln lc, .string ms])] [] (by rw [Try.ntmps57]; exact Nat.le_of_ble_eq_true rfl) (by kernel_rfl) (by rw [show Try.f57.ntmps = 24 from Try.ntmps57, eq_rsend]; exact h)
/-- (*lintel/lintelref09.Ballot).sent -/
def vc_rsent {W : Type} (π : Prims W) (r : Nat) : W :=
  π.unSome (some (Addr.mk r (0 : Nat) none)) fun p0 =>
  π.ld [.slice] (p0.add (29 : Nat)) fun (((a1 : Option Addr), (n2 : Nat), (c3 : Nat)), _) =>
  π.unSome (some (Addr.mk r (0 : Nat) none)) fun p4 =>
  π.st (p4.add (29 : Nat)) [(Go.Value.slice (none) ((0 : Nat)) ((0 : Nat)))] <|
  π.ret (Go.Value.slice (a1) (n2) (c3))
def ann_rsent : Ann := { draws := [], join := [], loop := [] }
def la_rsent : LA := { ptr := [], ty := [] }
set_option maxRecDepth 100000 in
theorem eq_rsent {W : Type} (π : Prims W) (r : Nat) : bodyL π Try.prog la_rsent ann_rsent (mkFr (maskA [] [.v (.pointer (some ⟨r, 0, none⟩))] 0) 12) Try.f60 (bodyOf Try.f60) (mkFr (List.map some [.v (.pointer (some ⟨r, 0, none⟩))]) 12) = vc_rsent π r := by kernel_rfl
theorem ok_rsent (r : Nat) (R : Value → PH → Prop) (s : PH) (h : vc_rsent (RP Try.prog R) r s) : DCalls Try.prog 60 (List.map AV.val [.v (.pointer (some ⟨r, 0, none⟩))]).toArray s R :=
  calls_vcL (c := bodyOf Try.f60) (ann := ann_rsent) la_rsent (by kernel_rfl) Try.func60 rfl (by kernel_rfl) [.v (.pointer (some ⟨r, 0, none⟩))] [] (by rw [Try.ntmps60]; exact Nat.le_of_ble_eq_true rfl) (by kernel_rfl) (by rw [show Try.f60.ntmps = 12 from Try.ntmps60, eq_rsent]; exact h)
/-- (*lintel/lintelref09.Ballot).feed -/
def vc_rfeed {W : Type} (π : Prims W) (r : Nat) (to : Int) : W :=
  π.unSome (some (Addr.mk r (0 : Nat) none)) fun p0 =>
  π.guard ((0 : Int) ≤ to ∧ to < (5 : Int)) <|
  π.ld [.int .i64] ((p0.add (15 : Nat)).add (to.toNat * (1 : Nat))) fun ((x1 : Int), _) =>
  π.unSome (some (Addr.mk r (0 : Nat) none)) fun p2 =>
  π.ld [.int .i64] (p2.add (6 : Nat)) fun ((x3 : Int), _) =>
  π.ite (decide (x1 ≤ x3)) (
    π.unSome (some (Addr.mk r (0 : Nat) none)) fun p4 =>
    π.ld [.int .i64] (p4.add (6 : Nat)) fun ((x5 : Int), _) =>
    π.unSome (some (Addr.mk r (0 : Nat) none)) fun p6 =>
    π.ld [.int .i64] (p6.add (7 : Nat)) fun ((x7 : Int), _) =>
    π.unSome (some (Addr.mk r (0 : Nat) none)) fun p8 =>
    π.ld [.str] (p8.add (8 : Nat)) fun ((t9 : ByteArray), _) =>
    π.call (57 : Nat) #[(Go.Value.pointer (some (Addr.mk r (0 : Nat) none))), (Go.Value.agg #[(Go.Value.int (IntKind.i64) ((5 : Int))), (Go.Value.int (IntKind.i64) ((0 : Int))), (Go.Value.int (IntKind.i64) (to)), (Go.Value.int (IntKind.i64) ((0 : Int))), (Go.Value.int (IntKind.i64) (x5)), (Go.Value.int (IntKind.i64) (x7)), (Go.Value.int (IntKind.i64) ((0 : Int))), (Go.Value.bool (false)), (Go.Value.slice (none) ((0 : Nat)) ((0 : Nat))), (Go.Value.string (t9))])] (true, []) fun (_) =>
    π.ret (Go.Value.tuple #[])
  ) (
    π.loop [(false, [.int .i64]), (false, [.slice]), (false, [.int .i64])] ((x1, ()), ((none, (0 : Nat), (0 : Nat)), ()), (x1, ()), ()) fun (((x11 : Int), _), (((a12 : Option Addr), (n13 : Nat), (c14 : Nat)), _), ((x15 : Int), _), _) again10 =>
      π.join [(false, [.int .i64]), (false, [.slice]), (false, [.int .i64])] (fun J16 =>
        π.call (37 : Nat) #[(Go.Value.pointer (some (Addr.mk r (0 : Nat) none)))] (false, [(false, [.int .i64])]) fun (((x17 : Int), _), _) =>
        π.ite (decide (x15 ≤ x17)) (
          π.ite (decide (x15 < IntKind.i64.wrap (x11 + (8 : Int)))) (
            J16 ((x11, ()), ((a12, n13, c14), ()), (x15, ()), ())
          ) (
            π.callQ (58 : Nat) #[(Go.Value.pointer (some (Addr.mk r (0 : Nat) none))), (Go.Value.int (IntKind.i64) (IntKind.i64.wrap (x11 - (1 : Int))))] (false, [(false, [.int .i64])]) fun (((x18 : Int), _), _) =>
            π.unSome (some (Addr.mk r (0 : Nat) none)) fun p19 =>
            π.ld [.int .i64] (p19.add (25 : Nat)) fun ((x20 : Int), _) =>
            π.call (57 : Nat) #[(Go.Value.pointer (some (Addr.mk r (0 : Nat) none))), (Go.Value.agg #[(Go.Value.int (IntKind.i64) ((3 : Int))), (Go.Value.int (IntKind.i64) ((0 : Int))), (Go.Value.int (IntKind.i64) (to)), (Go.Value.int (IntKind.i64) ((0 : Int))), (Go.Value.int (IntKind.i64) (IntKind.i64.wrap (x11 - (1 : Int)))), (Go.Value.int (IntKind.i64) (x18)), (Go.Value.int (IntKind.i64) (x20)), (Go.Value.bool (false)), (Go.Value.slice (a12) (n13) (c14)), (Go.Value.string (ByteArray.mk #[]))])] (true, []) fun (_) =>
            π.ret (Go.Value.tuple #[])
          )
        ) (
          π.callQ (58 : Nat) #[(Go.Value.pointer (some (Addr.mk r (0 : Nat) none))), (Go.Value.int (IntKind.i64) (IntKind.i64.wrap (x11 - (1 : Int))))] (false, [(false, [.int .i64])]) fun (((x21 : Int), _), _) =>
          π.unSome (some (Addr.mk r (0 : Nat) none)) fun p22 =>
          π.ld [.int .i64] (p22.add (25 : Nat)) fun ((x23 : Int), _) =>
          π.call (57 : Nat) #[(Go.Value.pointer (some (Addr.mk r (0 : Nat) none))), (Go.Value.agg #[(Go.Value.int (IntKind.i64) ((3 : Int))), (Go.Value.int (IntKind.i64) ((0 : Int))), (Go.Value.int (IntKind.i64) (to)), (Go.Value.int (IntKind.i64) ((0 : Int))), (Go.Value.int (IntKind.i64) (IntKind.i64.wrap (x11 - (1 : Int)))), (Go.Value.int (IntKind.i64) (x21)), (Go.Value.int (IntKind.i64) (x23)), (Go.Value.bool (false)), (Go.Value.slice (a12) (n13) (c14)), (Go.Value.string (ByteArray.mk #[]))])] (true, []) fun (_) =>
          π.ret (Go.Value.tuple #[])
        )
      ) (fun (((x24 : Int), _), (((a25 : Option Addr), (n26 : Nat), (c27 : Nat)), _), ((x28 : Int), _), _) =>
        π.unSome (some (Addr.mk r (0 : Nat) none)) fun p29 =>
        π.ld [.slice] (p29.add (9 : Nat)) fun (((a30 : Option Addr), (n31 : Nat), (c32 : Nat)), _) =>
        π.unSome (some (Addr.mk r (0 : Nat) none)) fun p33 =>
        π.ld [.int .i64] (p33.add (6 : Nat)) fun ((x34 : Int), _) =>
        π.guard ((0 : Int) ≤ IntKind.i64.wrap (IntKind.i64.wrap (x28 - x34) - (1 : Int)) ∧ IntKind.i64.wrap (IntKind.i64.wrap (x28 - x34) - (1 : Int)) < (↑n31 : Int)) <|
        π.unSome (a30) fun p35 =>
        π.ld [.int .i64, .int .i64, .int .i64, .str] (p35.add ((IntKind.i64.wrap (IntKind.i64.wrap (x28 - x34) - (1 : Int))).toNat * (4 : Nat))) fun ((x36 : Int), (x37 : Int), (x38 : Int), (t39 : ByteArray), _) =>
        π.nw (Go.Obj.cells #[(Go.Value.int (IntKind.i64) (x36)), (Go.Value.int (IntKind.i64) (x37)), (Go.Value.int (IntKind.i64) (x38)), (Go.Value.string (t39))] (39 : Nat) ((0 : Nat), (0 : Nat))) fun r40 =>
        π.app (39 : Nat) (4 : Nat) (40 : Nat) [(Go.Value.int (IntKind.i64) ((0 : Int))), (Go.Value.int (IntKind.i64) ((0 : Int))), (Go.Value.int (IntKind.i64) ((0 : Int))), (Go.Value.string (ByteArray.mk #[]))] (a25) (n26) (c27) (Src.sl (some (Addr.mk r40 (0 : Nat) none)) (1 : Nat)) fun a41 n42 c43 =>
        again10 ((x24, ()), ((a41, n42, c43), ()), (IntKind.i64.wrap (x28 + (1 : Int)), ()), ())
      )
  )
def ann_rfeed : Ann := { draws := [(2, { A := [0, 1, 2, 3, 4, 5, 6, 7, 8, 9, 10, 11, 12, 13, 14] }), (7, { A := [0, 1, 2, 3, 4, 5, 6, 7, 8, 9, 10, 11, 12, 13] }), (8, { A := [0, 1, 2, 3, 4, 5, 6, 7, 8, 9, 10, 11, 12, 13], quiet := [7] })], join := [(7, [(4, 3), (5, 30), (6, 3)])], loop := [(5, [(4, 3), (5, 30), (6, 3)])] }
def la_rfeed : LA := { ptr := [], ty := [] }
set_option maxRecDepth 100000 in
theorem eq_rfeed {W : Type} (π : Prims W) (r : Nat) (to : Int) : bodyL π Try.prog la_rfeed ann_rfeed (mkFr (maskA [] [.v (.pointer (some ⟨r, 0, none⟩)), .v (.int .i64 to)] 0) 79) Try.f72 (bodyOf Try.f72) (mkFr (List.map some [.v (.pointer (some ⟨r, 0, none⟩)), .v (.int .i64 to)]) 79) = vc_rfeed π r to := by kernel_rfl
theorem ok_rfeed (r : Nat) (to : Int) (R : Value → PH → Prop) (s : PH) (h : vc_rfeed (RP Try.prog R) r to s) : DCalls Try.prog 72 (List.map AV.val [.v (.pointer (some ⟨r, 0, none⟩)), .v (.int .i64 to)]).toArray s R :=
  calls_vcL (c := bodyOf Try.f72) (ann := ann_rfeed) la_rfeed (by kernel_rfl) Try.func72 rfl (by kernel_rfl) [.v (.pointer (some ⟨r, 0, none⟩)), .v (.int .i64 to)] [] (by rw [Try.ntmps72]; exact Nat.le_of_ble_eq_true rfl) (by kernel_rfl) (by rw [show Try.f72.ntmps = 79 from Try.ntmps72, eq_rfeed]; exact h)
/-- (*lintel/lintelref09.Ballot).feedAll -/
def vc_rfeedAll {W : Type} (π : Prims W) (r : Nat) : W :=
  π.loop [(false, [.int .i64])] (((0 : Int), ()), ()) fun (((x1 : Int), _), _) again0 =>
    π.unSome (some (Addr.mk r (0 : Nat) none)) fun p2 =>
    π.ld [.int .i64] (p2.add (1 : Nat)) fun ((x3 : Int), _) =>
    π.ite (decide (x1 < x3)) (
      π.unSome (some (Addr.mk r (0 : Nat) none)) fun p4 =>
      π.ld [.int .i64] (p4.add (0 : Nat)) fun ((x5 : Int), _) =>
      π.ite (x1 != x5) (
        π.call (72 : Nat) #[(Go.Value.pointer (some (Addr.mk r (0 : Nat) none))), (Go.Value.int (IntKind.i64) (x1))] (true, []) fun (_) =>
        again0 ((IntKind.i64.wrap (x1 + (1 : Int)), ()), ())
      ) (
        again0 ((IntKind.i64.wrap (x1 + (1 : Int)), ()), ())
      )
    ) (
      π.ret (Go.Value.tuple #[])
    )
def ann_rfeedAll : Ann := { draws := [], join := [], loop := [(1, [(2, 3)])] }
def la_rfeedAll : LA := { ptr := [], ty := [] }
set_option maxRecDepth 100000 in
theorem eq_rfeedAll {W : Type} (π : Prims W) (r : Nat) : bodyL π Try.prog la_rfeedAll ann_rfeedAll (mkFr (maskA [] [.v (.pointer (some ⟨r, 0, none⟩))] 0) 20) Try.f61 (bodyOf Try.f61) (mkFr (List.map some [.v (.pointer (some ⟨r, 0, none⟩))]) 20) = vc_rfeedAll π r := by kernel_rfl
theorem ok_rfeedAll (r : Nat) (R : Value → PH → Prop) (s : PH) (h : vc_rfeedAll (RP Try.prog R) r s) : DCalls Try.prog 61 (List.map AV.val [.v (.pointer (some ⟨r, 0, none⟩))]).toArray s R :=
  calls_vcL (c := bodyOf Try.f61) (ann := ann_rfeedAll) la_rfeedAll (by kernel_rfl) Try.func61 rfl (by kernel_rfl) [.v (.pointer (some ⟨r, 0, none⟩))] [] (by rw [Try.ntmps61]; exact Nat.le_of_ble_eq_true rfl) (by kernel_rfl) (by rw [show Try.f61.ntmps = 20 from Try.ntmps61, eq_rfeedAll]; exact h)
/-- (*lintel/lintelref09.Ballot).settle -/
def vc_rsettle {W : Type} (π : Prims W) (r : Nat) : W :=
  π.unSome (some (Addr.mk r (0 : Nat) none)) fun p0 =>
  π.ld [.int .i64] (p0.add (25 : Nat)) fun ((x1 : Int), _) =>
  π.loop [(false, [.int .i64]), (false, [.int .i64])] (((0 : Int), ()), (IntKind.i64.wrap (x1 + (1 : Int)), ()), ()) fun (((x3 : Int), _), ((x4 : Int), _), _) again2 =>
    π.call (37 : Nat) #[(Go.Value.pointer (some (Addr.mk r (0 : Nat) none)))] (false, [(false, [.int .i64])]) fun (((x5 : Int), _), _) =>
    π.ite (decide (x4 ≤ x5)) (
      π.loop [(false, [.int .i64]), (false, [.int .i64]), (false, [.int .i64]), (false, [.int .i64])] ((x3, ()), (x4, ()), ((1 : Int), ()), ((0 : Int), ()), ()) fun (((x7 : Int), _), ((x8 : Int), _), ((x9 : Int), _), ((x10 : Int), _), _) again6 =>
        π.unSome (some (Addr.mk r (0 : Nat) none)) fun p11 =>
        π.ld [.int .i64] (p11.add (1 : Nat)) fun ((x12 : Int), _) =>
        π.ite (decide (x10 < x12)) (
          π.unSome (some (Addr.mk r (0 : Nat) none)) fun p13 =>
          π.ld [.int .i64] (p13.add (0 : Nat)) fun ((x14 : Int), _) =>
          π.ite (x10 != x14) (
            π.unSome (some (Addr.mk r (0 : Nat) none)) fun p15 =>
            π.guard ((0 : Int) ≤ x10 ∧ x10 < (5 : Int)) <|
            π.ld [.int .i64] ((p15.add (20 : Nat)).add (x10.toNat * (1 : Nat))) fun ((x16 : Int), _) =>
            π.ite (decide (x16 ≥ x8)) (
              again6 ((x7, ()), (x8, ()), (IntKind.i64.wrap (x9 + (1 : Int)), ()), (IntKind.i64.wrap (x10 + (1 : Int)), ()), ())
            ) (
              again6 ((x7, ()), (x8, ()), (x9, ()), (IntKind.i64.wrap (x10 + (1 : Int)), ()), ())
            )
          ) (
            again6 ((x7, ()), (x8, ()), (x9, ()), (IntKind.i64.wrap (x10 + (1 : Int)), ()), ())
          )
        ) (
          π.unSome (some (Addr.mk r (0 : Nat) none)) fun p17 =>
          π.ld [.int .i64] (p17.add (1 : Nat)) fun ((x18 : Int), _) =>
          π.ite (decide (IntKind.i64.wrap ((2 : Int) * x9) > x18)) (
            π.callQ (58 : Nat) #[(Go.Value.pointer (some (Addr.mk r (0 : Nat) none))), (Go.Value.int (IntKind.i64) (x8))] (false, [(false, [.int .i64])]) fun (((x19 : Int), _), _) =>
            π.unSome (some (Addr.mk r (0 : Nat) none)) fun p20 =>
            π.ld [.int .i64] (p20.add (2 : Nat)) fun ((x21 : Int), _) =>
            π.ite (x19 == x21) (
              again2 ((x8, ()), (IntKind.i64.wrap (x8 + (1 : Int)), ()), ())
            ) (
              again2 ((x7, ()), (IntKind.i64.wrap (x8 + (1 : Int)), ()), ())
            )
          ) (
            again2 ((x7, ()), (IntKind.i64.wrap (x8 + (1 : Int)), ()), ())
          )
        )
    ) (
      π.ite (decide (x3 > (0 : Int))) (
        π.unSome (some (Addr.mk r (0 : Nat) none)) fun p22 =>
        π.st (p22.add (25 : Nat)) [(Go.Value.int (IntKind.i64) (x3))] <|
        π.call (61 : Nat) #[(Go.Value.pointer (some (Addr.mk r (0 : Nat) none)))] (true, []) fun (_) =>
        π.ret (Go.Value.tuple #[])
      ) (
        π.ret (Go.Value.tuple #[])
      )
    )
def ann_rsettle : Ann := { draws := [(10, { A := [0, 1, 2, 3, 4, 5, 6, 7, 8, 9, 10, 11, 12, 13, 14, 15, 16], quiet := [10] })], join := [], loop := [(2, [(2, 3), (3, 3)]), (6, [(2, 3), (3, 3), (4, 3), (5, 3)])] }
def la_rsettle : LA := { ptr := [], ty := [] }
set_option maxRecDepth 100000 in
theorem eq_rsettle {W : Type} (π : Prims W) (r : Nat) : bodyL π Try.prog la_rsettle ann_rsettle (mkFr (maskA [] [.v (.pointer (some ⟨r, 0, none⟩))] 0) 69) Try.f63 (bodyOf Try.f63) (mkFr (List.map some [.v (.pointer (some ⟨r, 0, none⟩))]) 69) = vc_rsettle π r := by kernel_rfl
theorem ok_rsettle (r : Nat) (R : Value → PH → Prop) (s : PH) (h : vc_rsettle (RP Try.prog R) r s) : DCalls Try.prog 63 (List.map AV.val [.v (.pointer (some ⟨r, 0, none⟩))]).toArray s R :=
  calls_vcL (c := bodyOf Try.f63) (ann := ann_rsettle) la_rsettle (by kernel_rfl) Try.func63 rfl (by kernel_rfl) [.v (.pointer (some ⟨r, 0, none⟩))] [] (by rw [Try.ntmps63]; exact Nat.le_of_ble_eq_true rfl) (by kernel_rfl) (by rw [show Try.f63.ntmps = 69 from Try.ntmps63, eq_rsettle]; exact h)
/-- (*lintel/lintelref09.Ballot).count -/
def vc_rcount {W : Type} (π : Prims W) (r : Nat) : W :=
  π.loop [(false, [.int .i64]), (false, [.int .i64])] (((0 : Int), ()), ((0 : Int), ()), ()) fun (((x1 : Int), _), ((x2 : Int), _), _) again0 =>
    π.unSome (some (Addr.mk r (0 : Nat) none)) fun p3 =>
    π.ld [.int .i64] (p3.add (1 : Nat)) fun ((x4 : Int), _) =>
    π.ite (decide (x2 < x4)) (
      π.unSome (some (Addr.mk r (0 : Nat) none)) fun p5 =>
      π.guard ((0 : Int) ≤ x2 ∧ x2 < (5 : Int)) <|
      π.ld [.bool] ((p5.add (10 : Nat)).add (x2.toNat * (1 : Nat))) fun ((b6 : Bool), _) =>
      π.ite (b6) (
        again0 ((IntKind.i64.wrap (x1 + (1 : Int)), ()), (IntKind.i64.wrap (x2 + (1 : Int)), ()), ())
      ) (
        again0 ((x1, ()), (IntKind.i64.wrap (x2 + (1 : Int)), ()), ())
      )
    ) (
      π.unSome (some (Addr.mk r (0 : Nat) none)) fun p7 =>
      π.ld [.int .i64] (p7.add (1 : Nat)) fun ((x8 : Int), _) =>
      π.ite (decide (IntKind.i64.wrap ((2 : Int) * x1) ≤ x8)) (
        π.ret (Go.Value.tuple #[])
      ) (
        π.unSome (some (Addr.mk r (0 : Nat) none)) fun p9 =>
        π.st (p9.add (4 : Nat)) [(Go.Value.int (IntKind.i64) ((2 : Int)))] <|
        π.unSome (some (Addr.mk r (0 : Nat) none)) fun p10 =>
        π.ld [.int .i64] (p10.add (0 : Nat)) fun ((x11 : Int), _) =>
        π.unSome (some (Addr.mk r (0 : Nat) none)) fun p12 =>
        π.st (p12.add (5 : Nat)) [(Go.Value.int (IntKind.i64) (x11))] <|
        π.loop [(false, [.int .i64])] (((0 : Int), ()), ()) fun (((x14 : Int), _), _) again13 =>
          π.unSome (some (Addr.mk r (0 : Nat) none)) fun p15 =>
          π.ld [.int .i64] (p15.add (1 : Nat)) fun ((x16 : Int), _) =>
          π.ite (decide (x14 < x16)) (
            π.callQ (37 : Nat) #[(Go.Value.pointer (some (Addr.mk r (0 : Nat) none)))] (false, [(false, [.int .i64])]) fun (((x17 : Int), _), _) =>
            π.unSome (some (Addr.mk r (0 : Nat) none)) fun p18 =>
            π.guard ((0 : Int) ≤ x14 ∧ x14 < (5 : Int)) <|
            π.st ((p18.add (15 : Nat)).add (x14.toNat * (1 : Nat))) [(Go.Value.int (IntKind.i64) (IntKind.i64.wrap (x17 + (1 : Int))))] <|
            π.unSome (some (Addr.mk r (0 : Nat) none)) fun p19 =>
            π.guard ((0 : Int) ≤ x14 ∧ x14 < (5 : Int)) <|
            π.st ((p19.add (20 : Nat)).add (x14.toNat * (1 : Nat))) [(Go.Value.int (IntKind.i64) ((0 : Int)))] <|
            again13 ((IntKind.i64.wrap (x14 + (1 : Int)), ()), ())
          ) (
            π.callQ (37 : Nat) #[(Go.Value.pointer (some (Addr.mk r (0 : Nat) none)))] (false, [(false, [.int .i64])]) fun (((x20 : Int), _), _) =>
            π.unSome (some (Addr.mk r (0 : Nat) none)) fun p21 =>
            π.ld [.int .i64] (p21.add (2 : Nat)) fun ((x22 : Int), _) =>
            π.nw (Go.Obj.cells #[(Go.Value.int (IntKind.i64) (x22)), (Go.Value.int (IntKind.i64) ((0 : Int))), (Go.Value.int (IntKind.i64) ((0 : Int))), (Go.Value.string (ByteArray.mk #[]))] (39 : Nat) ((0 : Nat), (0 : Nat))) fun r23 =>
            π.call (62 : Nat) #[(Go.Value.pointer (some (Addr.mk r (0 : Nat) none))), (Go.Value.int (IntKind.i64) (IntKind.i64.wrap (x20 + (1 : Int)))), (Go.Value.slice (some (Addr.mk r23 (0 : Nat) none)) ((1 : Nat)) ((1 : Nat)))] (true, []) fun (_) =>
            π.call (61 : Nat) #[(Go.Value.pointer (some (Addr.mk r (0 : Nat) none)))] (true, []) fun (_) =>
            π.call (63 : Nat) #[(Go.Value.pointer (some (Addr.mk r (0 : Nat) none)))] (true, []) fun (_) =>
            π.ret (Go.Value.tuple #[])
          )
      )
    )
def ann_rcount : Ann := { draws := [(12, { A := [0, 1, 2, 3, 4, 5, 6, 7], quiet := [3] }), (14, { A := [0, 1, 2, 3, 4, 5, 6, 7, 8], quiet := [2] })], join := [], loop := [(2, [(2, 3), (3, 3)]), (10, [(4, 3)])] }
def la_rcount : LA := { ptr := [], ty := [] }
set_option maxRecDepth 100000 in
theorem eq_rcount {W : Type} (π : Prims W) (r : Nat) : bodyL π Try.prog la_rcount ann_rcount (mkFr (maskA [] [.v (.pointer (some ⟨r, 0, none⟩))] 0) 74) Try.f59 (bodyOf Try.f59) (mkFr (List.map some [.v (.pointer (some ⟨r, 0, none⟩))]) 74) = vc_rcount π r := by kernel_rfl
theorem ok_rcount (r : Nat) (R : Value → PH → Prop) (s : PH) (h : vc_rcount (RP Try.prog R) r s) : DCalls Try.prog 59 (List.map AV.val [.v (.pointer (some ⟨r, 0, none⟩))]).toArray s R :=
  calls_vcL (c := bodyOf Try.f59) (ann := ann_rcount) la_rcount (by kernel_rfl) Try.func59 rfl (by kernel_rfl) [.v (.pointer (some ⟨r, 0, none⟩))] [] (by rw [Try.ntmps59]; exact Nat.le_of_ble_eq_true rfl) (by kernel_rfl) (by rw [show Try.f59.ntmps = 74 from Try.ntmps59, eq_rcount]; exact h)
/-- (*lintel/lintelref09.Ballot).Timeout -/
def vc_rTimeout {W : Type} (π : Prims W) (r : Nat) : W :=
  π.unSome (some (Addr.mk r (0 : Nat) none)) fun p0 =>
  π.ld [.int .i64] (p0.add (4 : Nat)) fun ((x1 : Int), _) =>
  π.ite (x1 == (2 : Int)) (
    π.ret (Go.Value.slice (none) ((0 : Nat)) ((0 : Nat)))
  ) (
    π.unSome (some (Addr.mk r (0 : Nat) none)) fun p2 =>
    π.ld [.int .i64] (p2.add (2 : Nat)) fun ((x3 : Int), _) =>
    π.unSome (some (Addr.mk r (0 : Nat) none)) fun p4 =>
    π.st (p4.add (2 : Nat)) [(Go.Value.int (IntKind.i64) (IntKind.i64.wrap (x3 + (1 : Int))))] <|
    π.unSome (some (Addr.mk r (0 : Nat) none)) fun p5 =>
    π.ld [.int .i64] (p5.add (0 : Nat)) fun ((x6 : Int), _) =>
    π.unSome (some (Addr.mk r (0 : Nat) none)) fun p7 =>
    π.st (p7.add (3 : Nat)) [(Go.Value.int (IntKind.i64) (x6))] <|
    π.unSome (some (Addr.mk r (0 : Nat) none)) fun p8 =>
    π.st (p8.add (4 : Nat)) [(Go.Value.int (IntKind.i64) ((1 : Int)))] <|
    π.unSome (some (Addr.mk r (0 : Nat) none)) fun p9 =>
    π.st (p9.add (5 : Nat)) [(Go.Value.int (IntKind.i64) ((-1 : Int)))] <|
    π.unSome (some (Addr.mk r (0 : Nat) none)) fun p10 =>
    π.st (p10.add (26 : Nat)) [(Go.Value.bool (true))] <|
    π.unSome (some (Addr.mk r (0 : Nat) none)) fun p11 =>
    π.st (p11.add (10 : Nat)) [(Go.Value.bool (false)), (Go.Value.bool (false)), (Go.Value.bool (false)), (Go.Value.bool (false)), (Go.Value.bool (false))] <|
    π.unSome (some (Addr.mk r (0 : Nat) none)) fun p12 =>
    π.ld [.int .i64] (p12.add (0 : Nat)) fun ((x13 : Int), _) =>
    π.unSome (some (Addr.mk r (0 : Nat) none)) fun p14 =>
    π.guard ((0 : Int) ≤ x13 ∧ x13 < (5 : Int)) <|
    π.st ((p14.add (10 : Nat)).add (x13.toNat * (1 : Nat))) [(Go.Value.bool (true))] <|
    π.loop [(false, [.int .i64])] (((0 : Int), ()), ()) fun (((x16 : Int), _), _) again15 =>
      π.unSome (some (Addr.mk r (0 : Nat) none)) fun p17 =>
      π.ld [.int .i64] (p17.add (1 : Nat)) fun ((x18 : Int), _) =>
      π.ite (decide (x16 < x18)) (
        π.unSome (some (Addr.mk r (0 : Nat) none)) fun p19 =>
        π.ld [.int .i64] (p19.add (0 : Nat)) fun ((x20 : Int), _) =>
        π.ite (x16 != x20) (
          π.call (37 : Nat) #[(Go.Value.pointer (some (Addr.mk r (0 : Nat) none)))] (false, [(false, [.int .i64])]) fun (((x21 : Int), _), _) =>
          π.call (37 : Nat) #[(Go.Value.pointer (some (Addr.mk r (0 : Nat) none)))] (false, [(false, [.int .i64])]) fun (((x22 : Int), _), _) =>
          π.call (58 : Nat) #[(Go.Value.pointer (some (Addr.mk r (0 : Nat) none))), (Go.Value.int (IntKind.i64) (x22))] (false, [(false, [.int .i64])]) fun (((x23 : Int), _), _) =>
          π.call (57 : Nat) #[(Go.Value.pointer (some (Addr.mk r (0 : Nat) none))), (Go.Value.agg #[(Go.Value.int (IntKind.i64) ((1 : Int))), (Go.Value.int (IntKind.i64) ((0 : Int))), (Go.Value.int (IntKind.i64) (x16)), (Go.Value.int (IntKind.i64) ((0 : Int))), (Go.Value.int (IntKind.i64) (x21)), (Go.Value.int (IntKind.i64) (x23)), (Go.Value.int (IntKind.i64) ((0 : Int))), (Go.Value.bool (false)), (Go.Value.slice (none) ((0 : Nat)) ((0 : Nat))), (Go.Value.string (ByteArray.mk #[]))])] (true, []) fun (_) =>
          again15 ((IntKind.i64.wrap (x16 + (1 : Int)), ()), ())
        ) (
          again15 ((IntKind.i64.wrap (x16 + (1 : Int)), ()), ())
        )
      ) (
        π.call (59 : Nat) #[(Go.Value.pointer (some (Addr.mk r (0 : Nat) none)))] (true, []) fun (_) =>
        π.call (60 : Nat) #[(Go.Value.pointer (some (Addr.mk r (0 : Nat) none)))] (false, [(false, [.slice])]) fun ((((a24 : Option Addr), (n25 : Nat), (c26 : Nat)), _), _) =>
        π.ret (Go.Value.slice (a24) (n25) (c26))
      )
  )
def ann_rTimeout : Ann := { draws := [(9, { A := [0, 1, 2, 3, 4, 5, 6, 7] })], join := [], loop := [(11, [(3, 3)])] }
def la_rTimeout : LA := { ptr := [], ty := [] }
set_option maxRecDepth 100000 in
theorem eq_rTimeout {W : Type} (π : Prims W) (r : Nat) : bodyL π Try.prog la_rTimeout ann_rTimeout (mkFr (maskA [] [.v (.pointer (some ⟨r, 0, none⟩))] 0) 72) Try.f31 (bodyOf Try.f31) (mkFr (List.map some [.v (.pointer (some ⟨r, 0, none⟩))]) 72) = vc_rTimeout π r := by kernel_rfl
theorem ok_rTimeout (r : Nat) (R : Value → PH → Prop) (s : PH) (h : vc_rTimeout (RP Try.prog R) r s) : DCalls Try.prog 31 (List.map AV.val [.v (.pointer (some ⟨r, 0, none⟩))]).toArray s R :=
  calls_vcL (c := bodyOf Try.f31) (ann := ann_rTimeout) la_rTimeout (by kernel_rfl) Try.func31 rfl (by kernel_rfl) [.v (.pointer (some ⟨r, 0, none⟩))] [] (by rw [Try.ntmps31]; exact Nat.le_of_ble_eq_true rfl) (by kernel_rfl) (by rw [show Try.f31.ntmps = 72 from Try.ntmps31, eq_rTimeout]; exact h)
/-- (*lintel/lintelref09.Ballot).Beat -/
def vc_rBeat {W : Type} (π : Prims W) (r : Nat) : W :=
  π.unSome (some (Addr.mk r (0 : Nat) none)) fun p0 =>
  π.ld [.int .i64] (p0.add (4 : Nat)) fun ((x1 : Int), _) =>
  π.ite (x1 == (2 : Int)) (
    π.call (61 : Nat) #[(Go.Value.pointer (some (Addr.mk r (0 : Nat) none)))] (true, []) fun (_) =>
    π.call (60 : Nat) #[(Go.Value.pointer (some (Addr.mk r (0 : Nat) none)))] (false, [(false, [.slice])]) fun ((((a2 : Option Addr), (n3 : Nat), (c4 : Nat)), _), _) =>
    π.ret (Go.Value.slice (a2) (n3) (c4))
  ) (
    π.call (60 : Nat) #[(Go.Value.pointer (some (Addr.mk r (0 : Nat) none)))] (false, [(false, [.slice])]) fun ((((a5 : Option Addr), (n6 : Nat), (c7 : Nat)), _), _) =>
    π.ret (Go.Value.slice (a5) (n6) (c7))
  )
def ann_rBeat : Ann := { draws := [], join := [], loop := [] }
def la_rBeat : LA := { ptr := [], ty := [] }
set_option maxRecDepth 100000 in
theorem eq_rBeat {W : Type} (π : Prims W) (r : Nat) : bodyL π Try.prog la_rBeat ann_rBeat (mkFr (maskA [] [.v (.pointer (some ⟨r, 0, none⟩))] 0) 12) Try.f32 (bodyOf Try.f32) (mkFr (List.map some [.v (.pointer (some ⟨r, 0, none⟩))]) 12) = vc_rBeat π r := by kernel_rfl
theorem ok_rBeat (r : Nat) (R : Value → PH → Prop) (s : PH) (h : vc_rBeat (RP Try.prog R) r s) : DCalls Try.prog 32 (List.map AV.val [.v (.pointer (some ⟨r, 0, none⟩))]).toArray s R :=
  calls_vcL (c := bodyOf Try.f32) (ann := ann_rBeat) la_rBeat (by kernel_rfl) Try.func32 rfl (by kernel_rfl) [.v (.pointer (some ⟨r, 0, none⟩))] [] (by rw [Try.ntmps32]; exact Nat.le_of_ble_eq_true rfl) (by kernel_rfl) (by rw [show Try.f32.ntmps = 12 from Try.ntmps32, eq_rBeat]; exact h)
/-- (*lintel/lintelref09.Ballot).Propose -/
def vc_rPropose {W : Type} (π : Prims W) (r : Nat) (at_ born : Int) (text : ByteArray) : W :=
  π.unSome (some (Addr.mk r (0 : Nat) none)) fun p0 =>
  π.ld [.int .i64] (p0.add (4 : Nat)) fun ((x1 : Int), _) =>
  π.ite (x1 != (2 : Int)) (
    π.ret (Go.Value.tuple #[(Go.Value.int (IntKind.i64) ((0 : Int))), (Go.Value.slice (none) ((0 : Nat)) ((0 : Nat)))])
  ) (
    π.callQ (37 : Nat) #[(Go.Value.pointer (some (Addr.mk r (0 : Nat) none)))] (false, [(false, [.int .i64])]) fun (((x2 : Int), _), _) =>
    π.unSome (some (Addr.mk r (0 : Nat) none)) fun p3 =>
    π.ld [.int .i64] (p3.add (2 : Nat)) fun ((x4 : Int), _) =>
    π.nw (Go.Obj.cells #[(Go.Value.int (IntKind.i64) (x4)), (Go.Value.int (IntKind.i64) (at_)), (Go.Value.int (IntKind.i64) (born)), (Go.Value.string (text))] (39 : Nat) ((0 : Nat), (0 : Nat))) fun r5 =>
    π.call (62 : Nat) #[(Go.Value.pointer (some (Addr.mk r (0 : Nat) none))), (Go.Value.int (IntKind.i64) (IntKind.i64.wrap (x2 + (1 : Int)))), (Go.Value.slice (some (Addr.mk r5 (0 : Nat) none)) ((1 : Nat)) ((1 : Nat)))] (true, []) fun (_) =>
    π.call (37 : Nat) #[(Go.Value.pointer (some (Addr.mk r (0 : Nat) none)))] (false, [(false, [.int .i64])]) fun (((x6 : Int), _), _) =>
    π.call (61 : Nat) #[(Go.Value.pointer (some (Addr.mk r (0 : Nat) none)))] (true, []) fun (_) =>
    π.call (63 : Nat) #[(Go.Value.pointer (some (Addr.mk r (0 : Nat) none)))] (true, []) fun (_) =>
    π.call (60 : Nat) #[(Go.Value.pointer (some (Addr.mk r (0 : Nat) none)))] (false, [(false, [.slice])]) fun ((((a7 : Option Addr), (n8 : Nat), (c9 : Nat)), _), _) =>
    π.ret (Go.Value.tuple #[(Go.Value.int (IntKind.i64) (x6)), (Go.Value.slice (a7) (n8) (c9))])
  )
def ann_rPropose : Ann := { draws := [(3, { A := [0, 1, 2, 3, 4, 5, 6, 7, 8, 9, 10, 11], quiet := [2] })], join := [], loop := [] }
def la_rPropose : LA := { ptr := [], ty := [] }
set_option maxRecDepth 100000 in
theorem eq_rPropose {W : Type} (π : Prims W) (r : Nat) (at_ born : Int) (text : ByteArray) : bodyL π Try.prog la_rPropose ann_rPropose (mkFr (maskA [] [.v (.pointer (some ⟨r, 0, none⟩)), .v (.int .i64 at_), .v (.int .i64 born), .v (.string text)] 0) 39) Try.f33 (bodyOf Try.f33) (mkFr (List.map some [.v (.pointer (some ⟨r, 0, none⟩)), .v (.int .i64 at_), .v (.int .i64 born), .v (.string text)]) 39) = vc_rPropose π r at_ born text := by kernel_rfl
theorem ok_rPropose (r : Nat) (at_ born : Int) (text : ByteArray) (R : Value → PH → Prop) (s : PH) (h : vc_rPropose (RP Try.prog R) r at_ born text s) : DCalls Try.prog 33 (List.map AV.val [.v (.pointer (some ⟨r, 0, none⟩)), .v (.int .i64 at_), .v (.int .i64 born), .v (.string text)]).toArray s R :=
  calls_vcL (c := bodyOf Try.f33) (ann := ann_rPropose) la_rPropose (by kernel_rfl) Try.func33 rfl (by kernel_rfl) [.v (.pointer (some ⟨r, 0, none⟩)), .v (.int .i64 at_), .v (.int .i64 born), .v (.string text)] [] (by rw [Try.ntmps33]; exact Nat.le_of_ble_eq_true rfl) (by kernel_rfl) (by rw [show Try.f33.ntmps = 39 from Try.ntmps33, eq_rPropose]; exact h)
/-- (*lintel/lintelref09.Ballot).Strange -/
def vc_rStrange {W : Type} (π : Prims W) (r : Nat) (mk mf mt mm mi mp mc : Int) (mg : Bool) (la : Option Addr) (ln lc : Nat) (ms : ByteArray) : W :=
  π.nw (Go.Obj.cells #[(Go.Value.int (IntKind.i64) (mk)), (Go.Value.int (IntKind.i64) (mf)), (Go.Value.int (IntKind.i64) (mt)), (Go.Value.int (IntKind.i64) (mm)), (Go.Value.int (IntKind.i64) (mi)), (Go.Value.int (IntKind.i64) (mp)), (Go.Value.int (IntKind.i64) (mc)), (Go.Value.bool (mg)), (Go.Value.slice (la) (ln) (lc)), (Go.Value.string (ms))] (32 : Nat) ((0 : Nat), (0 : Nat))) fun r0 =>
  π.ld [.int .i64] ((Addr.mk r0 (0 : Nat) none).add (2 : Nat)) fun ((x1 : Int), _) =>
  π.unSome (some (Addr.mk r (0 : Nat) none)) fun p2 =>
  π.ld [.int .i64] (p2.add (0 : Nat)) fun ((x3 : Int), _) =>
  π.ite (x1 != x3) (
    π.ret (Go.Value.bool (true))
  ) (
    π.ld [.int .i64] ((Addr.mk r0 (0 : Nat) none).add (1 : Nat)) fun ((x4 : Int), _) =>
    π.unSome (some (Addr.mk r (0 : Nat) none)) fun p5 =>
    π.ld [.int .i64] (p5.add (0 : Nat)) fun ((x6 : Int), _) =>
    π.ite (x4 == x6) (
      π.ret (Go.Value.bool (true))
    ) (
      π.ld [.int .i64] ((Addr.mk r0 (0 : Nat) none).add (1 : Nat)) fun ((x7 : Int), _) =>
      π.ite (decide (x7 < (0 : Int))) (
        π.ret (Go.Value.bool (true))
      ) (
        π.ld [.int .i64] ((Addr.mk r0 (0 : Nat) none).add (1 : Nat)) fun ((x8 : Int), _) =>
        π.unSome (some (Addr.mk r (0 : Nat) none)) fun p9 =>
        π.ld [.int .i64] (p9.add (1 : Nat)) fun ((x10 : Int), _) =>
        π.ite (decide (x8 ≥ x10)) (
          π.ret (Go.Value.bool (true))
        ) (
          π.ld [.int .i64] ((Addr.mk r0 (0 : Nat) none).add (0 : Nat)) fun ((x11 : Int), _) =>
          π.ite (decide (x11 < (1 : Int))) (
            π.ret (Go.Value.bool (true))
          ) (
            π.ld [.int .i64] ((Addr.mk r0 (0 : Nat) none).add (0 : Nat)) fun ((x12 : Int), _) =>
            π.ite (decide (x12 > (5 : Int))) (
              π.ret (Go.Value.bool (true))
            ) (
              π.ld [.int .i64] ((Addr.mk r0 (0 : Nat) none).add (3 : Nat)) fun ((x13 : Int), _) =>
              π.ite (decide (x13 < (1 : Int))) (
                π.ret (Go.Value.bool (true))
              ) (
                π.ld [.int .i64] ((Addr.mk r0 (0 : Nat) none).add (3 : Nat)) fun ((x14 : Int), _) =>
                π.ite (decide (x14 > (1099511627776 : Int))) (
                  π.ret (Go.Value.bool (true))
                ) (
                  π.ld [.int .i64] ((Addr.mk r0 (0 : Nat) none).add (4 : Nat)) fun ((x15 : Int), _) =>
                  π.ite (decide (x15 < (-1 : Int))) (
                    π.ret (Go.Value.bool (true))
                  ) (
                    π.ld [.int .i64] ((Addr.mk r0 (0 : Nat) none).add (4 : Nat)) fun ((x16 : Int), _) =>
                    π.ite (x16 == (-1 : Int)) (
                      π.ld [.int .i64] ((Addr.mk r0 (0 : Nat) none).add (0 : Nat)) fun ((x17 : Int), _) =>
                      π.ite (x17 != (4 : Int)) (
                        π.ret (Go.Value.bool (true))
                      ) (
                        π.ld [.int .i64] ((Addr.mk r0 (0 : Nat) none).add (4 : Nat)) fun ((x18 : Int), _) =>
                        π.ite (decide (x18 > (1099511627776 : Int))) (
                          π.ret (Go.Value.bool (true))
                        ) (
                          π.ld [.int .i64] ((Addr.mk r0 (0 : Nat) none).add (5 : Nat)) fun ((x19 : Int), _) =>
                          π.ite (decide (x19 < (0 : Int))) (
                            π.ret (Go.Value.bool (true))
                          ) (
                            π.ld [.int .i64] ((Addr.mk r0 (0 : Nat) none).add (5 : Nat)) fun ((x20 : Int), _) =>
                            π.ite (decide (x20 > (1099511627776 : Int))) (
                              π.ret (Go.Value.bool (true))
                            ) (
                              π.ld [.int .i64] ((Addr.mk r0 (0 : Nat) none).add (6 : Nat)) fun ((x21 : Int), _) =>
                              π.ite (decide (x21 < (0 : Int))) (
                                π.ret (Go.Value.bool (true))
                              ) (
                                π.ld [.int .i64] ((Addr.mk r0 (0 : Nat) none).add (6 : Nat)) fun ((x22 : Int), _) =>
                                π.ret (Go.Value.bool (decide (x22 > (1099511627776 : Int))))
                              )
                            )
                          )
                        )
                      )
                    ) (
                      π.ld [.int .i64] ((Addr.mk r0 (0 : Nat) none).add (4 : Nat)) fun ((x23 : Int), _) =>
                      π.ite (decide (x23 > (1099511627776 : Int))) (
                        π.ret (Go.Value.bool (true))
                      ) (
                        π.ld [.int .i64] ((Addr.mk r0 (0 : Nat) none).add (5 : Nat)) fun ((x24 : Int), _) =>
                        π.ite (decide (x24 < (0 : Int))) (
                          π.ret (Go.Value.bool (true))
                        ) (
                          π.ld [.int .i64] ((Addr.mk r0 (0 : Nat) none).add (5 : Nat)) fun ((x25 : Int), _) =>
                          π.ite (decide (x25 > (1099511627776 : Int))) (
                            π.ret (Go.Value.bool (true))
                          ) (
                            π.ld [.int .i64] ((Addr.mk r0 (0 : Nat) none).add (6 : Nat)) fun ((x26 : Int), _) =>
                            π.ite (decide (x26 < (0 : Int))) (
                              π.ret (Go.Value.bool (true))
                            ) (
                              π.ld [.int .i64] ((Addr.mk r0 (0 : Nat) none).add (6 : Nat)) fun ((x27 : Int), _) =>
                              π.ret (Go.Value.bool (decide (x27 > (1099511627776 : Int))))
                            )
                          )
                        )
                      )
                    )
                  )
                )
              )
            )
          )
        )
      )
    )
  )
def ann_rStrange : Ann := { draws := [(1, { A := [0, 1, 2, 3, 4, 5, 6, 7, 8, 9, 10, 11, 12, 13, 14, 15, 16, 17, 18, 19, 20, 21, 22, 23, 24, 25, 26, 27, 28, 29, 30, 31, 32, 33, 34, 35, 36, 37, 38, 39, 40, 41, 42, 43, 44, 45, 46, 47, 48, 49] })], join := [], loop := [] }
def la_rStrange : LA := { ptr := [], ty := [] }
set_option maxRecDepth 100000 in
theorem eq_rStrange {W : Type} (π : Prims W) (r : Nat) (mk mf mt mm mi mp mc : Int) (mg : Bool) (la : Option Addr) (ln lc : Nat) (ms : ByteArray) : bodyL π Try.prog la_rStrange ann_rStrange (mkFr (maskA [] [.v (.pointer (some ⟨r, 0, none⟩)), .v (.agg #[.int .i64 mk, .int .i64 mf, .int .i64 mt, .int .i64 mm, .int .i64 mi, .int .i64 mp, .int .i64 mc, .bool mg, .slice la ln lc, .string ms])] 0) 91) Try.f64 (bodyOf Try.f64) (mkFr (List.map some [.v (.pointer (some ⟨r, 0, none⟩)), .v (.agg #[.int .i64 mk, .int .i64 mf, .int .i64 mt, .int .i64 mm, .int .i64 mi, .int .i64 mp, .int .i64 mc, .bool mg, .slice la ln lc, .string ms])]) 91) = vc_rStrange π r mk mf mt mm mi mp mc mg la ln lc ms := by kernel_rfl
theorem ok_rStrange (r : Nat) (mk mf mt mm mi mp mc : Int) (mg : Bool) (la : Option Addr) (ln lc : Nat) (ms : ByteArray) (R : Value → PH → Prop) (s : PH) (h : vc_rStrange (RP Try.prog R) r mk mf mt mm mi mp mc mg la ln lc ms s) : DCalls Try.prog 64 (List.map AV.val [.v (.pointer (some ⟨r, 0, none⟩)), .v (.agg #[.int .i64 mk, .int .i64 mf, .int .i64 mt, .int .i64 mm, .int .i64 mi, .int .i64 mp, .int .i64 mc, .bool mg, .slice la ln lc, .string ms])]).toArray s R :=
  calls_vcL (c := bodyOf Try.f64) (ann := ann_rStrange) la_rStrange (by kernel_rfl) Try.func64 rfl (by kernel_rfl) [.v (.pointer (some ⟨r, 0, none⟩)), .v (.agg #[.int .i64 mk, .int .i64 mf, .int .i64 mt, .int .i64 mm, .int .i64 mi, .int .i64 mp, .int .i64 mc, .bool mg, .slice la ln lc, .string ms])] [] (by rw [Try.ntmps64]; exact Nat.le_of_ble_eq_true rfl) (by kernel_rfl) (by rw [show Try.f64.ntmps = 91 from Try.ntmps64, eq_rStrange]; exact h)
/-- (*lintel/lintelref09.Ballot).Take -/
def vc_rTake {W : Type} (π : Prims W) (r : Nat) (mk mf mt mm mi mp mc : Int) (mg : Bool) (la : Option Addr) (ln lc : Nat) (ms : ByteArray) : W :=
  π.nw (Go.Obj.cells #[(Go.Value.int (IntKind.i64) (mk)), (Go.Value.int (IntKind.i64) (mf)), (Go.Value.int (IntKind.i64) (mt)), (Go.Value.int (IntKind.i64) (mm)), (Go.Value.int (IntKind.i64) (mi)), (Go.Value.int (IntKind.i64) (mp)), (Go.Value.int (IntKind.i64) (mc)), (Go.Value.bool (mg)), (Go.Value.slice (la) (ln) (lc)), (Go.Value.string (ms))] (32 : Nat) ((0 : Nat), (0 : Nat))) fun r0 =>
  π.ld [.int .i64, .int .i64, .int .i64, .int .i64, .int .i64, .int .i64, .int .i64, .bool, .slice, .str] (Addr.mk r0 (0 : Nat) none) fun ((x1 : Int), (x2 : Int), (x3 : Int), (x4 : Int), (x5 : Int), (x6 : Int), (x7 : Int), (b8 : Bool), ((a9 : Option Addr), (n10 : Nat), (c11 : Nat)), (t12 : ByteArray), _) =>
  π.call (64 : Nat) #[(Go.Value.pointer (some (Addr.mk r (0 : Nat) none))), (Go.Value.agg #[(Go.Value.int (IntKind.i64) (x1)), (Go.Value.int (IntKind.i64) (x2)), (Go.Value.int (IntKind.i64) (x3)), (Go.Value.int (IntKind.i64) (x4)), (Go.Value.int (IntKind.i64) (x5)), (Go.Value.int (IntKind.i64) (x6)), (Go.Value.int (IntKind.i64) (x7)), (Go.Value.bool (b8)), (Go.Value.slice (a9) (n10) (c11)), (Go.Value.string (t12))])] (false, [(false, [.bool])]) fun (((b13 : Bool), _), _) =>
  π.ite (b13) (
    π.ret (Go.Value.slice (none) ((0 : Nat)) ((0 : Nat)))
  ) (
    π.join [(false, [.addr])] (fun J14 =>
      π.ld [.int .i64] ((Addr.mk r0 (0 : Nat) none).add (3 : Nat)) fun ((x15 : Int), _) =>
      π.unSome (some (Addr.mk r (0 : Nat) none)) fun p16 =>
      π.ld [.int .i64] (p16.add (2 : Nat)) fun ((x17 : Int), _) =>
      π.ite (decide (x15 > x17)) (
        π.ld [.int .i64] ((Addr.mk r0 (0 : Nat) none).add (3 : Nat)) fun ((x18 : Int), _) =>
        π.unSome (some (Addr.mk r (0 : Nat) none)) fun p19 =>
        π.st (p19.add (2 : Nat)) [(Go.Value.int (IntKind.i64) (x18))] <|
        π.unSome (some (Addr.mk r (0 : Nat) none)) fun p20 =>
        π.st (p20.add (3 : Nat)) [(Go.Value.int (IntKind.i64) ((-1 : Int)))] <|
        π.unSome (some (Addr.mk r (0 : Nat) none)) fun p21 =>
        π.st (p21.add (4 : Nat)) [(Go.Value.int (IntKind.i64) ((0 : Int)))] <|
        π.unSome (some (Addr.mk r (0 : Nat) none)) fun p22 =>
        π.st (p22.add (5 : Nat)) [(Go.Value.int (IntKind.i64) ((-1 : Int)))] <|
        π.unSome (some (Addr.mk r (0 : Nat) none)) fun p23 =>
        π.st (p23.add (26 : Nat)) [(Go.Value.bool (true))] <|
        J14 ((Addr.mk r0 (0 : Nat) none, ()), ())
      ) (
        J14 ((Addr.mk r0 (0 : Nat) none, ()), ())
      )
    ) (fun ((p24, _), _) =>
      π.ld [.int .i64] (p24.add (3 : Nat)) fun ((x25 : Int), _) =>
      π.unSome (some (Addr.mk r (0 : Nat) none)) fun p26 =>
      π.ld [.int .i64] (p26.add (2 : Nat)) fun ((x27 : Int), _) =>
      π.ite (decide (x25 < x27)) (
        π.join [(false, [.addr])] (fun J28 =>
          π.ld [.int .i64] (p24.add (0 : Nat)) fun ((x29 : Int), _) =>
          π.ite (x29 == (1 : Int)) (
            π.ld [.int .i64] (p24.add (1 : Nat)) fun ((x30 : Int), _) =>
            π.call (57 : Nat) #[(Go.Value.pointer (some (Addr.mk r (0 : Nat) none))), (Go.Value.agg #[(Go.Value.int (IntKind.i64) ((2 : Int))), (Go.Value.int (IntKind.i64) ((0 : Int))), (Go.Value.int (IntKind.i64) (x30)), (Go.Value.int (IntKind.i64) ((0 : Int))), (Go.Value.int (IntKind.i64) ((0 : Int))), (Go.Value.int (IntKind.i64) ((0 : Int))), (Go.Value.int (IntKind.i64) ((0 : Int))), (Go.Value.bool (false)), (Go.Value.slice (none) ((0 : Nat)) ((0 : Nat))), (Go.Value.string (ByteArray.mk #[]))])] (true, []) fun (_) =>
            J28 ((p24, ()), ())
          ) (
            J28 ((p24, ()), ())
          )
        ) (fun ((p31, _), _) =>
          π.join [(false, [.addr]), (false, [.bool])] (fun J32 =>
            π.ld [.int .i64] (p31.add (0 : Nat)) fun ((x33 : Int), _) =>
            π.ite (x33 == (3 : Int)) (
              J32 ((p31, ()), (true, ()), ())
            ) (
              π.ld [.int .i64] (p31.add (0 : Nat)) fun ((x34 : Int), _) =>
              J32 ((p31, ()), (x34 == (5 : Int), ()), ())
            )
          ) (fun ((p35, _), ((b36 : Bool), _), _) =>
            π.ite (b36) (
              π.ld [.int .i64] (p35.add (1 : Nat)) fun ((x37 : Int), _) =>
              π.callQ (37 : Nat) #[(Go.Value.pointer (some (Addr.mk r (0 : Nat) none)))] (false, [(false, [.int .i64])]) fun (((x38 : Int), _), _) =>
              π.call (57 : Nat) #[(Go.Value.pointer (some (Addr.mk r (0 : Nat) none))), (Go.Value.agg #[(Go.Value.int (IntKind.i64) ((4 : Int))), (Go.Value.int (IntKind.i64) ((0 : Int))), (Go.Value.int (IntKind.i64) (x37)), (Go.Value.int (IntKind.i64) ((0 : Int))), (Go.Value.int (IntKind.i64) (x38)), (Go.Value.int (IntKind.i64) ((0 : Int))), (Go.Value.int (IntKind.i64) ((0 : Int))), (Go.Value.bool (false)), (Go.Value.slice (none) ((0 : Nat)) ((0 : Nat))), (Go.Value.string (ByteArray.mk #[]))])] (true, []) fun (_) =>
              π.call (60 : Nat) #[(Go.Value.pointer (some (Addr.mk r (0 : Nat) none)))] (false, [(false, [.slice])]) fun ((((a39 : Option Addr), (n40 : Nat), (c41 : Nat)), _), _) =>
              π.ret (Go.Value.slice (a39) (n40) (c41))
            ) (
              π.call (60 : Nat) #[(Go.Value.pointer (some (Addr.mk r (0 : Nat) none)))] (false, [(false, [.slice])]) fun ((((a42 : Option Addr), (n43 : Nat), (c44 : Nat)), _), _) =>
              π.ret (Go.Value.slice (a42) (n43) (c44))
            )
          )
        )
      ) (
        π.ld [.int .i64] (p24.add (0 : Nat)) fun ((x45 : Int), _) =>
        π.ite (x45 == (1 : Int)) (
          π.ld [.int .i64, .int .i64, .int .i64, .int .i64, .int .i64, .int .i64, .int .i64, .bool, .slice, .str] (p24) fun ((x46 : Int), (x47 : Int), (x48 : Int), (x49 : Int), (x50 : Int), (x51 : Int), (x52 : Int), (b53 : Bool), ((a54 : Option Addr), (n55 : Nat), (c56 : Nat)), (t57 : ByteArray), _) =>
          π.call (65 : Nat) #[(Go.Value.pointer (some (Addr.mk r (0 : Nat) none))), (Go.Value.agg #[(Go.Value.int (IntKind.i64) (x46)), (Go.Value.int (IntKind.i64) (x47)), (Go.Value.int (IntKind.i64) (x48)), (Go.Value.int (IntKind.i64) (x49)), (Go.Value.int (IntKind.i64) (x50)), (Go.Value.int (IntKind.i64) (x51)), (Go.Value.int (IntKind.i64) (x52)), (Go.Value.bool (b53)), (Go.Value.slice (a54) (n55) (c56)), (Go.Value.string (t57))])] (true, []) fun (_) =>
          π.call (60 : Nat) #[(Go.Value.pointer (some (Addr.mk r (0 : Nat) none)))] (false, [(false, [.slice])]) fun ((((a58 : Option Addr), (n59 : Nat), (c60 : Nat)), _), _) =>
          π.ret (Go.Value.slice (a58) (n59) (c60))
        ) (
          π.ite (x45 == (2 : Int)) (
            π.join [(false, [.addr]), (false, [.bool])] (fun J61 =>
              π.unSome (some (Addr.mk r (0 : Nat) none)) fun p62 =>
              π.ld [.int .i64] (p62.add (4 : Nat)) fun ((x63 : Int), _) =>
              π.ite (x63 == (1 : Int)) (
                π.ld [.bool] (p24.add (7 : Nat)) fun ((b64 : Bool), _) =>
                J61 ((p24, ()), (b64, ()), ())
              ) (
                J61 ((p24, ()), (false, ()), ())
              )
            ) (fun ((p65, _), ((b66 : Bool), _), _) =>
              π.ite (b66) (
                π.ld [.int .i64] (p65.add (1 : Nat)) fun ((x67 : Int), _) =>
                π.unSome (some (Addr.mk r (0 : Nat) none)) fun p68 =>
                π.guard ((0 : Int) ≤ x67 ∧ x67 < (5 : Int)) <|
                π.st ((p68.add (10 : Nat)).add (x67.toNat * (1 : Nat))) [(Go.Value.bool (true))] <|
                π.call (59 : Nat) #[(Go.Value.pointer (some (Addr.mk r (0 : Nat) none)))] (true, []) fun (_) =>
                π.call (60 : Nat) #[(Go.Value.pointer (some (Addr.mk r (0 : Nat) none)))] (false, [(false, [.slice])]) fun ((((a69 : Option Addr), (n70 : Nat), (c71 : Nat)), _), _) =>
                π.ret (Go.Value.slice (a69) (n70) (c71))
              ) (
                π.call (60 : Nat) #[(Go.Value.pointer (some (Addr.mk r (0 : Nat) none)))] (false, [(false, [.slice])]) fun ((((a72 : Option Addr), (n73 : Nat), (c74 : Nat)), _), _) =>
                π.ret (Go.Value.slice (a72) (n73) (c74))
              )
            )
          ) (
            π.ite (x45 == (3 : Int)) (
              π.ld [.int .i64, .int .i64, .int .i64, .int .i64, .int .i64, .int .i64, .int .i64, .bool, .slice, .str] (p24) fun ((x75 : Int), (x76 : Int), (x77 : Int), (x78 : Int), (x79 : Int), (x80 : Int), (x81 : Int), (b82 : Bool), ((a83 : Option Addr), (n84 : Nat), (c85 : Nat)), (t86 : ByteArray), _) =>
              π.call (66 : Nat) #[(Go.Value.pointer (some (Addr.mk r (0 : Nat) none))), (Go.Value.agg #[(Go.Value.int (IntKind.i64) (x75)), (Go.Value.int (IntKind.i64) (x76)), (Go.Value.int (IntKind.i64) (x77)), (Go.Value.int (IntKind.i64) (x78)), (Go.Value.int (IntKind.i64) (x79)), (Go.Value.int (IntKind.i64) (x80)), (Go.Value.int (IntKind.i64) (x81)), (Go.Value.bool (b82)), (Go.Value.slice (a83) (n84) (c85)), (Go.Value.string (t86))])] (true, []) fun (_) =>
              π.call (60 : Nat) #[(Go.Value.pointer (some (Addr.mk r (0 : Nat) none)))] (false, [(false, [.slice])]) fun ((((a87 : Option Addr), (n88 : Nat), (c89 : Nat)), _), _) =>
              π.ret (Go.Value.slice (a87) (n88) (c89))
            ) (
              π.ite (x45 == (4 : Int)) (
                π.ld [.int .i64, .int .i64, .int .i64, .int .i64, .int .i64, .int .i64, .int .i64, .bool, .slice, .str] (p24) fun ((x90 : Int), (x91 : Int), (x92 : Int), (x93 : Int), (x94 : Int), (x95 : Int), (x96 : Int), (b97 : Bool), ((a98 : Option Addr), (n99 : Nat), (c100 : Nat)), (t101 : ByteArray), _) =>
                π.call (67 : Nat) #[(Go.Value.pointer (some (Addr.mk r (0 : Nat) none))), (Go.Value.agg #[(Go.Value.int (IntKind.i64) (x90)), (Go.Value.int (IntKind.i64) (x91)), (Go.Value.int (IntKind.i64) (x92)), (Go.Value.int (IntKind.i64) (x93)), (Go.Value.int (IntKind.i64) (x94)), (Go.Value.int (IntKind.i64) (x95)), (Go.Value.int (IntKind.i64) (x96)), (Go.Value.bool (b97)), (Go.Value.slice (a98) (n99) (c100)), (Go.Value.string (t101))])] (true, []) fun (_) =>
                π.call (60 : Nat) #[(Go.Value.pointer (some (Addr.mk r (0 : Nat) none)))] (false, [(false, [.slice])]) fun ((((a102 : Option Addr), (n103 : Nat), (c104 : Nat)), _), _) =>
                π.ret (Go.Value.slice (a102) (n103) (c104))
              ) (
                π.ite (x45 == (5 : Int)) (
                  π.ld [.int .i64, .int .i64, .int .i64, .int .i64, .int .i64, .int .i64, .int .i64, .bool, .slice, .str] (p24) fun ((x105 : Int), (x106 : Int), (x107 : Int), (x108 : Int), (x109 : Int), (x110 : Int), (x111 : Int), (b112 : Bool), ((a113 : Option Addr), (n114 : Nat), (c115 : Nat)), (t116 : ByteArray), _) =>
                  π.call (68 : Nat) #[(Go.Value.pointer (some (Addr.mk r (0 : Nat) none))), (Go.Value.agg #[(Go.Value.int (IntKind.i64) (x105)), (Go.Value.int (IntKind.i64) (x106)), (Go.Value.int (IntKind.i64) (x107)), (Go.Value.int (IntKind.i64) (x108)), (Go.Value.int (IntKind.i64) (x109)), (Go.Value.int (IntKind.i64) (x110)), (Go.Value.int (IntKind.i64) (x111)), (Go.Value.bool (b112)), (Go.Value.slice (a113) (n114) (c115)), (Go.Value.string (t116))])] (true, []) fun (_) =>
                  π.call (60 : Nat) #[(Go.Value.pointer (some (Addr.mk r (0 : Nat) none)))] (false, [(false, [.slice])]) fun ((((a117 : Option Addr), (n118 : Nat), (c119 : Nat)), _), _) =>
                  π.ret (Go.Value.slice (a117) (n118) (c119))
                ) (
                  π.call (60 : Nat) #[(Go.Value.pointer (some (Addr.mk r (0 : Nat) none)))] (false, [(false, [.slice])]) fun ((((a120 : Option Addr), (n121 : Nat), (c122 : Nat)), _), _) =>
                  π.ret (Go.Value.slice (a120) (n121) (c122))
                )
              )
            )
          )
        )
      )
    )
  )
def ann_rTake : Ann := { draws := [(3, { A := [0, 1, 2, 3, 4, 5, 6] }), (9, { A := [0, 1, 2, 3, 4, 5, 6] }), (13, { A := [0, 1, 2, 3, 4, 5], quiet := [4] }), (20, { A := [0, 1, 2, 3, 4, 5] })], join := [(9, [(3, 1000000)]), (12, [(3, 1000000)]), (13, [(3, 1000000), (54, 4)]), (20, [(3, 1000000), (81, 4)])], loop := [] }
def la_rTake : LA := { ptr := [], ty := [] }
set_option maxRecDepth 100000 in
theorem eq_rTake {W : Type} (π : Prims W) (r : Nat) (mk mf mt mm mi mp mc : Int) (mg : Bool) (la : Option Addr) (ln lc : Nat) (ms : ByteArray) : bodyL π Try.prog la_rTake ann_rTake (mkFr (maskA [] [.v (.pointer (some ⟨r, 0, none⟩)), .v (.agg #[.int .i64 mk, .int .i64 mf, .int .i64 mt, .int .i64 mm, .int .i64 mi, .int .i64 mp, .int .i64 mc, .bool mg, .slice la ln lc, .string ms])] 0) 107) Try.f34 (bodyOf Try.f34) (mkFr (List.map some [.v (.pointer (some ⟨r, 0, none⟩)), .v (.agg #[.int .i64 mk, .int .i64 mf, .int .i64 mt, .int .i64 mm, .int .i64 mi, .int .i64 mp, .int .i64 mc, .bool mg, .slice la ln lc, .string ms])]) 107) = vc_rTake π r mk mf mt mm mi mp mc mg la ln lc ms := by kernel_rfl
theorem ok_rTake (r : Nat) (mk mf mt mm mi mp mc : Int) (mg : Bool) (la : Option Addr) (ln lc : Nat) (ms : ByteArray) (R : Value → PH → Prop) (s : PH) (h : vc_rTake (RP Try.prog R) r mk mf mt mm mi mp mc mg la ln lc ms s) : DCalls Try.prog 34 (List.map AV.val [.v (.pointer (some ⟨r, 0, none⟩)), .v (.agg #[.int .i64 mk, .int .i64 mf, .int .i64 mt, .int .i64 mm, .int .i64 mi, .int .i64 mp, .int .i64 mc, .bool mg, .slice la ln lc, .string ms])]).toArray s R :=
  calls_vcL (c := bodyOf Try.f34) (ann := ann_rTake) la_rTake (by kernel_rfl) Try.func34 rfl (by kernel_rfl) [.v (.pointer (some ⟨r, 0, none⟩)), .v (.agg #[.int .i64 mk, .int .i64 mf, .int .i64 mt, .int .i64 mm, .int .i64 mi, .int .i64 mp, .int .i64 mc, .bool mg, .slice la ln lc, .string ms])] [] (by rw [Try.ntmps34]; exact Nat.le_of_ble_eq_true rfl) (by kernel_rfl) (by rw [show Try.f34.ntmps = 107 from Try.ntmps34, eq_rTake]; exact h)
/-- (*lintel/lintelref09.Ballot).ask -/
def vc_rask {W : Type} (π : Prims W) (r : Nat) (mk mf mt mm mi mp mc : Int) (mg : Bool) (la : Option Addr) (ln lc : Nat) (ms : ByteArray) : W :=
  π.nw (Go.Obj.cells #[(Go.Value.int (IntKind.i64) (mk)), (Go.Value.int (IntKind.i64) (mf)), (Go.Value.int (IntKind.i64) (mt)), (Go.Value.int (IntKind.i64) (mm)), (Go.Value.int (IntKind.i64) (mi)), (Go.Value.int (IntKind.i64) (mp)), (Go.Value.int (IntKind.i64) (mc)), (Go.Value.bool (mg)), (Go.Value.slice (la) (ln) (lc)), (Go.Value.string (ms))] (32 : Nat) ((0 : Nat), (0 : Nat))) fun r0 =>
  π.call (37 : Nat) #[(Go.Value.pointer (some (Addr.mk r (0 : Nat) none)))] (false, [(false, [.int .i64])]) fun (((x1 : Int), _), _) =>
  π.call (58 : Nat) #[(Go.Value.pointer (some (Addr.mk r (0 : Nat) none))), (Go.Value.int (IntKind.i64) (x1))] (false, [(false, [.int .i64])]) fun (((x2 : Int), _), _) =>
  π.join [(false, [.addr]), (false, [.int .i64]), (false, [.bool])] (fun J3 =>
    π.unSome (some (Addr.mk r (0 : Nat) none)) fun p4 =>
    π.ld [.int .i64] (p4.add (3 : Nat)) fun ((x5 : Int), _) =>
    π.ite (x5 == (-1 : Int)) (
      J3 ((Addr.mk r0 (0 : Nat) none, ()), (x2, ()), (true, ()), ())
    ) (
      π.unSome (some (Addr.mk r (0 : Nat) none)) fun p6 =>
      π.ld [.int .i64] (p6.add (3 : Nat)) fun ((x7 : Int), _) =>
      π.ld [.int .i64] ((Addr.mk r0 (0 : Nat) none).add (1 : Nat)) fun ((x8 : Int), _) =>
      J3 ((Addr.mk r0 (0 : Nat) none, ()), (x2, ()), (x7 == x8, ()), ())
    )
  ) (fun ((p9, _), ((x10 : Int), _), ((b11 : Bool), _), _) =>
    π.join [(false, [.addr]), (false, [.bool])] (fun J12 =>
      π.ld [.int .i64] (p9.add (5 : Nat)) fun ((x13 : Int), _) =>
      π.ite (decide (x13 < x10)) (
        J12 ((p9, ()), (false, ()), ())
      ) (
        π.ld [.int .i64] (p9.add (5 : Nat)) fun ((x14 : Int), _) =>
        π.ite (x14 == x10) (
          π.ld [.int .i64] (p9.add (4 : Nat)) fun ((x15 : Int), _) =>
          π.callQ (37 : Nat) #[(Go.Value.pointer (some (Addr.mk r (0 : Nat) none)))] (false, [(false, [.int .i64])]) fun (((x16 : Int), _), _) =>
          π.ite (decide (x15 < x16)) (
            J12 ((p9, ()), (false, ()), ())
          ) (
            J12 ((p9, ()), (b11, ()), ())
          )
        ) (
          J12 ((p9, ()), (b11, ()), ())
        )
      )
    ) (fun ((p17, _), ((b18 : Bool), _), _) =>
      π.ite (b18) (
        π.ld [.int .i64] (p17.add (1 : Nat)) fun ((x19 : Int), _) =>
        π.unSome (some (Addr.mk r (0 : Nat) none)) fun p20 =>
        π.st (p20.add (3 : Nat)) [(Go.Value.int (IntKind.i64) (x19))] <|
        π.unSome (some (Addr.mk r (0 : Nat) none)) fun p21 =>
        π.st (p21.add (26 : Nat)) [(Go.Value.bool (true))] <|
        π.ld [.int .i64] (p17.add (1 : Nat)) fun ((x22 : Int), _) =>
        π.call (57 : Nat) #[(Go.Value.pointer (some (Addr.mk r (0 : Nat) none))), (Go.Value.agg #[(Go.Value.int (IntKind.i64) ((2 : Int))), (Go.Value.int (IntKind.i64) ((0 : Int))), (Go.Value.int (IntKind.i64) (x22)), (Go.Value.int (IntKind.i64) ((0 : Int))), (Go.Value.int (IntKind.i64) ((0 : Int))), (Go.Value.int (IntKind.i64) ((0 : Int))), (Go.Value.int (IntKind.i64) ((0 : Int))), (Go.Value.bool (b18)), (Go.Value.slice (none) ((0 : Nat)) ((0 : Nat))), (Go.Value.string (ByteArray.mk #[]))])] (true, []) fun (_) =>
        π.ret (Go.Value.tuple #[])
      ) (
        π.ld [.int .i64] (p17.add (1 : Nat)) fun ((x23 : Int), _) =>
        π.call (57 : Nat) #[(Go.Value.pointer (some (Addr.mk r (0 : Nat) none))), (Go.Value.agg #[(Go.Value.int (IntKind.i64) ((2 : Int))), (Go.Value.int (IntKind.i64) ((0 : Int))), (Go.Value.int (IntKind.i64) (x23)), (Go.Value.int (IntKind.i64) ((0 : Int))), (Go.Value.int (IntKind.i64) ((0 : Int))), (Go.Value.int (IntKind.i64) ((0 : Int))), (Go.Value.int (IntKind.i64) ((0 : Int))), (Go.Value.bool (b18)), (Go.Value.slice (none) ((0 : Nat)) ((0 : Nat))), (Go.Value.string (ByteArray.mk #[]))])] (true, []) fun (_) =>
        π.ret (Go.Value.tuple #[])
      )
    )
  )
def ann_rask : Ann := { draws := [(2, { A := [0, 1, 2, 3, 4, 5, 6, 7, 8, 9, 10, 11, 12, 13, 14] }), (3, { A := [0, 1, 2, 3, 4, 5, 6, 7, 8, 9, 10, 11, 12, 13, 14, 15, 16], quiet := [13] })], join := [(3, [(3, 1000000), (4, 3), (5, 4)]), (5, [(3, 1000000), (5, 4)])], loop := [] }
def la_rask : LA := { ptr := [], ty := [] }
set_option maxRecDepth 100000 in
theorem eq_rask {W : Type} (π : Prims W) (r : Nat) (mk mf mt mm mi mp mc : Int) (mg : Bool) (la : Option Addr) (ln lc : Nat) (ms : ByteArray) : bodyL π Try.prog la_rask ann_rask (mkFr (maskA [] [.v (.pointer (some ⟨r, 0, none⟩)), .v (.agg #[.int .i64 mk, .int .i64 mf, .int .i64 mt, .int .i64 mm, .int .i64 mi, .int .i64 mp, .int .i64 mc, .bool mg, .slice la ln lc, .string ms])] 0) 56) Try.f65 (bodyOf Try.f65) (mkFr (List.map some [.v (.pointer (some ⟨r, 0, none⟩)), .v (.agg #[.int .i64 mk, .int .i64 mf, .int .i64 mt, .int .i64 mm, .int .i64 mi, .int .i64 mp, .int .i64 mc, .bool mg, .slice la ln lc, .string ms])]) 56) = vc_rask π r mk mf mt mm mi mp mc mg la ln lc ms := by kernel_rfl
theorem ok_rask (r : Nat) (mk mf mt mm mi mp mc : Int) (mg : Bool) (la : Option Addr) (ln lc : Nat) (ms : ByteArray) (R : Value → PH → Prop) (s : PH) (h : vc_rask (RP Try.prog R) r mk mf mt mm mi mp mc mg la ln lc ms s) : DCalls Try.prog 65 (List.map AV.val [.v (.pointer (some ⟨r, 0, none⟩)), .v (.agg #[.int .i64 mk, .int .i64 mf, .int .i64 mt, .int .i64 mm, .int .i64 mi, .int .i64 mp, .int .i64 mc, .bool mg, .slice la ln lc, .string ms])]).toArray s R :=
  calls_vcL (c := bodyOf Try.f65) (ann := ann_rask) la_rask (by kernel_rfl) Try.func65 rfl (by kernel_rfl) [.v (.pointer (some ⟨r, 0, none⟩)), .v (.agg #[.int .i64 mk, .int .i64 mf, .int .i64 mt, .int .i64 mm, .int .i64 mi, .int .i64 mp, .int .i64 mc, .bool mg, .slice la ln lc, .string ms])] [] (by rw [Try.ntmps65]; exact Nat.le_of_ble_eq_true rfl) (by kernel_rfl) (by rw [show Try.f65.ntmps = 56 from Try.ntmps65, eq_rask]; exact h)
/-- (*lintel/lintelref09.Ballot).entries -/
def vc_rentries {W : Type} (π : Prims W) (r : Nat) (mk mf mt mm mi mp mc : Int) (mg : Bool) (la : Option Addr) (ln lc : Nat) (ms : ByteArray) : W :=
  π.nw (Go.Obj.cells #[(Go.Value.int (IntKind.i64) (mk)), (Go.Value.int (IntKind.i64) (mf)), (Go.Value.int (IntKind.i64) (mt)), (Go.Value.int (IntKind.i64) (mm)), (Go.Value.int (IntKind.i64) (mi)), (Go.Value.int (IntKind.i64) (mp)), (Go.Value.int (IntKind.i64) (mc)), (Go.Value.bool (mg)), (Go.Value.slice (la) (ln) (lc)), (Go.Value.string (ms))] (32 : Nat) ((0 : Nat), (0 : Nat))) fun r0 =>
  π.unSome (some (Addr.mk r (0 : Nat) none)) fun p1 =>
  π.ld [.int .i64] (p1.add (4 : Nat)) fun ((x2 : Int), _) =>
  π.ite (x2 == (2 : Int)) (
    π.ret (Go.Value.tuple #[])
  ) (
    π.unSome (some (Addr.mk r (0 : Nat) none)) fun p3 =>
    π.st (p3.add (4 : Nat)) [(Go.Value.int (IntKind.i64) ((0 : Int)))] <|
    π.ld [.int .i64] ((Addr.mk r0 (0 : Nat) none).add (1 : Nat)) fun ((x4 : Int), _) =>
    π.unSome (some (Addr.mk r (0 : Nat) none)) fun p5 =>
    π.st (p5.add (5 : Nat)) [(Go.Value.int (IntKind.i64) (x4))] <|
    π.ld [.int .i64] ((Addr.mk r0 (0 : Nat) none).add (4 : Nat)) fun ((x6 : Int), _) =>
    π.ld [.slice] ((Addr.mk r0 (0 : Nat) none).add (8 : Nat)) fun (((a7 : Option Addr), (n8 : Nat), (c9 : Nat)), _) =>
    π.unSome (some (Addr.mk r (0 : Nat) none)) fun p10 =>
    π.ld [.int .i64] (p10.add (25 : Nat)) fun ((x11 : Int), _) =>
    π.ite (decide (IntKind.i64.wrap (x6 + (↑n8 : Int)) ≤ x11)) (
      π.ld [.int .i64] ((Addr.mk r0 (0 : Nat) none).add (1 : Nat)) fun ((x12 : Int), _) =>
      π.call (57 : Nat) #[(Go.Value.pointer (some (Addr.mk r (0 : Nat) none))), (Go.Value.agg #[(Go.Value.int (IntKind.i64) ((4 : Int))), (Go.Value.int (IntKind.i64) ((0 : Int))), (Go.Value.int (IntKind.i64) (x12)), (Go.Value.int (IntKind.i64) ((0 : Int))), (Go.Value.int (IntKind.i64) (IntKind.i64.wrap (x6 + (↑n8 : Int)))), (Go.Value.int (IntKind.i64) ((0 : Int))), (Go.Value.int (IntKind.i64) ((0 : Int))), (Go.Value.bool (true)), (Go.Value.slice (none) ((0 : Nat)) ((0 : Nat))), (Go.Value.string (ByteArray.mk #[]))])] (true, []) fun (_) =>
      π.ret (Go.Value.tuple #[])
    ) (
      π.join [(false, [.addr]), (false, [.int .i64]), (false, [.bool])] (fun J13 =>
        π.ld [.int .i64] ((Addr.mk r0 (0 : Nat) none).add (4 : Nat)) fun ((x14 : Int), _) =>
        π.unSome (some (Addr.mk r (0 : Nat) none)) fun p15 =>
        π.ld [.int .i64] (p15.add (25 : Nat)) fun ((x16 : Int), _) =>
        π.ite (decide (x14 ≥ x16)) (
          π.ld [.int .i64] ((Addr.mk r0 (0 : Nat) none).add (4 : Nat)) fun ((x17 : Int), _) =>
          π.callQ (58 : Nat) #[(Go.Value.pointer (some (Addr.mk r (0 : Nat) none))), (Go.Value.int (IntKind.i64) (x17))] (false, [(false, [.int .i64])]) fun (((x18 : Int), _), _) =>
          π.ld [.int .i64] ((Addr.mk r0 (0 : Nat) none).add (5 : Nat)) fun ((x19 : Int), _) =>
          J13 ((Addr.mk r0 (0 : Nat) none, ()), (IntKind.i64.wrap (x6 + (↑n8 : Int)), ()), (x18 != x19, ()), ())
        ) (
          J13 ((Addr.mk r0 (0 : Nat) none, ()), (IntKind.i64.wrap (x6 + (↑n8 : Int)), ()), (false, ()), ())
        )
      ) (fun ((p20, _), ((x21 : Int), _), ((b22 : Bool), _), _) =>
        π.ite (b22) (
          π.ld [.int .i64] (p20.add (1 : Nat)) fun ((x23 : Int), _) =>
          π.callQ (37 : Nat) #[(Go.Value.pointer (some (Addr.mk r (0 : Nat) none)))] (false, [(false, [.int .i64])]) fun (((x24 : Int), _), _) =>
          π.ld [.int .i64] (p20.add (4 : Nat)) fun ((x25 : Int), _) =>
          π.call (57 : Nat) #[(Go.Value.pointer (some (Addr.mk r (0 : Nat) none))), (Go.Value.agg #[(Go.Value.int (IntKind.i64) ((4 : Int))), (Go.Value.int (IntKind.i64) ((0 : Int))), (Go.Value.int (IntKind.i64) (x23)), (Go.Value.int (IntKind.i64) ((0 : Int))), (Go.Value.int (IntKind.i64) (if IntKind.i64.wrap (x25 - (1 : Int)) < x24 then IntKind.i64.wrap (x25 - (1 : Int)) else x24)), (Go.Value.int (IntKind.i64) ((0 : Int))), (Go.Value.int (IntKind.i64) ((0 : Int))), (Go.Value.bool (false)), (Go.Value.slice (none) ((0 : Nat)) ((0 : Nat))), (Go.Value.string (ByteArray.mk #[]))])] (true, []) fun (_) =>
          π.ret (Go.Value.tuple #[])
        ) (
          π.join [(false, [.addr]), (false, [.int .i64])] (fun J26 =>
            π.loop [(false, [.addr]), (false, [.int .i64]), (false, [.int .i64])] ((p20, ()), (x21, ()), ((0 : Int), ()), ()) fun ((p28, _), ((x29 : Int), _), ((x30 : Int), _), _) again27 =>
              π.ld [.slice] (p28.add (8 : Nat)) fun (((a31 : Option Addr), (n32 : Nat), (c33 : Nat)), _) =>
              π.ite (decide (x30 < (↑n32 : Int))) (
                π.ld [.int .i64] (p28.add (4 : Nat)) fun ((x34 : Int), _) =>
                π.unSome (some (Addr.mk r (0 : Nat) none)) fun p35 =>
                π.ld [.int .i64] (p35.add (25 : Nat)) fun ((x36 : Int), _) =>
                π.ite (decide (IntKind.i64.wrap (IntKind.i64.wrap (x34 + (1 : Int)) + x30) > x36)) (
                  π.callQ (37 : Nat) #[(Go.Value.pointer (some (Addr.mk r (0 : Nat) none)))] (false, [(false, [.int .i64])]) fun (((x37 : Int), _), _) =>
                  π.ite (decide (IntKind.i64.wrap (IntKind.i64.wrap (x34 + (1 : Int)) + x30) > x37)) (
                    π.ld [.slice] (p28.add (8 : Nat)) fun (((a38 : Option Addr), (n39 : Nat), (c40 : Nat)), _) =>
                    π.guard ((0 : Int) ≤ x30 ∧ x30 ≤ (↑n39 : Int) ∧ (↑n39 : Int) ≤ (↑c40 : Int)) <|
                    π.call (62 : Nat) #[(Go.Value.pointer (some (Addr.mk r (0 : Nat) none))), (Go.Value.int (IntKind.i64) (IntKind.i64.wrap (IntKind.i64.wrap (x34 + (1 : Int)) + x30))), (Go.Value.slice (if c40 = x30.toNat then a38 else Option.map (fun x => x.add (x30.toNat * (4 : Nat))) a38) ((↑n39 : Int).toNat - x30.toNat) (c40 - x30.toNat))] (true, []) fun (_) =>
                    J26 ((p28, ()), (x29, ()), ())
                  ) (
                    π.callQ (58 : Nat) #[(Go.Value.pointer (some (Addr.mk r (0 : Nat) none))), (Go.Value.int (IntKind.i64) (IntKind.i64.wrap (IntKind.i64.wrap (x34 + (1 : Int)) + x30)))] (false, [(false, [.int .i64])]) fun (((x41 : Int), _), _) =>
                    π.ld [.slice] (p28.add (8 : Nat)) fun (((a42 : Option Addr), (n43 : Nat), (c44 : Nat)), _) =>
                    π.guard ((0 : Int) ≤ x30 ∧ x30 < (↑n43 : Int)) <|
                    π.unSome (a42) fun p45 =>
                    π.ld [.int .i64] ((p45.add (x30.toNat * (4 : Nat))).add (0 : Nat)) fun ((x46 : Int), _) =>
                    π.ite (x41 != x46) (
                      π.ld [.slice] (p28.add (8 : Nat)) fun (((a47 : Option Addr), (n48 : Nat), (c49 : Nat)), _) =>
                      π.guard ((0 : Int) ≤ x30 ∧ x30 ≤ (↑n48 : Int) ∧ (↑n48 : Int) ≤ (↑c49 : Int)) <|
                      π.call (62 : Nat) #[(Go.Value.pointer (some (Addr.mk r (0 : Nat) none))), (Go.Value.int (IntKind.i64) (IntKind.i64.wrap (IntKind.i64.wrap (x34 + (1 : Int)) + x30))), (Go.Value.slice (if c49 = x30.toNat then a47 else Option.map (fun x => x.add (x30.toNat * (4 : Nat))) a47) ((↑n48 : Int).toNat - x30.toNat) (c49 - x30.toNat))] (true, []) fun (_) =>
                      J26 ((p28, ()), (x29, ()), ())
                    ) (
                      again27 ((p28, ()), (x29, ()), (IntKind.i64.wrap (x30 + (1 : Int)), ()), ())
                    )
                  )
                ) (
                  again27 ((p28, ()), (x29, ()), (IntKind.i64.wrap (x30 + (1 : Int)), ()), ())
                )
              ) (
                J26 ((p28, ()), (x29, ()), ())
              )
          ) (fun ((p50, _), ((x51 : Int), _), _) =>
            π.ld [.int .i64] (p50.add (6 : Nat)) fun ((x52 : Int), _) =>
            π.unSome (some (Addr.mk r (0 : Nat) none)) fun p53 =>
            π.ld [.int .i64] (p53.add (25 : Nat)) fun ((x54 : Int), _) =>
            π.ite (decide ((if x51 < x52 then x51 else x52) > x54)) (
              π.unSome (some (Addr.mk r (0 : Nat) none)) fun p55 =>
              π.st (p55.add (25 : Nat)) [(Go.Value.int (IntKind.i64) (if x51 < x52 then x51 else x52))] <|
              π.ld [.int .i64] (p50.add (1 : Nat)) fun ((x56 : Int), _) =>
              π.call (57 : Nat) #[(Go.Value.pointer (some (Addr.mk r (0 : Nat) none))), (Go.Value.agg #[(Go.Value.int (IntKind.i64) ((4 : Int))), (Go.Value.int (IntKind.i64) ((0 : Int))), (Go.Value.int (IntKind.i64) (x56)), (Go.Value.int (IntKind.i64) ((0 : Int))), (Go.Value.int (IntKind.i64) (x51)), (Go.Value.int (IntKind.i64) ((0 : Int))), (Go.Value.int (IntKind.i64) ((0 : Int))), (Go.Value.bool (true)), (Go.Value.slice (none) ((0 : Nat)) ((0 : Nat))), (Go.Value.string (ByteArray.mk #[]))])] (true, []) fun (_) =>
              π.ret (Go.Value.tuple #[])
            ) (
              π.ld [.int .i64] (p50.add (1 : Nat)) fun ((x57 : Int), _) =>
              π.call (57 : Nat) #[(Go.Value.pointer (some (Addr.mk r (0 : Nat) none))), (Go.Value.agg #[(Go.Value.int (IntKind.i64) ((4 : Int))), (Go.Value.int (IntKind.i64) ((0 : Int))), (Go.Value.int (IntKind.i64) (x57)), (Go.Value.int (IntKind.i64) ((0 : Int))), (Go.Value.int (IntKind.i64) (x51)), (Go.Value.int (IntKind.i64) ((0 : Int))), (Go.Value.int (IntKind.i64) ((0 : Int))), (Go.Value.bool (true)), (Go.Value.slice (none) ((0 : Nat)) ((0 : Nat))), (Go.Value.string (ByteArray.mk #[]))])] (true, []) fun (_) =>
              π.ret (Go.Value.tuple #[])
            )
          )
        )
      )
    )
  )
def ann_rentries : Ann := { draws := [(7, { A := [0, 1, 2, 3, 4, 5, 6, 7, 8, 9, 10, 11, 12, 13, 14, 15], quiet := [11] }), (8, { A := [0, 1, 2, 3, 4, 5, 6, 7, 8, 9], quiet := [4] }), (13, { A := [0, 1, 2, 3, 4, 5, 6, 7, 8, 9, 10, 11, 12, 13, 14, 15, 16, 17, 18, 19, 20, 21, 22, 23], quiet := [9, 14] })], join := [(8, [(3, 1000000), (4, 3), (54, 4)]), (15, [(3, 1000000), (4, 3)])], loop := [(10, [(3, 1000000), (4, 3), (5, 3)])] }
def la_rentries : LA := { ptr := [], ty := [] }
set_option maxRecDepth 100000 in
theorem eq_rentries {W : Type} (π : Prims W) (r : Nat) (mk mf mt mm mi mp mc : Int) (mg : Bool) (la : Option Addr) (ln lc : Nat) (ms : ByteArray) : bodyL π Try.prog la_rentries ann_rentries (mkFr (maskA [] [.v (.pointer (some ⟨r, 0, none⟩)), .v (.agg #[.int .i64 mk, .int .i64 mf, .int .i64 mt, .int .i64 mm, .int .i64 mi, .int .i64 mp, .int .i64 mc, .bool mg, .slice la ln lc, .string ms])] 0) 129) Try.f66 (bodyOf Try.f66) (mkFr (List.map some [.v (.pointer (some ⟨r, 0, none⟩)), .v (.agg #[.int .i64 mk, .int .i64 mf, .int .i64 mt, .int .i64 mm, .int .i64 mi, .int .i64 mp, .int .i64 mc, .bool mg, .slice la ln lc, .string ms])]) 129) = vc_rentries π r mk mf mt mm mi mp mc mg la ln lc ms := by kernel_rfl
theorem ok_rentries (r : Nat) (mk mf mt mm mi mp mc : Int) (mg : Bool) (la : Option Addr) (ln lc : Nat) (ms : ByteArray) (R : Value → PH → Prop) (s : PH) (h : vc_rentries (RP Try.prog R) r mk mf mt mm mi mp mc mg la ln lc ms s) : DCalls Try.prog 66 (List.map AV.val [.v (.pointer (some ⟨r, 0, none⟩)), .v (.agg #[.int .i64 mk, .int .i64 mf, .int .i64 mt, .int .i64 mm, .int .i64 mi, .int .i64 mp, .int .i64 mc, .bool mg, .slice la ln lc, .string ms])]).toArray s R :=
  calls_vcL (c := bodyOf Try.f66) (ann := ann_rentries) la_rentries (by kernel_rfl) Try.func66 rfl (by kernel_rfl) [.v (.pointer (some ⟨r, 0, none⟩)), .v (.agg #[.int .i64 mk, .int .i64 mf, .int .i64 mt, .int .i64 mm, .int .i64 mi, .int .i64 mp, .int .i64 mc, .bool mg, .slice la ln lc, .string ms])] [] (by rw [Try.ntmps66]; exact Nat.le_of_ble_eq_true rfl) (by kernel_rfl) (by rw [show Try.f66.ntmps = 129 from Try.ntmps66, eq_rentries]; exact h)
/-- (*lintel/lintelref09.Ballot).heard -/
def vc_rheard {W : Type} (π : Prims W) (r : Nat) (mk mf mt mm mi mp mc : Int) (mg : Bool) (la : Option Addr) (ln lc : Nat) (ms : ByteArray) : W :=
  π.nw (Go.Obj.cells #[(Go.Value.int (IntKind.i64) (mk)), (Go.Value.int (IntKind.i64) (mf)), (Go.Value.int (IntKind.i64) (mt)), (Go.Value.int (IntKind.i64) (mm)), (Go.Value.int (IntKind.i64) (mi)), (Go.Value.int (IntKind.i64) (mp)), (Go.Value.int (IntKind.i64) (mc)), (Go.Value.bool (mg)), (Go.Value.slice (la) (ln) (lc)), (Go.Value.string (ms))] (32 : Nat) ((0 : Nat), (0 : Nat))) fun r0 =>
  π.unSome (some (Addr.mk r (0 : Nat) none)) fun p1 =>
  π.ld [.int .i64] (p1.add (4 : Nat)) fun ((x2 : Int), _) =>
  π.ite (x2 != (2 : Int)) (
    π.ret (Go.Value.tuple #[])
  ) (
    π.ld [.int .i64] ((Addr.mk r0 (0 : Nat) none).add (1 : Nat)) fun ((x3 : Int), _) =>
    π.ld [.bool] ((Addr.mk r0 (0 : Nat) none).add (7 : Nat)) fun ((b4 : Bool), _) =>
    π.ite (!b4) (
      π.ld [.int .i64] ((Addr.mk r0 (0 : Nat) none).add (4 : Nat)) fun ((x5 : Int), _) =>
      π.unSome (some (Addr.mk r (0 : Nat) none)) fun p6 =>
      π.guard ((0 : Int) ≤ x3 ∧ x3 < (5 : Int)) <|
      π.ld [.int .i64] ((p6.add (15 : Nat)).add (x3.toNat * (1 : Nat))) fun ((x7 : Int), _) =>
      π.unSome (some (Addr.mk r (0 : Nat) none)) fun p8 =>
      π.guard ((0 : Int) ≤ x3 ∧ x3 < (5 : Int)) <|
      π.ld [.int .i64] ((p8.add (20 : Nat)).add (x3.toNat * (1 : Nat))) fun ((x9 : Int), _) =>
      π.unSome (some (Addr.mk r (0 : Nat) none)) fun p10 =>
      π.guard ((0 : Int) ≤ x3 ∧ x3 < (5 : Int)) <|
      π.st ((p10.add (15 : Nat)).add (x3.toNat * (1 : Nat))) [(Go.Value.int (IntKind.i64) (if IntKind.i64.wrap (x9 + (1 : Int)) > if IntKind.i64.wrap (x7 - (1 : Int)) < IntKind.i64.wrap (x5 + (1 : Int)) then IntKind.i64.wrap (x7 - (1 : Int)) else IntKind.i64.wrap (x5 + (1 : Int)) then IntKind.i64.wrap (x9 + (1 : Int)) else if IntKind.i64.wrap (x7 - (1 : Int)) < IntKind.i64.wrap (x5 + (1 : Int)) then IntKind.i64.wrap (x7 - (1 : Int)) else IntKind.i64.wrap (x5 + (1 : Int))))] <|
      π.call (72 : Nat) #[(Go.Value.pointer (some (Addr.mk r (0 : Nat) none))), (Go.Value.int (IntKind.i64) (x3))] (true, []) fun (_) =>
      π.ret (Go.Value.tuple #[])
    ) (
      π.unSome (some (Addr.mk r (0 : Nat) none)) fun p11 =>
      π.guard ((0 : Int) ≤ x3 ∧ x3 < (5 : Int)) <|
      π.ld [.int .i64] ((p11.add (20 : Nat)).add (x3.toNat * (1 : Nat))) fun ((x12 : Int), _) =>
      π.ld [.int .i64] ((Addr.mk r0 (0 : Nat) none).add (4 : Nat)) fun ((x13 : Int), _) =>
      π.callQ (37 : Nat) #[(Go.Value.pointer (some (Addr.mk r (0 : Nat) none)))] (false, [(false, [.int .i64])]) fun (((x14 : Int), _), _) =>
      π.unSome (some (Addr.mk r (0 : Nat) none)) fun p15 =>
      π.guard ((0 : Int) ≤ x3 ∧ x3 < (5 : Int)) <|
      π.st ((p15.add (20 : Nat)).add (x3.toNat * (1 : Nat))) [(Go.Value.int (IntKind.i64) (if (if x14 < x13 then x14 else x13) > x12 then if x14 < x13 then x14 else x13 else x12))] <|
      π.unSome (some (Addr.mk r (0 : Nat) none)) fun p16 =>
      π.guard ((0 : Int) ≤ x3 ∧ x3 < (5 : Int)) <|
      π.ld [.int .i64] ((p16.add (20 : Nat)).add (x3.toNat * (1 : Nat))) fun ((x17 : Int), _) =>
      π.unSome (some (Addr.mk r (0 : Nat) none)) fun p18 =>
      π.guard ((0 : Int) ≤ x3 ∧ x3 < (5 : Int)) <|
      π.st ((p18.add (15 : Nat)).add (x3.toNat * (1 : Nat))) [(Go.Value.int (IntKind.i64) (IntKind.i64.wrap (x17 + (1 : Int))))] <|
      π.call (63 : Nat) #[(Go.Value.pointer (some (Addr.mk r (0 : Nat) none)))] (true, []) fun (_) =>
      π.unSome (some (Addr.mk r (0 : Nat) none)) fun p19 =>
      π.guard ((0 : Int) ≤ x3 ∧ x3 < (5 : Int)) <|
      π.ld [.int .i64] ((p19.add (20 : Nat)).add (x3.toNat * (1 : Nat))) fun ((x20 : Int), _) =>
      π.ite (decide (x20 > x12)) (
        π.unSome (some (Addr.mk r (0 : Nat) none)) fun p21 =>
        π.guard ((0 : Int) ≤ x3 ∧ x3 < (5 : Int)) <|
        π.ld [.int .i64] ((p21.add (15 : Nat)).add (x3.toNat * (1 : Nat))) fun ((x22 : Int), _) =>
        π.callQ (37 : Nat) #[(Go.Value.pointer (some (Addr.mk r (0 : Nat) none)))] (false, [(false, [.int .i64])]) fun (((x23 : Int), _), _) =>
        π.ite (decide (x22 ≤ x23)) (
          π.call (72 : Nat) #[(Go.Value.pointer (some (Addr.mk r (0 : Nat) none))), (Go.Value.int (IntKind.i64) (x3))] (true, []) fun (_) =>
          π.ret (Go.Value.tuple #[])
        ) (
          π.ret (Go.Value.tuple #[])
        )
      ) (
        π.ret (Go.Value.tuple #[])
      )
    )
  )
def ann_rheard : Ann := { draws := [(4, { A := [0, 1, 2, 3, 4, 5, 6, 7, 8, 9, 10, 11, 12, 13, 14, 15, 16, 17, 18, 19, 20, 21, 22, 23] }), (7, { A := [0, 1, 2, 3, 4, 5, 6, 7, 8, 9, 10, 11], quiet := [6] }), (8, { A := [0, 1, 2, 3, 4, 5, 6, 7, 8, 9, 10, 11] }), (10, { A := [0, 1, 2, 3, 4, 5, 6, 7, 8, 9, 10, 11, 12, 13, 14, 15, 16, 17, 18], quiet := [16] })], join := [], loop := [] }
def la_rheard : LA := { ptr := [], ty := [] }
set_option maxRecDepth 100000 in
theorem eq_rheard {W : Type} (π : Prims W) (r : Nat) (mk mf mt mm mi mp mc : Int) (mg : Bool) (la : Option Addr) (ln lc : Nat) (ms : ByteArray) : bodyL π Try.prog la_rheard ann_rheard (mkFr (maskA [] [.v (.pointer (some ⟨r, 0, none⟩)), .v (.agg #[.int .i64 mk, .int .i64 mf, .int .i64 mt, .int .i64 mm, .int .i64 mi, .int .i64 mp, .int .i64 mc, .bool mg, .slice la ln lc, .string ms])] 0) 97) Try.f67 (bodyOf Try.f67) (mkFr (List.map some [.v (.pointer (some ⟨r, 0, none⟩)), .v (.agg #[.int .i64 mk, .int .i64 mf, .int .i64 mt, .int .i64 mm, .int .i64 mi, .int .i64 mp, .int .i64 mc, .bool mg, .slice la ln lc, .string ms])]) 97) = vc_rheard π r mk mf mt mm mi mp mc mg la ln lc ms := by kernel_rfl
theorem ok_rheard (r : Nat) (mk mf mt mm mi mp mc : Int) (mg : Bool) (la : Option Addr) (ln lc : Nat) (ms : ByteArray) (R : Value → PH → Prop) (s : PH) (h : vc_rheard (RP Try.prog R) r mk mf mt mm mi mp mc mg la ln lc ms s) : DCalls Try.prog 67 (List.map AV.val [.v (.pointer (some ⟨r, 0, none⟩)), .v (.agg #[.int .i64 mk, .int .i64 mf, .int .i64 mt, .int .i64 mm, .int .i64 mi, .int .i64 mp, .int .i64 mc, .bool mg, .slice la ln lc, .string ms])]).toArray s R :=
  calls_vcL (c := bodyOf Try.f67) (ann := ann_rheard) la_rheard (by kernel_rfl) Try.func67 rfl (by kernel_rfl) [.v (.pointer (some ⟨r, 0, none⟩)), .v (.agg #[.int .i64 mk, .int .i64 mf, .int .i64 mt, .int .i64 mm, .int .i64 mi, .int .i64 mp, .int .i64 mc, .bool mg, .slice la ln lc, .string ms])] [] (by rw [Try.ntmps67]; exact Nat.le_of_ble_eq_true rfl) (by kernel_rfl) (by rw [show Try.f67.ntmps = 97 from Try.ntmps67, eq_rheard]; exact h)
/-- (*lintel/lintelref09.Ballot).given -/
def vc_rgiven {W : Type} (π : Prims W) (r : Nat) (mk mf mt mm mi mp mc : Int) (mg : Bool) (la : Option Addr) (ln lc : Nat) (ms : ByteArray) : W :=
  π.nw (Go.Obj.cells #[(Go.Value.int (IntKind.i64) (mk)), (Go.Value.int (IntKind.i64) (mf)), (Go.Value.int (IntKind.i64) (mt)), (Go.Value.int (IntKind.i64) (mm)), (Go.Value.int (IntKind.i64) (mi)), (Go.Value.int (IntKind.i64) (mp)), (Go.Value.int (IntKind.i64) (mc)), (Go.Value.bool (mg)), (Go.Value.slice (la) (ln) (lc)), (Go.Value.string (ms))] (32 : Nat) ((0 : Nat), (0 : Nat))) fun r0 =>
  π.unSome (some (Addr.mk r (0 : Nat) none)) fun p1 =>
  π.ld [.int .i64] (p1.add (4 : Nat)) fun ((x2 : Int), _) =>
  π.ite (x2 == (2 : Int)) (
    π.ret (Go.Value.tuple #[])
  ) (
    π.unSome (some (Addr.mk r (0 : Nat) none)) fun p3 =>
    π.st (p3.add (4 : Nat)) [(Go.Value.int (IntKind.i64) ((0 : Int)))] <|
    π.ld [.int .i64] ((Addr.mk r0 (0 : Nat) none).add (1 : Nat)) fun ((x4 : Int), _) =>
    π.unSome (some (Addr.mk r (0 : Nat) none)) fun p5 =>
    π.st (p5.add (5 : Nat)) [(Go.Value.int (IntKind.i64) (x4))] <|
    π.ld [.int .i64] ((Addr.mk r0 (0 : Nat) none).add (4 : Nat)) fun ((x6 : Int), _) =>
    π.unSome (some (Addr.mk r (0 : Nat) none)) fun p7 =>
    π.ld [.int .i64] (p7.add (25 : Nat)) fun ((x8 : Int), _) =>
    π.ite (decide (x6 > x8)) (
      π.join [(false, [.addr]), (false, [.slice])] (fun J9 =>
        π.ld [.int .i64] ((Addr.mk r0 (0 : Nat) none).add (4 : Nat)) fun ((x10 : Int), _) =>
        π.callQ (58 : Nat) #[(Go.Value.pointer (some (Addr.mk r (0 : Nat) none))), (Go.Value.int (IntKind.i64) (x10))] (false, [(false, [.int .i64])]) fun (((x11 : Int), _), _) =>
        π.ld [.int .i64] ((Addr.mk r0 (0 : Nat) none).add (5 : Nat)) fun ((x12 : Int), _) =>
        π.ite (x11 == x12) (
          π.unSome (some (Addr.mk r (0 : Nat) none)) fun p13 =>
          π.ld [.slice] (p13.add (9 : Nat)) fun (((a14 : Option Addr), (n15 : Nat), (c16 : Nat)), _) =>
          π.ld [.int .i64] ((Addr.mk r0 (0 : Nat) none).add (4 : Nat)) fun ((x17 : Int), _) =>
          π.unSome (some (Addr.mk r (0 : Nat) none)) fun p18 =>
          π.ld [.int .i64] (p18.add (6 : Nat)) fun ((x19 : Int), _) =>
          π.guard ((0 : Int) ≤ IntKind.i64.wrap (x17 - x19) ∧ IntKind.i64.wrap (x17 - x19) ≤ (↑n15 : Int) ∧ (↑n15 : Int) ≤ (↑c16 : Int)) <|
          π.app (39 : Nat) (4 : Nat) (40 : Nat) [(Go.Value.int (IntKind.i64) ((0 : Int))), (Go.Value.int (IntKind.i64) ((0 : Int))), (Go.Value.int (IntKind.i64) ((0 : Int))), (Go.Value.string (ByteArray.mk #[]))] (none) ((0 : Nat)) ((0 : Nat)) (Src.sl (if c16 = (IntKind.i64.wrap (x17 - x19)).toNat then a14 else Option.map (fun x => x.add ((IntKind.i64.wrap (x17 - x19)).toNat * (4 : Nat))) a14) ((↑n15 : Int).toNat - (IntKind.i64.wrap (x17 - x19)).toNat)) fun a20 n21 c22 =>
          J9 ((Addr.mk r0 (0 : Nat) none, ()), ((a20, n21, c22), ()), ())
        ) (
          J9 ((Addr.mk r0 (0 : Nat) none, ()), ((none, (0 : Nat), (0 : Nat)), ()), ())
        )
      ) (fun ((p23, _), (((a24 : Option Addr), (n25 : Nat), (c26 : Nat)), _), _) =>
        π.ld [.int .i64] (p23.add (4 : Nat)) fun ((x27 : Int), _) =>
        π.ld [.int .i64] (p23.add (5 : Nat)) fun ((x28 : Int), _) =>
        π.ld [.str] (p23.add (9 : Nat)) fun ((t29 : ByteArray), _) =>
        π.call (69 : Nat) #[(Go.Value.pointer (some (Addr.mk r (0 : Nat) none))), (Go.Value.int (IntKind.i64) (x27)), (Go.Value.int (IntKind.i64) (x28)), (Go.Value.string (t29)), (Go.Value.slice (a24) (n25) (c26))] (true, []) fun (_) =>
        π.ld [.int .i64] (p23.add (4 : Nat)) fun ((x30 : Int), _) =>
        π.unSome (some (Addr.mk r (0 : Nat) none)) fun p31 =>
        π.st (p31.add (25 : Nat)) [(Go.Value.int (IntKind.i64) (x30))] <|
        π.ld [.int .i64] (p23.add (1 : Nat)) fun ((x32 : Int), _) =>
        π.ld [.int .i64] (p23.add (4 : Nat)) fun ((x33 : Int), _) =>
        π.call (57 : Nat) #[(Go.Value.pointer (some (Addr.mk r (0 : Nat) none))), (Go.Value.agg #[(Go.Value.int (IntKind.i64) ((4 : Int))), (Go.Value.int (IntKind.i64) ((0 : Int))), (Go.Value.int (IntKind.i64) (x32)), (Go.Value.int (IntKind.i64) ((0 : Int))), (Go.Value.int (IntKind.i64) (x33)), (Go.Value.int (IntKind.i64) ((0 : Int))), (Go.Value.int (IntKind.i64) ((0 : Int))), (Go.Value.bool (true)), (Go.Value.slice (none) ((0 : Nat)) ((0 : Nat))), (Go.Value.string (ByteArray.mk #[]))])] (true, []) fun (_) =>
        π.ret (Go.Value.tuple #[])
      )
    ) (
      π.ld [.int .i64] ((Addr.mk r0 (0 : Nat) none).add (1 : Nat)) fun ((x34 : Int), _) =>
      π.ld [.int .i64] ((Addr.mk r0 (0 : Nat) none).add (4 : Nat)) fun ((x35 : Int), _) =>
      π.call (57 : Nat) #[(Go.Value.pointer (some (Addr.mk r (0 : Nat) none))), (Go.Value.agg #[(Go.Value.int (IntKind.i64) ((4 : Int))), (Go.Value.int (IntKind.i64) ((0 : Int))), (Go.Value.int (IntKind.i64) (x34)), (Go.Value.int (IntKind.i64) ((0 : Int))), (Go.Value.int (IntKind.i64) (x35)), (Go.Value.int (IntKind.i64) ((0 : Int))), (Go.Value.int (IntKind.i64) ((0 : Int))), (Go.Value.bool (true)), (Go.Value.slice (none) ((0 : Nat)) ((0 : Nat))), (Go.Value.string (ByteArray.mk #[]))])] (true, []) fun (_) =>
      π.ret (Go.Value.tuple #[])
    )
  )
def ann_rgiven : Ann := { draws := [(4, { A := [0, 1, 2, 3, 4, 5, 6] }), (6, { A := [0, 1, 2, 3, 4, 5, 6], quiet := [3] }), (7, { A := [0, 1, 2, 3, 4, 5, 6, 7, 8, 9, 10, 11, 12] })], join := [(8, [(3, 1000000), (4, 30)])], loop := [] }
def la_rgiven : LA := { ptr := [], ty := [] }
set_option maxRecDepth 100000 in
theorem eq_rgiven {W : Type} (π : Prims W) (r : Nat) (mk mf mt mm mi mp mc : Int) (mg : Bool) (la : Option Addr) (ln lc : Nat) (ms : ByteArray) : bodyL π Try.prog la_rgiven ann_rgiven (mkFr (maskA [] [.v (.pointer (some ⟨r, 0, none⟩)), .v (.agg #[.int .i64 mk, .int .i64 mf, .int .i64 mt, .int .i64 mm, .int .i64 mi, .int .i64 mp, .int .i64 mc, .bool mg, .slice la ln lc, .string ms])] 0) 67) Try.f68 (bodyOf Try.f68) (mkFr (List.map some [.v (.pointer (some ⟨r, 0, none⟩)), .v (.agg #[.int .i64 mk, .int .i64 mf, .int .i64 mt, .int .i64 mm, .int .i64 mi, .int .i64 mp, .int .i64 mc, .bool mg, .slice la ln lc, .string ms])]) 67) = vc_rgiven π r mk mf mt mm mi mp mc mg la ln lc ms := by kernel_rfl
theorem ok_rgiven (r : Nat) (mk mf mt mm mi mp mc : Int) (mg : Bool) (la : Option Addr) (ln lc : Nat) (ms : ByteArray) (R : Value → PH → Prop) (s : PH) (h : vc_rgiven (RP Try.prog R) r mk mf mt mm mi mp mc mg la ln lc ms s) : DCalls Try.prog 68 (List.map AV.val [.v (.pointer (some ⟨r, 0, none⟩)), .v (.agg #[.int .i64 mk, .int .i64 mf, .int .i64 mt, .int .i64 mm, .int .i64 mi, .int .i64 mp, .int .i64 mc, .bool mg, .slice la ln lc, .string ms])]).toArray s R :=
  calls_vcL (c := bodyOf Try.f68) (ann := ann_rgiven) la_rgiven (by kernel_rfl) Try.func68 rfl (by kernel_rfl) [.v (.pointer (some ⟨r, 0, none⟩)), .v (.agg #[.int .i64 mk, .int .i64 mf, .int .i64 mt, .int .i64 mm, .int .i64 mi, .int .i64 mp, .int .i64 mc, .bool mg, .slice la ln lc, .string ms])] [] (by rw [Try.ntmps68]; exact Nat.le_of_ble_eq_true rfl) (by kernel_rfl) (by rw [show Try.f68.ntmps = 67 from Try.ntmps68, eq_rgiven]; exact h)
/-- (*lintel/lintelref09.Ballot).rebase -/
def vc_rrebase {W : Type} (π : Prims W) (r : Nat) (i term : Int) (snap : ByteArray) (a : Option Addr) (an ac : Nat) : W :=
  π.unSome (some (Addr.mk r (0 : Nat) none)) fun p0 =>
  π.st (p0.add (6 : Nat)) [(Go.Value.int (IntKind.i64) (i))] <|
  π.unSome (some (Addr.mk r (0 : Nat) none)) fun p1 =>
  π.st (p1.add (7 : Nat)) [(Go.Value.int (IntKind.i64) (term))] <|
  π.unSome (some (Addr.mk r (0 : Nat) none)) fun p2 =>
  π.st (p2.add (8 : Nat)) [(Go.Value.string (snap))] <|
  π.unSome (some (Addr.mk r (0 : Nat) none)) fun p3 =>
  π.st (p3.add (9 : Nat)) [(Go.Value.slice (a) (an) (ac))] <|
  π.unSome (some (Addr.mk r (0 : Nat) none)) fun p4 =>
  π.st (p4.add (26 : Nat)) [(Go.Value.bool (true))] <|
  π.unSome (some (Addr.mk r (0 : Nat) none)) fun p5 =>
  π.st (p5.add (27 : Nat)) [(Go.Value.bool (true))] <|
  π.ret (Go.Value.tuple #[])
def ann_rrebase : Ann := { draws := [], join := [], loop := [] }
def la_rrebase : LA := { ptr := [], ty := [] }
set_option maxRecDepth 100000 in
theorem eq_rrebase {W : Type} (π : Prims W) (r : Nat) (i term : Int) (snap : ByteArray) (a : Option Addr) (an ac : Nat) : bodyL π Try.prog la_rrebase ann_rrebase (mkFr (maskA [] [.v (.pointer (some ⟨r, 0, none⟩)), .v (.int .i64 i), .v (.int .i64 term), .v (.string snap), .v (.slice a an ac)] 0) 32) Try.f69 (bodyOf Try.f69) (mkFr (List.map some [.v (.pointer (some ⟨r, 0, none⟩)), .v (.int .i64 i), .v (.int .i64 term), .v (.string snap), .v (.slice a an ac)]) 32) = vc_rrebase π r i term snap a an ac := by kernel_rfl
theorem ok_rrebase (r : Nat) (i term : Int) (snap : ByteArray) (a : Option Addr) (an ac : Nat) (R : Value → PH → Prop) (s : PH) (h : vc_rrebase (RP Try.prog R) r i term snap a an ac s) : DCalls Try.prog 69 (List.map AV.val [.v (.pointer (some ⟨r, 0, none⟩)), .v (.int .i64 i), .v (.int .i64 term), .v (.string snap), .v (.slice a an ac)]).toArray s R :=
  calls_vcL (c := bodyOf Try.f69) (ann := ann_rrebase) la_rrebase (by kernel_rfl) Try.func69 rfl (by kernel_rfl) [.v (.pointer (some ⟨r, 0, none⟩)), .v (.int .i64 i), .v (.int .i64 term), .v (.string snap), .v (.slice a an ac)] [] (by rw [Try.ntmps69]; exact Nat.le_of_ble_eq_true rfl) (by kernel_rfl) (by rw [show Try.f69.ntmps = 32 from Try.ntmps69, eq_rrebase]; exact h)
/-- (*lintel/lintelref09.Ballot).Cut -/
def vc_rCut {W : Type} (π : Prims W) (r : Nat) (i : Int) (snap : ByteArray) : W :=
  π.join [] (fun J0 =>
    π.unSome (some (Addr.mk r (0 : Nat) none)) fun p1 =>
    π.ld [.int .i64] (p1.add (6 : Nat)) fun ((x2 : Int), _) =>
    π.ite (decide (i ≤ x2)) (
      π.ret (Go.Value.bool (false))
    ) (
      π.unSome (some (Addr.mk r (0 : Nat) none)) fun p3 =>
      π.ld [.int .i64] (p3.add (25 : Nat)) fun ((x4 : Int), _) =>
      π.ite (decide (i > x4)) (
        π.ret (Go.Value.bool (false))
      ) (
        J0 (())
      )
    )
  ) (fun (_) =>
    π.callQ (58 : Nat) #[(Go.Value.pointer (some (Addr.mk r (0 : Nat) none))), (Go.Value.int (IntKind.i64) (i))] (false, [(false, [.int .i64])]) fun (((x5 : Int), _), _) =>
    π.unSome (some (Addr.mk r (0 : Nat) none)) fun p6 =>
    π.ld [.slice] (p6.add (9 : Nat)) fun (((a7 : Option Addr), (n8 : Nat), (c9 : Nat)), _) =>
    π.unSome (some (Addr.mk r (0 : Nat) none)) fun p10 =>
    π.ld [.int .i64] (p10.add (6 : Nat)) fun ((x11 : Int), _) =>
    π.guard ((0 : Int) ≤ IntKind.i64.wrap (i - x11) ∧ IntKind.i64.wrap (i - x11) ≤ (↑n8 : Int) ∧ (↑n8 : Int) ≤ (↑c9 : Int)) <|
    π.nw (Go.Obj.cells #[] (39 : Nat) ((0 : Nat), (0 : Nat))) fun r12 =>
    π.app (39 : Nat) (4 : Nat) (40 : Nat) [(Go.Value.int (IntKind.i64) ((0 : Int))), (Go.Value.int (IntKind.i64) ((0 : Int))), (Go.Value.int (IntKind.i64) ((0 : Int))), (Go.Value.string (ByteArray.mk #[]))] (some (Addr.mk r12 (0 : Nat) none)) ((0 : Nat)) ((0 : Nat)) (Src.sl (if c9 = (IntKind.i64.wrap (i - x11)).toNat then a7 else Option.map (fun x => x.add ((IntKind.i64.wrap (i - x11)).toNat * (4 : Nat))) a7) ((↑n8 : Int).toNat - (IntKind.i64.wrap (i - x11)).toNat)) fun a13 n14 c15 =>
    π.call (69 : Nat) #[(Go.Value.pointer (some (Addr.mk r (0 : Nat) none))), (Go.Value.int (IntKind.i64) (i)), (Go.Value.int (IntKind.i64) (x5)), (Go.Value.string (snap)), (Go.Value.slice (a13) (n14) (c15))] (true, []) fun (_) =>
    π.ret (Go.Value.bool (true))
  )
def ann_rCut : Ann := { draws := [(3, { A := [0, 1, 2, 3, 4, 5, 7, 8, 9, 10, 11, 12, 13, 14, 15, 16, 17], quiet := [4] })], join := [(3, [])], loop := [] }
def la_rCut : LA := { ptr := [], ty := [] }
set_option maxRecDepth 100000 in
theorem eq_rCut {W : Type} (π : Prims W) (r : Nat) (i : Int) (snap : ByteArray) : bodyL π Try.prog la_rCut ann_rCut (mkFr (maskA [] [.v (.pointer (some ⟨r, 0, none⟩)), .v (.int .i64 i), .v (.string snap)] 0) 41) Try.f35 (bodyOf Try.f35) (mkFr (List.map some [.v (.pointer (some ⟨r, 0, none⟩)), .v (.int .i64 i), .v (.string snap)]) 41) = vc_rCut π r i snap := by kernel_rfl
theorem ok_rCut (r : Nat) (i : Int) (snap : ByteArray) (R : Value → PH → Prop) (s : PH) (h : vc_rCut (RP Try.prog R) r i snap s) : DCalls Try.prog 35 (List.map AV.val [.v (.pointer (some ⟨r, 0, none⟩)), .v (.int .i64 i), .v (.string snap)]).toArray s R :=
  calls_vcL (c := bodyOf Try.f35) (ann := ann_rCut) la_rCut (by kernel_rfl) Try.func35 rfl (by kernel_rfl) [.v (.pointer (some ⟨r, 0, none⟩)), .v (.int .i64 i), .v (.string snap)] [] (by rw [Try.ntmps35]; exact Nat.le_of_ble_eq_true rfl) (by kernel_rfl) (by rw [show Try.f35.ntmps = 41 from Try.ntmps35, eq_rCut]; exact h)
/-- (*lintel/lintelref09.Ballot).Delta -/
def vc_rDelta {W : Type} (π : Prims W) (r : Nat) : W :=
  π.unSome (some (Addr.mk r (0 : Nat) none)) fun p0 =>
  π.ld [.bool] (p0.add (26 : Nat)) fun ((b1 : Bool), _) =>
  π.ite (!b1) (
    π.ret (Go.Value.tuple #[(Go.Value.agg #[(Go.Value.int (IntKind.i64) ((0 : Int))), (Go.Value.int (IntKind.i64) ((0 : Int))), (Go.Value.bool (false)), (Go.Value.int (IntKind.i64) ((0 : Int))), (Go.Value.int (IntKind.i64) ((0 : Int))), (Go.Value.string (ByteArray.mk #[])), (Go.Value.int (IntKind.i64) ((0 : Int))), (Go.Value.slice (none) ((0 : Nat)) ((0 : Nat)))]), (Go.Value.bool (false))])
  ) (
    π.unSome (some (Addr.mk r (0 : Nat) none)) fun p2 =>
    π.ld [.int .i64] (p2.add (2 : Nat)) fun ((x3 : Int), _) =>
    π.unSome (some (Addr.mk r (0 : Nat) none)) fun p4 =>
    π.ld [.int .i64] (p4.add (3 : Nat)) fun ((x5 : Int), _) =>
    π.unSome (some (Addr.mk r (0 : Nat) none)) fun p6 =>
    π.ld [.int .i64] (p6.add (28 : Nat)) fun ((x7 : Int), _) =>
    π.join [(true, [.int .i64, .int .i64, .bool, .int .i64, .int .i64, .str, .int .i64, .slice]), (true, [.int .i64, .int .i64, .bool, .int .i64, .int .i64, .str, .int .i64, .slice])] (fun J8 =>
      π.unSome (some (Addr.mk r (0 : Nat) none)) fun p9 =>
      π.ld [.bool] (p9.add (27 : Nat)) fun ((b10 : Bool), _) =>
      π.ite (b10) (
        π.unSome (some (Addr.mk r (0 : Nat) none)) fun p11 =>
        π.ld [.int .i64] (p11.add (6 : Nat)) fun ((x12 : Int), _) =>
        π.unSome (some (Addr.mk r (0 : Nat) none)) fun p13 =>
        π.ld [.int .i64] (p13.add (7 : Nat)) fun ((x14 : Int), _) =>
        π.unSome (some (Addr.mk r (0 : Nat) none)) fun p15 =>
        π.ld [.str] (p15.add (8 : Nat)) fun ((t16 : ByteArray), _) =>
        π.unSome (some (Addr.mk r (0 : Nat) none)) fun p17 =>
        π.ld [.int .i64] (p17.add (6 : Nat)) fun ((x18 : Int), _) =>
        J8 (((0 : Int), (0 : Int), false, (0 : Int), (0 : Int), ByteArray.mk #[], (0 : Int), (none, (0 : Nat), (0 : Nat)), ()), (x3, x5, true, x12, x14, t16, IntKind.i64.wrap (x18 + (1 : Int)), (none, (0 : Nat), (0 : Nat)), ()), ())
      ) (
        J8 (((0 : Int), (0 : Int), false, (0 : Int), (0 : Int), ByteArray.mk #[], (0 : Int), (none, (0 : Nat), (0 : Nat)), ()), (x3, x5, false, (0 : Int), (0 : Int), ByteArray.mk #[], x7, (none, (0 : Nat), (0 : Nat)), ()), ())
      )
    ) (fun (((x19 : Int), (x20 : Int), (b21 : Bool), (x22 : Int), (x23 : Int), (t24 : ByteArray), (x25 : Int), ((a26 : Option Addr), (n27 : Nat), (c28 : Nat)), _), ((x29 : Int), (x30 : Int), (b31 : Bool), (x32 : Int), (x33 : Int), (t34 : ByteArray), (x35 : Int), ((a36 : Option Addr), (n37 : Nat), (c38 : Nat)), _), _) =>
      π.unSome (some (Addr.mk r (0 : Nat) none)) fun p39 =>
      π.ld [.slice] (p39.add (9 : Nat)) fun (((a40 : Option Addr), (n41 : Nat), (c42 : Nat)), _) =>
      π.unSome (some (Addr.mk r (0 : Nat) none)) fun p43 =>
      π.ld [.int .i64] (p43.add (6 : Nat)) fun ((x44 : Int), _) =>
      π.guard ((0 : Int) ≤ IntKind.i64.wrap (IntKind.i64.wrap (x35 - x44) - (1 : Int)) ∧ IntKind.i64.wrap (IntKind.i64.wrap (x35 - x44) - (1 : Int)) ≤ (↑n41 : Int) ∧ (↑n41 : Int) ≤ (↑c42 : Int)) <|
      π.app (39 : Nat) (4 : Nat) (40 : Nat) [(Go.Value.int (IntKind.i64) ((0 : Int))), (Go.Value.int (IntKind.i64) ((0 : Int))), (Go.Value.int (IntKind.i64) ((0 : Int))), (Go.Value.string (ByteArray.mk #[]))] (a36) (n37) (c38) (Src.sl (if c42 = (IntKind.i64.wrap (IntKind.i64.wrap (x35 - x44) - (1 : Int))).toNat then a40 else Option.map (fun x => x.add ((IntKind.i64.wrap (IntKind.i64.wrap (x35 - x44) - (1 : Int))).toNat * (4 : Nat))) a40) ((↑n41 : Int).toNat - (IntKind.i64.wrap (IntKind.i64.wrap (x35 - x44) - (1 : Int))).toNat)) fun a45 n46 c47 =>
      π.unSome (some (Addr.mk r (0 : Nat) none)) fun p48 =>
      π.st (p48.add (26 : Nat)) [(Go.Value.bool (false))] <|
      π.unSome (some (Addr.mk r (0 : Nat) none)) fun p49 =>
      π.st (p49.add (27 : Nat)) [(Go.Value.bool (false))] <|
      π.call (37 : Nat) #[(Go.Value.pointer (some (Addr.mk r (0 : Nat) none)))] (false, [(false, [.int .i64])]) fun (((x50 : Int), _), _) =>
      π.unSome (some (Addr.mk r (0 : Nat) none)) fun p51 =>
      π.st (p51.add (28 : Nat)) [(Go.Value.int (IntKind.i64) (IntKind.i64.wrap (x50 + (1 : Int))))] <|
      π.ret (Go.Value.tuple #[(Go.Value.agg #[(Go.Value.int (IntKind.i64) (x29)), (Go.Value.int (IntKind.i64) (x30)), (Go.Value.bool (b31)), (Go.Value.int (IntKind.i64) (x32)), (Go.Value.int (IntKind.i64) (x33)), (Go.Value.string (t34)), (Go.Value.int (IntKind.i64) (x35)), (Go.Value.slice (a45) (n46) (c47))]), (Go.Value.bool (true))])
    )
  )
def ann_rDelta : Ann := { draws := [(3, { A := [0, 1, 2, 3, 4, 5, 6, 7, 8, 9, 10, 11, 12] }), (10, { A := [0, 1, 2, 3, 4, 5, 6, 7, 8, 9, 10, 11, 12, 13, 14], eag := [16] })], join := [(10, [(2, 53), (4, 53)])], loop := [] }
def la_rDelta : LA := { ptr := [(2, 2, 0), (4, 4, 0), (28, 4, 2), (33, 4, 3), (38, 4, 4), (43, 4, 5), (49, 4, 6), (50, 4, 7), (56, 4, 6), (66, 4, 7)], ty := [(2, 53), (4, 53)] }
set_option maxRecDepth 100000 in
theorem eq_rDelta {W : Type} (π : Prims W) (r : Nat) : bodyL π Try.prog la_rDelta ann_rDelta (mkFr (maskA [] [.v (.pointer (some ⟨r, 0, none⟩))] 0) 80) Try.f18 (bodyOf Try.f18) (mkFr (List.map some [.v (.pointer (some ⟨r, 0, none⟩))]) 80) = vc_rDelta π r := by kernel_rfl
theorem ok_rDelta (r : Nat) (R : Value → PH → Prop) (s : PH) (h : vc_rDelta (RP Try.prog R) r s) : DCalls Try.prog 18 (List.map AV.val [.v (.pointer (some ⟨r, 0, none⟩))]).toArray s R :=
  calls_vcL (c := bodyOf Try.f18) (ann := ann_rDelta) la_rDelta (by kernel_rfl) Try.func18 rfl (by kernel_rfl) [.v (.pointer (some ⟨r, 0, none⟩))] [] (by rw [Try.ntmps18]; exact Nat.le_of_ble_eq_true rfl) (by kernel_rfl) (by rw [show Try.f18.ntmps = 80 from Try.ntmps18, eq_rDelta]; exact h)
end Go.Proofs.Ytfpbiecmobdnnaa
end
section
set_option linter.unusedVariables false
set_option linter.unusedSimpArgs false
set_option maxHeartbeats 1000000
namespace Go.Proofs.Ytfpbiecmobdnnaa
open Fw Go
attribute [-simp] Fw.W.ld_iff Fw.W.st_iff
/-- THE DOCUMENT'S BALLOT: the same plain state; its rows are of five -/
structure RS where
  has : Nat → Bool
  next : Nat → Int
  mat : Nat → Int
abbrev refCells (B : BS) (X : RS) (l o : Tri) : Array Value :=
  #[.int .i64 B.id, .int .i64 B.size, .int .i64 B.term, .int .i64 B.vote, .int .i64 B.role, .int .i64 B.lead, .int .i64 B.base, .int .i64 B.baseTerm, .string B.snap, .slice l.1 l.2.1 l.2.2,
    .bool (X.has 0), .bool (X.has 1), .bool (X.has 2), .bool (X.has 3), .bool (X.has 4), .int .i64 (X.next 0), .int .i64 (X.next 1), .int .i64 (X.next 2), .int .i64 (X.next 3), .int .i64 (X.next 4),
    .int .i64 (X.mat 0), .int .i64 (X.mat 1), .int .i64 (X.mat 2), .int .i64 (X.mat 3), .int .i64 (X.mat 4), .int .i64 B.commit, .bool B.touched, .bool B.whole, .int .i64 B.from_, .slice o.1 o.2.1 o.2.2]
structure Ref (s : PH) (r : Nat) (l o : Tri) (ps : List (Msg × Tri)) (B : BS) (X : RS) : Prop where
  cell : s r = some (.cells (refCells B X l o) 78 (0, 0))
  log : rowE entE s 39 l.1 l.2.1 l.2.2 B.log
  out : Msgs s o ps
/-- the blocks of the document's ballot -/
def rL (r : Nat) (l o : Tri) (ps : List (Msg × Tri)) : List Nat := r :: (Fw.blk l.1 ++ mF o ps)
section
variable {s s' : PH} {r : Nat} {l o : Tri} {ps : List (Msg × Tri)} {B : BS} {X : RS}
theorem Ref.known (h : Ref s r l o ps B X) : ∀ x ∈ rL r l o ps, s x ≠ none := by
  intro x hx
  simp only [rL, List.mem_cons, List.mem_append] at hx
  rcases hx with rfl | hx | hx
  · simp [h.cell]
  · exact h.log.known x hx
  · exact h.out.known x hx
theorem Ref.mod {M : List Nat} (h : Ref s r l o ps B X) (hm : Fw.Mod M s s') (hd : ∀ x ∈ rL r l o ps, x ∉ M) : Ref s' r l o ps B X := by
  simp only [rL, List.mem_cons, List.mem_append] at hd
  exact ⟨hm.at h.cell (hd r (.inl rfl)), h.log.mod hm fun x hx => hd x (.inr (.inl hx)), h.out.mod hm fun x hx => hd x (.inr (.inr hx))⟩
theorem Ref.new (h : Ref s r l o ps B X) (hm : Fw.Mod [] s s') : Ref s' r l o ps B X := h.mod hm (by simp)
/-- its own cells are laid anew -/
theorem refOf {c : Array Value} (hr : s r = some (.cells c 78 (0, 0))) {B' : BS} {X' : RS} {l' o' : Tri} {ps' : List (Msg × Tri)} (h1 : rowE entE s 39 l'.1 l'.2.1 l'.2.2 B'.log) (h2 : Msgs s o' ps')
    {ob : Obj} (ho : ob = .cells (refCells B' X' l' o') 78 (0, 0) := by rfl) : Ref (s.upd r ob) r l' o' ps' B' X' := by
  subst ho
  have hm : Fw.Mod [r] s (s.upd r (.cells (refCells B' X' l' o') 78 (0, 0))) := Mod.upd (by simp)
  refine ⟨PH.upd_same _ _ _, h1.mod hm fun x hx => by simp; rintro rfl; exact row_ne2 h1 hr (by decide) hx, h2.mod hm fun x hx => ?_⟩
  simp only [mF, List.mem_append, List.mem_flatMap] at hx
  simp; rintro rfl
  rcases hx with hx | ⟨p, hp, hx⟩
  · exact row_ne2 h2.row hr (by decide) hx
  · exact row_ne2 (h2.lists p hp) hr (by decide) hx
theorem Ref.lay (h : Ref s r l o ps B X) {B' : BS} {X' : RS} {ob : Obj} (e1 : B'.log = B.log := by rfl) (ho : ob = .cells (refCells B' X' l o) 78 (0, 0) := by rfl) : Ref (s.upd r ob) r l o ps B' X' :=
  refOf h.cell (by rw [e1]; exact h.log) h.out ho
theorem c_rLast (h : Ref s r l o ps B X) (hs : B.Small) : DCalls Try.prog 37 #[bptr r] s fun x s' => x = .int .i64 B.lst ∧ s' = s := by
  refine ok_rLast r _ s ?_
  have hb := h.cell
  have hl := h.log.len
  unfold vc_rLast
  simp [W.ld_at hb]
  rw [hl, hs.last]
def BS.rTerm (B : BS) (i : Int) : Int := if i = B.base then B.baseTerm else if i < B.base ∨ B.lst < i then -1 else ((B.entry i).getD noEnt).term
theorem c_rTermAt (h : Ref s r l o ps B X) (hs : B.Small) {i : Int} (hi : Num i) : DCalls Try.prog 58 #[bptr r, .int .i64 i] s fun x s' => x = .int .i64 (B.rTerm i) ∧ s' = s := by
  refine ok_rTermAt r i _ s ?_
  have hb := h.cell
  unfold vc_rTermAt
  simp [W.ld_at hb, W.br_iff]
  refine ⟨fun h1 => by unfold BS.rTerm; rw [if_pos h1], fun h1 => ⟨fun h2 => by unfold BS.rTerm; rw [if_neg h1, if_pos (.inl h2)], fun h2 => ?_⟩⟩
  refine W.call_of (c_rLast h hs) ?_
  rintro _ _ ⟨rfl, rfl⟩
  refine ⟨((B.lst, ()), ()), rfl, ?_⟩
  simp [W.ld_at hb, W.br_iff]
  refine ⟨fun h3 => by unfold BS.rTerm; rw [if_neg h1, if_pos (.inr h3)], fun h3 => ?_⟩
  obtain ⟨e, he, he'⟩ := BS.entry_in (B := B) (i := i) (by omega) (by omega)
  obtain ⟨g, hg, hhas⟩ := h.log.at he'
  have hn := h.log.len
  obtain ⟨i1, i2⟩ := hi
  obtain ⟨q1, q2, q3⟩ := hs
  obtain ⟨k, hk⟩ : ∃ k : Nat, (i - B.base - 1).toNat = k := ⟨_, rfl⟩
  have hw : IntKind.i64.wrap (IntKind.i64.wrap (i - B.base) - 1) = (k : Int) := by
    unfold BS.lst at h3
    rw [wrap_in (n := i - B.base) (by omega) (by omega), wrap_in (by omega) (by omega)]; omega
  have hlt := (List.getElem?_eq_some_iff.1 he').1
  rw [hk] at hhas hlt
  rw [hg]
  simp [hw]
  refine ⟨by omega, ?_⟩
  refine ld_has_z (A := ⟨g, k * 4, none⟩) hhas (cs := [.int .i64]) (y := (e.term, ())) rfl ?_
  show _ ∧ _
  refine ⟨?_, rfl⟩
  unfold BS.rTerm
  rw [if_neg h1, if_neg (by omega), he]; (first | done | rfl)
theorem rTerm_eq {B : BS} {i : Int} (h : (B.termAt i).2 = true) : B.rTerm i = (B.termAt i).1 := by
  unfold BS.termAt at h ⊢
  unfold BS.rTerm
  split
  · rfl
  · rename_i h1
    rw [if_neg h1] at h
    rw [if_neg]
    intro hc
    rw [B.entry_out (by omega)] at h
    simp at h
def noRS : RS := ⟨fun _ => false, fun _ => 0, fun _ => 0⟩
def rNewPost (id size : Int) (s : PH) (x : Value) (s' : PH) : Prop :=
  (okNew id size ∧ ∃ r, x = .tuple #[bptr r, .bool true] ∧ Ref s' r noTri noTri [] (newBS id size) noRS ∧ Fw.Mod [] s s' ∧ s r = none) ∨ (¬ okNew id size ∧ x = .tuple #[.pointer none, .bool false] ∧ s' = s)
theorem c_rNew (id size : Int) (s : PH) : DCalls Try.prog 13 #[.int .i64 id, .int .i64 size] s (rNewPost id size s) := by
  refine ok_rNew id size _ s ?_
  unfold vc_rNew
  have hno : ¬ okNew id size → rNewPost id size s (.tuple #[.pointer none, .bool false]) s := fun h => .inr ⟨h, rfl, rfl⟩
  simp [W.br_iff]
  refine ⟨fun h => hno (by unfold okNew; omega), fun h1 => ⟨fun h => hno (by unfold okNew; omega), fun h2 => ⟨fun h => hno (by unfold okNew; omega), fun h3 => ⟨fun h => hno (by unfold okNew; omega), fun h4 => ?_⟩⟩⟩⟩
  intro r hr
  exact .inl ⟨by unfold okNew; omega, r, rfl, ⟨PH.upd_same _ _ _, rowE.nil, Msgs.nil _⟩, Mod.new hr, hr⟩
end
end Go.Proofs.Ytfpbiecmobdnnaa
end
section
set_option linter.unusedVariables false
set_option maxHeartbeats 1000000
namespace Go.Proofs.Ytfpbiecmobdnnaa
open Fw Fw.W Go
/-- lintel/lintellaw09.BallotPlays -/
def vc_BallotPlays2 {W : Type} (π : Prims W) (id size : Int) (a : Option Addr) (an ac : Nat) : W :=
  π.join [] (fun J0 =>
    π.call (8 : Nat) #[] (false, [(false, [.bool])]) fun (((b1 : Bool), _), _) =>
    π.ite (!b1) (
      π.call (8 : Nat) #[] (false, [(false, [.bool])]) fun (((b2 : Bool), _), _) =>
      π.ret (Go.Value.bool (b2))
    ) (
      π.call (9 : Nat) #[(Go.Value.slice (a) (an) (ac))] (false, [(false, [.bool])]) fun (((b3 : Bool), _), _) =>
      π.ite (b3) (
        π.call (8 : Nat) #[] (false, [(false, [.bool])]) fun (((b4 : Bool), _), _) =>
        π.ret (Go.Value.bool (b4))
      ) (
        J0 (())
      )
    )
  ) (fun (_) =>
    π.call (7 : Nat) #[(Go.Value.int (IntKind.i64) (id)), (Go.Value.int (IntKind.i64) (size))] (true, [(false, [.ptr]), (false, [.int .i64])]) fun ((p5, _), ((x6 : Int), _), _) =>
    π.call (13 : Nat) #[(Go.Value.int (IntKind.i64) (id)), (Go.Value.int (IntKind.i64) (size))] (true, [(false, [.ptr]), (false, [.bool])]) fun ((p7, _), ((b8 : Bool), _), _) =>
    π.ite (!b8) (
      π.ite (p5.isNone) (
        π.ret (Go.Value.bool (x6 == (1 : Int)))
      ) (
        π.ret (Go.Value.bool (false))
      )
    ) (
      π.join [(false, [.ptr]), (false, [.ptr])] (fun J9 =>
        π.ite (x6 != (0 : Int)) (
          π.ret (Go.Value.bool (false))
        ) (
          π.ite (p5.isNone) (
            π.ret (Go.Value.bool (false))
          ) (
            J9 ((p5, ()), (p7, ()), ())
          )
        )
      ) (fun ((p10, _), (p11, _), _) =>
        π.loop [(false, [.ptr]), (false, [.ptr]), (false, [.slice]), (false, [.int .i64]), (false, [.int .i64])] ((p10, ()), (p11, ()), ((a, an, ac), ()), ((↑an : Int), ()), ((0 : Int), ()), ()) fun ((p13, _), (p14, _), (((a15 : Option Addr), (n16 : Nat), (c17 : Nat)), _), ((x18 : Int), _), ((x19 : Int), _), _) again12 =>
          π.ite (decide (x19 < x18)) (
            π.guard ((0 : Int) ≤ x19 ∧ x19 < (↑n16 : Int)) <|
            π.unSome (a15) fun p20 =>
            π.ld [.int .i64, .int .i64, .int .i64, .str, .int .i64, .int .i64, .int .i64, .int .i64, .int .i64, .int .i64, .int .i64, .bool, .slice, .str] (p20.add (x19.toNat * (14 : Nat))) fun ((x21 : Int), (x22 : Int), (x23 : Int), (t24 : ByteArray), (x25 : Int), (x26 : Int), (x27 : Int), (x28 : Int), (x29 : Int), (x30 : Int), (x31 : Int), (b32 : Bool), ((a33 : Option Addr), (n34 : Nat), (c35 : Nat)), (t36 : ByteArray), _) =>
            π.call (12 : Nat) #[(Go.Value.pointer (p13)), (Go.Value.agg #[(Go.Value.int (IntKind.i64) (x21)), (Go.Value.int (IntKind.i64) (x22)), (Go.Value.int (IntKind.i64) (x23)), (Go.Value.string (t24)), (Go.Value.int (IntKind.i64) (x25)), (Go.Value.int (IntKind.i64) (x26)), (Go.Value.int (IntKind.i64) (x27)), (Go.Value.int (IntKind.i64) (x28)), (Go.Value.int (IntKind.i64) (x29)), (Go.Value.int (IntKind.i64) (x30)), (Go.Value.int (IntKind.i64) (x31)), (Go.Value.bool (b32)), (Go.Value.slice (a33) (n34) (c35)), (Go.Value.string (t36))])] (true, [(false, [.slice]), (false, [.int .i64])]) fun ((((a37 : Option Addr), (n38 : Nat), (c39 : Nat)), _), ((x40 : Int), _), _) =>
            π.call (14 : Nat) #[(Go.Value.pointer (p14)), (Go.Value.agg #[(Go.Value.int (IntKind.i64) (x21)), (Go.Value.int (IntKind.i64) (x22)), (Go.Value.int (IntKind.i64) (x23)), (Go.Value.string (t24)), (Go.Value.int (IntKind.i64) (x25)), (Go.Value.int (IntKind.i64) (x26)), (Go.Value.int (IntKind.i64) (x27)), (Go.Value.int (IntKind.i64) (x28)), (Go.Value.int (IntKind.i64) (x29)), (Go.Value.int (IntKind.i64) (x30)), (Go.Value.int (IntKind.i64) (x31)), (Go.Value.bool (b32)), (Go.Value.slice (a33) (n34) (c35)), (Go.Value.string (t36))])] (true, [(false, [.slice]), (false, [.int .i64])]) fun ((((a41 : Option Addr), (n42 : Nat), (c43 : Nat)), _), ((x44 : Int), _), _) =>
            π.join [(false, [.ptr]), (false, [.ptr]), (true, [.int .i64, .int .i64, .int .i64, .str, .int .i64, .int .i64, .int .i64, .int .i64, .int .i64, .int .i64, .int .i64, .bool, .slice, .str]), (false, [.slice]), (false, [.slice]), (false, [.int .i64]), (false, [.int .i64])] (fun J45 =>
              π.ite (x40 != x44) (
                π.ret (Go.Value.bool (false))
              ) (
                π.call (15 : Nat) #[(Go.Value.slice (a37) (n38) (c39)), (Go.Value.slice (a41) (n42) (c43))] (false, [(false, [.bool])]) fun (((b46 : Bool), _), _) =>
                π.ite (!b46) (
                  π.ret (Go.Value.bool (false))
                ) (
                  π.call (16 : Nat) #[(Go.Value.pointer (p13)), (Go.Value.pointer (p14))] (false, [(false, [.bool])]) fun (((b47 : Bool), _), _) =>
                  π.ite (!b47) (
                    π.ret (Go.Value.bool (false))
                  ) (
                    J45 ((p13, ()), (p14, ()), (x21, x22, x23, t24, x25, x26, x27, x28, x29, x30, x31, b32, (a33, n34, c35), t36, ()), ((a37, n38, c39), ()), ((a15, n16, c17), ()), (x18, ()), (x19, ()), ())
                  )
                )
              )
            ) (fun ((p48, _), (p49, _), ((x50 : Int), (x51 : Int), (x52 : Int), (t53 : ByteArray), (x54 : Int), (x55 : Int), (x56 : Int), (x57 : Int), (x58 : Int), (x59 : Int), (x60 : Int), (b61 : Bool), ((a62 : Option Addr), (n63 : Nat), (c64 : Nat)), (t65 : ByteArray), _), (((a66 : Option Addr), (n67 : Nat), (c68 : Nat)), _), (((a69 : Option Addr), (n70 : Nat), (c71 : Nat)), _), ((x72 : Int), _), ((x73 : Int), _), _) =>
              π.join [(false, [.ptr]), (false, [.ptr]), (false, [.slice]), (false, [.slice]), (false, [.int .i64]), (false, [.int .i64])] (fun J74 =>
                π.ite (x50 == (6 : Int)) (
                  π.call (17 : Nat) #[(Go.Value.pointer (p48))] (true, [(true, [.int .i64, .int .i64, .bool, .int .i64, .int .i64, .str, .int .i64, .slice]), (false, [.bool])]) fun (((x75 : Int), (x76 : Int), (b77 : Bool), (x78 : Int), (x79 : Int), (t80 : ByteArray), (x81 : Int), ((a82 : Option Addr), (n83 : Nat), (c84 : Nat)), _), ((b85 : Bool), _), _) =>
                  π.call (18 : Nat) #[(Go.Value.pointer (p49))] (true, [(true, [.int .i64, .int .i64, .bool, .int .i64, .int .i64, .str, .int .i64, .slice]), (false, [.bool])]) fun (((x86 : Int), (x87 : Int), (b88 : Bool), (x89 : Int), (x90 : Int), (t91 : ByteArray), (x92 : Int), ((a93 : Option Addr), (n94 : Nat), (c95 : Nat)), _), ((b96 : Bool), _), _) =>
                  π.join [(false, [.ptr]), (false, [.ptr]), (false, [.slice]), (true, [.int .i64, .int .i64, .bool, .int .i64, .int .i64, .str, .int .i64, .slice]), (false, [.slice]), (false, [.int .i64]), (false, [.int .i64])] (fun J97 =>
                    π.ite (!b85 == b96) (
                      π.ret (Go.Value.bool (false))
                    ) (
                      π.call (19 : Nat) #[(Go.Value.agg #[(Go.Value.int (IntKind.i64) (x75)), (Go.Value.int (IntKind.i64) (x76)), (Go.Value.bool (b77)), (Go.Value.int (IntKind.i64) (x78)), (Go.Value.int (IntKind.i64) (x79)), (Go.Value.string (t80)), (Go.Value.int (IntKind.i64) (x81)), (Go.Value.slice (a82) (n83) (c84))]), (Go.Value.agg #[(Go.Value.int (IntKind.i64) (x86)), (Go.Value.int (IntKind.i64) (x87)), (Go.Value.bool (b88)), (Go.Value.int (IntKind.i64) (x89)), (Go.Value.int (IntKind.i64) (x90)), (Go.Value.string (t91)), (Go.Value.int (IntKind.i64) (x92)), (Go.Value.slice (a93) (n94) (c95))])] (false, [(false, [.bool])]) fun (((b98 : Bool), _), _) =>
                      π.ite (!b98) (
                        π.ret (Go.Value.bool (false))
                      ) (
                        J97 ((p48, ()), (p49, ()), ((a66, n67, c68), ()), (x75, x76, b77, x78, x79, t80, x81, (a82, n83, c84), ()), ((a69, n70, c71), ()), (x72, ()), (x73, ()), ())
                      )
                    )
                  ) (fun ((p99, _), (p100, _), (((a101 : Option Addr), (n102 : Nat), (c103 : Nat)), _), ((x104 : Int), (x105 : Int), (b106 : Bool), (x107 : Int), (x108 : Int), (t109 : ByteArray), (x110 : Int), ((a111 : Option Addr), (n112 : Nat), (c113 : Nat)), _), (((a114 : Option Addr), (n115 : Nat), (c116 : Nat)), _), ((x117 : Int), _), ((x118 : Int), _), _) =>
                    π.loop [(false, [.ptr]), (false, [.ptr]), (false, [.slice]), (true, [.int .i64, .int .i64, .bool, .int .i64, .int .i64, .str, .int .i64, .slice]), (false, [.slice]), (false, [.int .i64]), (false, [.int .i64]), (false, [.int .i64]), (false, [.int .i64])] ((p99, ()), (p100, ()), ((a101, n102, c103), ()), (x104, x105, b106, x107, x108, t109, x110, (a111, n112, c113), ()), ((a114, n115, c116), ()), (x117, ()), (x118, ()), ((↑n112 : Int), ()), ((0 : Int), ()), ()) fun ((p120, _), (p121, _), (((a122 : Option Addr), (n123 : Nat), (c124 : Nat)), _), ((x125 : Int), (x126 : Int), (b127 : Bool), (x128 : Int), (x129 : Int), (t130 : ByteArray), (x131 : Int), ((a132 : Option Addr), (n133 : Nat), (c134 : Nat)), _), (((a135 : Option Addr), (n136 : Nat), (c137 : Nat)), _), ((x138 : Int), _), ((x139 : Int), _), ((x140 : Int), _), ((x141 : Int), _), _) again119 =>
                      π.ite (decide (x141 < x140)) (
                        π.guard ((0 : Int) ≤ x141 ∧ x141 < (↑n133 : Int)) <|
                        π.unSome (a132) fun p142 =>
                        π.st ((p142.add (x141.toNat * (4 : Nat))).add (3 : Nat)) [(Go.Value.string (ByteArray.mk #[(115 : UInt8), (112 : UInt8), (111 : UInt8), (105 : UInt8), (108 : UInt8), (116 : UInt8)]))] <|
                        again119 ((p120, ()), (p121, ()), ((a122, n123, c124), ()), (x125, x126, b127, x128, x129, t130, x131, (a132, n133, c134), ()), ((a135, n136, c137), ()), (x138, ()), (x139, ()), (x140, ()), (IntKind.i64.wrap (x141 + (1 : Int)), ()), ())
                      ) (
                        J74 ((p120, ()), (p121, ()), ((a122, n123, c124), ()), ((a135, n136, c137), ()), (x138, ()), (x139, ()), ())
                      )
                  )
                ) (
                  J74 ((p48, ()), (p49, ()), ((a66, n67, c68), ()), ((a69, n70, c71), ()), (x72, ()), (x73, ()), ())
                )
              ) (fun ((p143, _), (p144, _), (((a145 : Option Addr), (n146 : Nat), (c147 : Nat)), _), (((a148 : Option Addr), (n149 : Nat), (c150 : Nat)), _), ((x151 : Int), _), ((x152 : Int), _), _) =>
                π.loop [(false, [.ptr]), (false, [.ptr]), (false, [.slice]), (false, [.slice]), (false, [.int .i64]), (false, [.int .i64]), (false, [.int .i64]), (false, [.int .i64])] ((p143, ()), (p144, ()), ((a145, n146, c147), ()), ((a148, n149, c150), ()), (x151, ()), (x152, ()), ((↑n146 : Int), ()), ((0 : Int), ()), ()) fun ((p154, _), (p155, _), (((a156 : Option Addr), (n157 : Nat), (c158 : Nat)), _), (((a159 : Option Addr), (n160 : Nat), (c161 : Nat)), _), ((x162 : Int), _), ((x163 : Int), _), ((x164 : Int), _), ((x165 : Int), _), _) again153 =>
                  π.ite (decide (x165 < x164)) (
                    π.guard ((0 : Int) ≤ x165 ∧ x165 < (↑n157 : Int)) <|
                    π.unSome (a156) fun p166 =>
                    π.ld [.slice] ((p166.add (x165.toNat * (10 : Nat))).add (8 : Nat)) fun (((a167 : Option Addr), (n168 : Nat), (c169 : Nat)), _) =>
                    π.loop [(false, [.ptr]), (false, [.ptr]), (false, [.slice]), (false, [.int .i64]), (false, [.slice]), (false, [.int .i64]), (false, [.int .i64]), (false, [.int .i64]), (false, [.int .i64]), (false, [.int .i64]), (false, [.int .i64])] ((p154, ()), (p155, ()), ((a156, n157, c158), ()), (x165, ()), ((a159, n160, c161), ()), (x162, ()), (x163, ()), (x164, ()), (x165, ()), ((↑n168 : Int), ()), ((0 : Int), ()), ()) fun ((p171, _), (p172, _), (((a173 : Option Addr), (n174 : Nat), (c175 : Nat)), _), ((x176 : Int), _), (((a177 : Option Addr), (n178 : Nat), (c179 : Nat)), _), ((x180 : Int), _), ((x181 : Int), _), ((x182 : Int), _), ((x183 : Int), _), ((x184 : Int), _), ((x185 : Int), _), _) again170 =>
                      π.ite (decide (x185 < x184)) (
                        π.guard ((0 : Int) ≤ x176 ∧ x176 < (↑n174 : Int)) <|
                        π.unSome (a173) fun p186 =>
                        π.ld [.slice] ((p186.add (x176.toNat * (10 : Nat))).add (8 : Nat)) fun (((a187 : Option Addr), (n188 : Nat), (c189 : Nat)), _) =>
                        π.guard ((0 : Int) ≤ x185 ∧ x185 < (↑n188 : Int)) <|
                        π.unSome (a187) fun p190 =>
                        π.st ((p190.add (x185.toNat * (4 : Nat))).add (3 : Nat)) [(Go.Value.string (ByteArray.mk #[(115 : UInt8), (112 : UInt8), (111 : UInt8), (105 : UInt8), (108 : UInt8), (116 : UInt8)]))] <|
                        again170 ((p171, ()), (p172, ()), ((a173, n174, c175), ()), (x176, ()), ((a177, n178, c179), ()), (x180, ()), (x181, ()), (x182, ()), (x183, ()), (x184, ()), (IntKind.i64.wrap (x185 + (1 : Int)), ()), ())
                      ) (
                        again153 ((p171, ()), (p172, ()), ((a173, n174, c175), ()), ((a177, n178, c179), ()), (x180, ()), (x181, ()), (x182, ()), (IntKind.i64.wrap (x183 + (1 : Int)), ()), ())
                      )
                  ) (
                    again12 ((p154, ()), (p155, ()), ((a159, n160, c161), ()), (x162, ()), (IntKind.i64.wrap (x163 + (1 : Int)), ()), ())
                  )
              )
            )
          ) (
            π.call (16 : Nat) #[(Go.Value.pointer (p13)), (Go.Value.pointer (p14))] (false, [(false, [.bool])]) fun (((b191 : Bool), _), _) =>
            π.ret (Go.Value.bool (b191))
          )
      )
    )
  )
def ann_BallotPlays2 : Ann := { draws := [], join := [(3, []), (9, [(7, 23), (9, 46)]), (16, [(7, 23), (9, 46), (12, 34), (13, 42), (57, 22), (58, 3), (59, 3)]), (21, [(7, 23), (9, 46), (13, 42), (17, 53), (57, 22), (58, 3), (59, 3)]), (26, [(7, 23), (9, 46), (13, 42), (57, 22), (58, 3), (59, 3)])], loop := [(10, [(7, 23), (9, 46), (57, 22), (58, 3), (59, 3)]), (22, [(7, 23), (9, 46), (13, 42), (17, 53), (57, 22), (58, 3), (59, 3), (114, 3), (115, 3)]), (27, [(7, 23), (9, 46), (13, 42), (57, 22), (58, 3), (59, 3), (125, 3), (126, 3)]), (30, [(7, 23), (9, 46), (13, 42), (22, 3), (57, 22), (58, 3), (59, 3), (125, 3), (126, 3), (134, 3), (135, 3)])] }
def la_BallotPlays2 : LA := { ptr := [(12, 12, 0), (17, 17, 0), (19, 19, 0), (90, 12, 0), (112, 17, 7), (118, 17, 7)], ty := [(12, 34), (17, 53), (19, 53)] }
set_option maxRecDepth 100000 in
theorem eq_BallotPlays2 {W : Type} (π : Prims W) (id size : Int) (a : Option Addr) (an ac : Nat) : bodyL π Try.prog la_BallotPlays2 ann_BallotPlays2 (mkFr (maskA [] [.v (.int .i64 id), .v (.int .i64 size), .v (.slice a an ac)] 0) 152) Try.f4 (bodyOf Try.f4) (mkFr (List.map some [.v (.int .i64 id), .v (.int .i64 size), .v (.slice a an ac)]) 152) = vc_BallotPlays2 π id size a an ac := by kernel_rfl
theorem ok_BallotPlays2 (id size : Int) (a : Option Addr) (an ac : Nat) (R : Value → PH → Prop) (s : PH) (h : vc_BallotPlays2 (RP Try.prog R) id size a an ac s) : DCalls Try.prog 4 (List.map AV.val [.v (.int .i64 id), .v (.int .i64 size), .v (.slice a an ac)]).toArray s R :=
  calls_vcL (c := bodyOf Try.f4) (ann := ann_BallotPlays2) la_BallotPlays2 (by kernel_rfl) Try.func4 rfl (by kernel_rfl) [.v (.int .i64 id), .v (.int .i64 size), .v (.slice a an ac)] [] (by rw [Try.ntmps4]; exact Nat.le_of_ble_eq_true rfl) (by kernel_rfl) (by rw [show Try.f4.ntmps = 152 from Try.ntmps4, eq_BallotPlays2]; exact h)
/-- lintel/lintellaw09.stands -/
def vc_stands2 {W : Type} (π : Prims W) (b r : Nat) : W :=
  π.call (10 : Nat) #[(Go.Value.pointer (some (Addr.mk b (0 : Nat) none)))] (false, [(true, [.int .i64, .int .i64, .int .i64, .int .i64, .int .i64, .int .i64, .int .i64])]) fun (((x0 : Int), (x1 : Int), (x2 : Int), (x3 : Int), (x4 : Int), (x5 : Int), (x6 : Int), _), _) =>
  π.join [] (fun J7 =>
    π.unSome (some (Addr.mk r (0 : Nat) none)) fun p8 =>
    π.ld [.int .i64] (p8.add (2 : Nat)) fun ((x9 : Int), _) =>
    π.unSome (some (Addr.mk r (0 : Nat) none)) fun p10 =>
    π.ld [.int .i64] (p10.add (3 : Nat)) fun ((x11 : Int), _) =>
    π.unSome (some (Addr.mk r (0 : Nat) none)) fun p12 =>
    π.ld [.int .i64] (p12.add (4 : Nat)) fun ((x13 : Int), _) =>
    π.unSome (some (Addr.mk r (0 : Nat) none)) fun p14 =>
    π.ld [.int .i64] (p14.add (5 : Nat)) fun ((x15 : Int), _) =>
    π.unSome (some (Addr.mk r (0 : Nat) none)) fun p16 =>
    π.ld [.int .i64] (p16.add (6 : Nat)) fun ((x17 : Int), _) =>
    π.unSome (some (Addr.mk r (0 : Nat) none)) fun p18 =>
    π.ld [.int .i64] (p18.add (25 : Nat)) fun ((x19 : Int), _) =>
    π.call (37 : Nat) #[(Go.Value.pointer (some (Addr.mk r (0 : Nat) none)))] (false, [(false, [.int .i64])]) fun (((x20 : Int), _), _) =>
    π.still [.int .i64] (p8.add (2 : Nat)) (x9, ()) <|
    π.still [.int .i64] (p10.add (3 : Nat)) (x11, ()) <|
    π.still [.int .i64] (p12.add (4 : Nat)) (x13, ()) <|
    π.still [.int .i64] (p14.add (5 : Nat)) (x15, ()) <|
    π.still [.int .i64] (p16.add (6 : Nat)) (x17, ()) <|
    π.still [.int .i64] (p18.add (25 : Nat)) (x19, ()) <|
    π.ite (!(x0 == x9 && (x1 == x11 && (x2 == x13 && (x3 == x15 && (x4 == x17 && (x5 == x20 && (x6 == x19 && true)))))))) (
      π.both (
        π.ret (Go.Value.bool (false))
      ) (
        π.ret (Go.Value.bool (false))
      )
    ) (
      π.unSome (some (Addr.mk r (0 : Nat) none)) fun p21 =>
      π.both (
        π.call (20 : Nat) #[(Go.Value.pointer (some (Addr.mk b (0 : Nat) none)))] (false, [(false, [.str])]) fun (((t22 : ByteArray), _), _) =>
        π.ld [.str] (p21.add (8 : Nat)) fun ((t23 : ByteArray), _) =>
        π.ite (!t22.toList == t23.toList) (
          π.ret (Go.Value.bool (false))
        ) (
          J7 (())
        )
      ) (
        π.ld [.str] (p21.add (8 : Nat)) fun ((t24 : ByteArray), _) =>
        π.call (20 : Nat) #[(Go.Value.pointer (some (Addr.mk b (0 : Nat) none)))] (false, [(false, [.str])]) fun (((t25 : ByteArray), _), _) =>
        π.ite (!t25.toList == t24.toList) (
          π.ret (Go.Value.bool (false))
        ) (
          J7 (())
        )
      )
    )
  ) (fun (_) =>
    π.unSome (some (Addr.mk r (0 : Nat) none)) fun p26 =>
    π.ld [.slice] (p26.add (9 : Nat)) fun (((a27 : Option Addr), (n28 : Nat), (c29 : Nat)), _) =>
    π.loop [(false, [.int .i64]), (false, [.int .i64])] (((↑n28 : Int), ()), ((0 : Int), ()), ()) fun (((x31 : Int), _), ((x32 : Int), _), _) again30 =>
      π.ite (decide (x32 < x31)) (
        π.unSome (some (Addr.mk r (0 : Nat) none)) fun p33 =>
        π.ld [.int .i64] (p33.add (6 : Nat)) fun ((x34 : Int), _) =>
        π.call (11 : Nat) #[(Go.Value.pointer (some (Addr.mk b (0 : Nat) none))), (Go.Value.int (IntKind.i64) (IntKind.i64.wrap (IntKind.i64.wrap (x34 + (1 : Int)) + x32)))] (true, [(true, [.int .i64, .int .i64, .int .i64, .str]), (false, [.bool])]) fun (((x35 : Int), (x36 : Int), (x37 : Int), (t38 : ByteArray), _), ((b39 : Bool), _), _) =>
        π.ite (!b39) (
          π.ret (Go.Value.bool (false))
        ) (
          π.unSome (some (Addr.mk r (0 : Nat) none)) fun p40 =>
          π.ld [.slice] (p40.add (9 : Nat)) fun (((a41 : Option Addr), (n42 : Nat), (c43 : Nat)), _) =>
          π.guard ((0 : Int) ≤ x32 ∧ x32 < (↑n42 : Int)) <|
          π.unSome (a41) fun p44 =>
          π.ld [.int .i64, .int .i64, .int .i64, .str] (p44.add (x32.toNat * (4 : Nat))) fun ((x45 : Int), (x46 : Int), (x47 : Int), (t48 : ByteArray), _) =>
          π.ite (!(x35 == x45 && (x36 == x46 && (x37 == x47 && (t38 == t48 && true))))) (
            π.ret (Go.Value.bool (false))
          ) (
            again30 ((x31, ()), (IntKind.i64.wrap (x32 + (1 : Int)), ()), ())
          )
        )
      ) (
        π.unSome (some (Addr.mk r (0 : Nat) none)) fun p49 =>
        π.ld [.int .i64] (p49.add (6 : Nat)) fun ((x50 : Int), _) =>
        π.call (11 : Nat) #[(Go.Value.pointer (some (Addr.mk b (0 : Nat) none))), (Go.Value.int (IntKind.i64) (x50))] (true, [(true, [.int .i64, .int .i64, .int .i64, .str]), (false, [.bool])]) fun (((x51 : Int), (x52 : Int), (x53 : Int), (t54 : ByteArray), _), ((b55 : Bool), _), _) =>
        π.call (37 : Nat) #[(Go.Value.pointer (some (Addr.mk r (0 : Nat) none)))] (false, [(false, [.int .i64])]) fun (((x56 : Int), _), _) =>
        π.call (11 : Nat) #[(Go.Value.pointer (some (Addr.mk b (0 : Nat) none))), (Go.Value.int (IntKind.i64) (IntKind.i64.wrap (x56 + (1 : Int))))] (true, [(true, [.int .i64, .int .i64, .int .i64, .str]), (false, [.bool])]) fun (((x57 : Int), (x58 : Int), (x59 : Int), (t60 : ByteArray), _), ((b61 : Bool), _), _) =>
        π.ite (!b55) (
          π.ret (Go.Value.bool (!b61))
        ) (
          π.ret (Go.Value.bool (false))
        )
      )
  )
def ann_stands2 : Ann := { draws := [(2, { A := [0, 1, 2, 3, 4, 5, 6, 7, 8, 9, 10, 11, 12, 13, 14, 15, 16, 17, 18, 19, 20, 21, 23, 24, 25, 26], chkL := [(22, [0, 4, 8, 12, 16, 20, 26])], eag := [27, 28, 29, 30, 32, 33, 34, 36, 37] }), (8, { A := [0, 1, 2, 3, 4, 5, 6, 7, 8, 9, 10, 11, 12] })], join := [(4, [])], loop := [(5, [(57, 3), (58, 3)])] }
def la_stands2 : LA := { ptr := [(5, 5, 0), (7, 7, 0), (9, 9, 0), (11, 11, 0)], ty := [(5, 36), (7, 39), (9, 39), (11, 39)] }
set_option maxRecDepth 100000 in
theorem eq_stands2 {W : Type} (π : Prims W) (b r : Nat) : bodyL π Try.prog la_stands2 ann_stands2 (mkFr (maskA [] [.v (.pointer (some ⟨b, 0, none⟩)), .v (.pointer (some ⟨r, 0, none⟩))] 0) 110) Try.f16 (bodyOf Try.f16) (mkFr (List.map some [.v (.pointer (some ⟨b, 0, none⟩)), .v (.pointer (some ⟨r, 0, none⟩))]) 110) = vc_stands2 π b r := by kernel_rfl
theorem ok_stands2 (b r : Nat) (R : Value → PH → Prop) (s : PH) (h : vc_stands2 (RP Try.prog R) b r s) : DCalls Try.prog 16 (List.map AV.val [.v (.pointer (some ⟨b, 0, none⟩)), .v (.pointer (some ⟨r, 0, none⟩))]).toArray s R :=
  calls_vcL (c := bodyOf Try.f16) (ann := ann_stands2) la_stands2 (by kernel_rfl) Try.func16 rfl (by kernel_rfl) [.v (.pointer (some ⟨b, 0, none⟩)), .v (.pointer (some ⟨r, 0, none⟩))] [] (by rw [Try.ntmps16]; exact Nat.le_of_ble_eq_true rfl) (by kernel_rfl) (by rw [show Try.f16.ntmps = 110 from Try.ntmps16, eq_stands2]; exact h)
end Go.Proofs.Ytfpbiecmobdnnaa
end
section
set_option linter.unusedVariables false
set_option linter.unusedSimpArgs false
set_option maxHeartbeats 1000000
set_option maxRecDepth 100000
namespace Go.Proofs.Ytfpbiecmobdnnaa
open Fw Go
attribute [-simp] Fw.W.ld_iff Fw.W.st_iff
def dtot (ls : List Dl) : Nat := (ls.map fun D => D.list.length).sum
theorem dtot_take {ls : List Dl} {k : Nat} {D : Dl} (h : ls[k]? = some D) : dtot (ls.take (k + 1)) = dtot (ls.take k) + D.list.length := by
  unfold dtot
  rw [List.take_add_one, h]; simp
theorem dtot_take_le (ls : List Dl) (k : Nat) : dtot (ls.take k) ≤ dtot ls := by
  have := congrArg dtot (List.take_append_drop k ls)
  unfold dtot at this ⊢
  rw [List.map_append, List.sum_append] at this
  omega
theorem drop_at {α : Type} {ls : List α} {k : Nat} {D : α} (h : ls[k]? = some D) : ls.drop k = D :: ls.drop (k + 1) := by
  have hlt := (List.getElem?_eq_some_iff.1 h).1
  have := (List.getElem?_eq_some_iff.1 h).2
  rw [List.drop_eq_getElem_cons hlt, this]
/-- what holds of a ballot that is being loaded -/
structure BS.Lds (B : BS) (id size : Int) (ls : List Dl) (k : Nat) : Prop where
  eq : B.lays (ls.drop k) = (newBS id size).lays ls
  sz : B.size = size
  b0 : 0 ≤ B.base
  b1 : B.base ≤ 2199023255552
  len : B.log.length ≤ dtot (ls.take k)
  rows : B.votes = [] ∧ B.next = [] ∧ B.mat = []
  flags : B.touched = false ∧ B.whole = false
theorem BS.Lds.small {B : BS} {id size : Int} {ls : List Dl} {k : Nat} (h : B.Lds id size ls k) (ht : dtot ls ≤ 1000000) : B.Small := by
  have h1 := dtot_take_le ls k
  have h2 := h.len
  have h3 := h.b1
  exact ⟨h.b0, by omega, by omega⟩
theorem BS.Lds.start (id size : Int) (ls : List Dl) : (newBS id size).Lds id size ls 0 := ⟨rfl, rfl, Int.le_refl _, by show (0 : Int) ≤ _; omega, Nat.zero_le _, ⟨rfl, rfl, rfl⟩, rfl, rfl⟩
theorem BS.Lds.step {B B' : BS} {id size : Int} {ls : List Dl} {k : Nat} {D : Dl} (h : B.Lds id size ls k) (hD : ls[k]? = some D) (hl : B.lay D = some B') : B'.Lds id size ls (k + 1) := by
  have h1 := h.eq
  rw [drop_at hD] at h1
  simp only [BS.lays, hl] at h1
  have h2 := dtot_take hD
  have h3 := h.len
  unfold BS.lay at hl
  split at hl
  · cases hl
  · split at hl
    · split at hl
      · cases hl
      · rename_i hc
        have hF : FAR = 1099511627776 := rfl
        cases hl
        exact ⟨h1, h.sz, by show 0 ≤ D.base; omega, by show D.base ≤ _; omega, by show D.list.length ≤ _; omega, h.rows, h.flags⟩
    · split at hl
      · cases hl
      · cases hl
        refine ⟨h1, h.sz, h.b0, h.b1, ?_, h.rows, h.flags⟩
        show (B.log.take _ ++ D.list).length ≤ _
        rw [List.length_append, List.length_take]; omega
theorem BS.Lds.bad {B : BS} {id size : Int} {ls : List Dl} {k : Nat} {D : Dl} (h : B.Lds id size ls k) (hD : ls[k]? = some D) (hl : B.lay D = none) : BS.loaded id size ls = none := by
  have h1 := h.eq
  rw [drop_at hD] at h1
  simp only [BS.lays, hl] at h1
  unfold BS.loaded; rw [← h1]; (first | done | rfl)
section
variable {s : PH} {a : Option Addr} {an ac : Nat} {ls : List Dl} {id size : Int}
theorem copy_new {K : Option Addr → Nat → Nat → W.T} {xs : List Ent} {src : Src} {k : Nat} (hs : srcIs s 4 src (xs.flatMap entE.f)) (hk : src.len = k) (hn : xs.length = k) (hl : k ≤ 1073741824)
    (hK : ∀ a' c' s', rowE entE s' 39 a' k c' xs → Fw.Mod [] s s' → (∀ y ∈ Fw.blk a', s y = none) → K a' k c' s') :
    W.nw (.cells #[] 39 (0, 0)) (fun r => W.app 39 4 40 [.int .i64 0, .int .i64 0, .int .i64 0, .string ⟨#[]⟩] (some ⟨r, 0, none⟩) 0 0 src K) s := by
  refine W.nw_of fun r s1 hr m1 k1 => ?_
  have hmax : maxLen = 9223372036854775807 := rfl
  have hsrc : srcIs s1 4 src (xs.flatMap entE.f) := by
    cases src with
    | sl a m => cases a with
      | none => exact hs
      | some a => exact ⟨hs.1, hs.2.mono m1.le⟩
    | str b => exact hs
  have hnil : rowE entE s1 39 (some ⟨r, 0, none⟩) 0 0 ([] : List Ent) := ⟨rfl, Nat.le_refl _, Nat.zero_le _, .inr ⟨r, _, rfl, k1, by simp, by simp⟩⟩
  refine app_rowE (E := entE) (k := k) (ys := xs) hnil rfl hsrc hk hn (by omega) (by omega) ?_
  intro a' c' s2 hrow hm
  simp only [List.nil_append, Nat.zero_add] at hrow ⊢
  rcases hm with ⟨rfl, hm⟩ | ⟨g, rfl, hg, hm⟩
  · exact hK _ _ _ hrow (m1.fresh hm (by simp [Fw.blk, hr])) (by simp [Fw.blk, hr])
  · exact hK _ _ _ hrow (m1.trans hm) (by simp [Fw.blk]; exact m1.none hg (by simp))
end
end Go.Proofs.Ytfpbiecmobdnnaa
end
section
set_option linter.unusedVariables false
set_option linter.unusedSimpArgs false
set_option maxHeartbeats 1000000
set_option maxRecDepth 100000
namespace Go.Proofs.Ytfpbiecmobdnnaa
open Fw Go
attribute [-simp] Fw.W.ld_iff Fw.W.st_iff
section
variable {s : PH} {b r : Nat} {l v n m lr o : Tri} {ps : List (Msg × Tri)} {B B' : BS} {X : RS}
theorem c_stands (hB : Bal s b l v n m B) (hR : Ref s r lr o ps B' X) (he : B' = B) (hs : B.Small) (hbs : B.base ≤ 4611686016279904256) : DCalls Try.prog 16 #[bptr b, bptr r] s (ValPost (.bool true) s) := by
  subst he
  refine ok_stands2 b r _ s ?_
  unfold vc_stands2
  simp only [RP_call]
  have hnl := num_lst hs hbs
  obtain ⟨q1, q2, q3⟩ := _root_.id hs
  have hd := lst_def B'
  unfold Num at hnl
  refine W.call_of (c_Stand hB hs) ?_
  rintro _ s1 ⟨rfl, m1⟩
  refine ⟨((B'.term, B'.vote, B'.role, B'.lead, B'.base, B'.lst, B'.commit, ()), ()), rfl, ?_⟩
  have hB1 := hB.new m1
  have hR1 := hR.new m1
  have hr1 := hR1.cell
  simp only [RP_join]
  refine W.join_gen (fun _ s' => s' = s1) ?_ ?_
  · rintro _ s1 rfl
    simp [W.ld_at hr1]
    have hll := hR1.log.len
    refine ⟨fun z s' => ∃ k : Nat, z = (((lr.2.1 : Int), ()), ((k : Int), ()), ()) ∧ k ≤ lr.2.1 ∧ Fw.Mod [] s1 s', fun z _ => lr.2.1 - z.2.1.1.toNat, ⟨0, rfl, Nat.zero_le _, Mod.refl _ _⟩, ?_⟩
    rintro _ s2 ⟨k, rfl, hk, m2⟩
    have hB2 := hB1.new m2
    have hR2 := hR1.new m2
    have hr2 := hR2.cell
    have hwk : IntKind.i64.wrap ((k : Int) + 1) = ((k + 1 : Nat) : Int) := by rw [wrap_in (by omega) (by omega)]; simp
    simp [W.br_iff, W.ld_at hr2]
    refine ⟨fun hlt => ?_, fun hge => ?_⟩
    · have hw1 : IntKind.i64.wrap (IntKind.i64.wrap (B'.base + 1) + (k : Int)) = B'.base + 1 + k := by rw [wrap_in (n := B'.base + 1) (by omega) (by omega), wrap_in (by omega) (by omega)]
      rw [hw1]
      refine W.call_of (c_Entry hB2 hs (i := B'.base + 1 + k) (by unfold Num; omega)) ?_
      rintro _ s3 ⟨rfl, m3⟩
      obtain ⟨e, he, he'⟩ := BS.entry_in (B := B') (i := B'.base + 1 + k) (by omega) (by omega)
      rw [he]
      refine ⟨((e.term, e.at_, e.born, e.text, ()), (true, ()), ()), rfl, ?_⟩
      have hR3 := hR2.new m3
      have hr3 := hR3.cell
      simp [W.ld_at hr3, W.br_iff]
      refine ⟨hlt, ?_⟩
      have hk' : (B'.base + 1 + (k : Int) - B'.base - 1).toNat = k := by omega
      rw [hk'] at he'
      obtain ⟨g, hg, hh⟩ := hR3.log.at he'
      rw [hg]
      simp only [W.unSome_some, add_mk, Nat.zero_add]
      refine ld_has_z hh (cs := [.int .i64, .int .i64, .int .i64, .str]) (y := (e.term, e.at_, e.born, e.text, ())) rfl ?_
      simp [W.br_iff, hwk]
      exact ⟨⟨k + 1, by simp, hlt, m2.trans m3⟩, by omega⟩
    · refine W.call_of (c_Entry hB2 hs (i := B'.base) (by unfold Num; omega)) ?_
      rintro _ s3 ⟨rfl, m3⟩
      rw [BS.entry_out (.inl (Int.le_refl _))]
      refine ⟨((0, 0, 0, ⟨#[]⟩, ()), (false, ()), ()), rfl, ?_⟩
      refine W.call_of (c_rLast (hR2.new m3) hs) ?_
      rintro _ s3 ⟨rfl, rfl⟩
      refine ⟨((B'.lst, ()), ()), rfl, ?_⟩
      have hw1 : IntKind.i64.wrap (B'.lst + 1) = B'.lst + 1 := wrap_in (by omega) (by omega)
      simp only [hw1]
      refine W.call_of (c_Entry (hB2.new m3) hs (i := B'.lst + 1) (by unfold Num; omega)) ?_
      rintro _ s4 ⟨rfl, m4⟩
      rw [BS.entry_out (.inr (by omega))]
      refine ⟨((0, 0, 0, ⟨#[]⟩, ()), (false, ()), ()), rfl, ?_⟩
      simp
      exact ⟨rfl, ((m1.trans m2).trans m3).trans m4⟩
  · intro J hJ
    simp [W.ld_at hr1]
    refine W.call_of (c_rLast hR1 hs) ?_
    rintro _ s1 ⟨rfl, rfl⟩
    refine ⟨((B'.lst, ()), ()), rfl, ?_⟩
    simp [W.still_at hr1, W.ld_at hr1]
    refine ⟨?_, ?_⟩
    · refine W.call_of (c_Snap hB1) ?_
      rintro _ s1 ⟨rfl, rfl⟩
      refine ⟨((B'.snap, ()), ()), rfl, ?_⟩
      simp [W.ld_at hr1]
      exact hJ _ _ rfl
    · refine W.call_of (c_Snap hB1) ?_
      rintro _ s1 ⟨rfl, rfl⟩
      refine ⟨((B'.snap, ()), ()), rfl, ?_⟩
      simp
      exact hJ _ _ rfl
end
end Go.Proofs.Ytfpbiecmobdnnaa
end
section
set_option linter.unusedVariables false
set_option maxHeartbeats 1000000
namespace Go.Proofs.Ytfpbiecmobdnnaa
open Fw Fw.W Go
/-- lintel/lintelref09.Entries -/
def vc_Entries {W : Type} (π : Prims W) (a : Option Addr) (an ac : Nat) (d : Option Addr) (dn dc : Nat) : W :=
  π.ite ((↑an : Int) != (↑dn : Int)) (
    π.ret (Go.Value.bool (false))
  ) (
    π.loop [(false, [.int .i64])] (((0 : Int), ()), ()) fun (((x1 : Int), _), _) again0 =>
      π.ite (decide (x1 < (↑an : Int))) (
        π.guard ((0 : Int) ≤ x1 ∧ x1 < (↑an : Int)) <|
        π.unSome (a) fun p2 =>
        π.ld [.int .i64, .int .i64, .int .i64, .str] (p2.add (x1.toNat * (4 : Nat))) fun ((x3 : Int), (x4 : Int), (x5 : Int), (t6 : ByteArray), _) =>
        π.guard ((0 : Int) ≤ x1 ∧ x1 < (↑dn : Int)) <|
        π.unSome (d) fun p7 =>
        π.ld [.int .i64, .int .i64, .int .i64, .str] (p7.add (x1.toNat * (4 : Nat))) fun ((x8 : Int), (x9 : Int), (x10 : Int), (t11 : ByteArray), _) =>
        π.ite (!(x3 == x8 && (x4 == x9 && (x5 == x10 && (t6 == t11 && true))))) (
          π.ret (Go.Value.bool (false))
        ) (
          again0 ((IntKind.i64.wrap (x1 + (1 : Int)), ()), ())
        )
      ) (
        π.ret (Go.Value.bool (true))
      )
  )
def ann_Entries : Ann := { draws := [(6, { A := [0, 1, 2, 3, 4, 5, 6, 7, 8] })], join := [], loop := [(4, [(5, 3)])] }
def la_Entries : LA := { ptr := [], ty := [] }
set_option maxRecDepth 100000 in
theorem eq_Entries {W : Type} (π : Prims W) (a : Option Addr) (an ac : Nat) (d : Option Addr) (dn dc : Nat) : bodyL π Try.prog la_Entries ann_Entries (mkFr (maskA [] [.v (.slice a an ac), .v (.slice d dn dc)] 0) 26) Try.f39 (bodyOf Try.f39) (mkFr (List.map some [.v (.slice a an ac), .v (.slice d dn dc)]) 26) = vc_Entries π a an ac d dn dc := by kernel_rfl
theorem ok_Entries (a : Option Addr) (an ac : Nat) (d : Option Addr) (dn dc : Nat) (R : Value → PH → Prop) (s : PH) (h : vc_Entries (RP Try.prog R) a an ac d dn dc s) : DCalls Try.prog 39 (List.map AV.val [.v (.slice a an ac), .v (.slice d dn dc)]).toArray s R :=
  calls_vcL (c := bodyOf Try.f39) (ann := ann_Entries) la_Entries (by kernel_rfl) Try.func39 rfl (by kernel_rfl) [.v (.slice a an ac), .v (.slice d dn dc)] [] (by rw [Try.ntmps39]; exact Nat.le_of_ble_eq_true rfl) (by kernel_rfl) (by rw [show Try.f39.ntmps = 26 from Try.ntmps39, eq_Entries]; exact h)
/-- lintel/lintelref09.SameMsg -/
def vc_SameMsg {W : Type} (π : Prims W) (mk mf mt mm mi mp mc : Int) (mg : Bool) (la : Option Addr) (ln lc : Nat) (ms : ByteArray) (nk nf nt nm ni np nc : Int) (ng : Bool) (ka : Option Addr) (kn kc : Nat) (ns : ByteArray) : W :=
  π.nw (Go.Obj.cells #[(Go.Value.int (IntKind.i64) (mk)), (Go.Value.int (IntKind.i64) (mf)), (Go.Value.int (IntKind.i64) (mt)), (Go.Value.int (IntKind.i64) (mm)), (Go.Value.int (IntKind.i64) (mi)), (Go.Value.int (IntKind.i64) (mp)), (Go.Value.int (IntKind.i64) (mc)), (Go.Value.bool (mg)), (Go.Value.slice (la) (ln) (lc)), (Go.Value.string (ms))] (32 : Nat) ((0 : Nat), (0 : Nat))) fun r0 =>
  π.nw (Go.Obj.cells #[(Go.Value.int (IntKind.i64) (nk)), (Go.Value.int (IntKind.i64) (nf)), (Go.Value.int (IntKind.i64) (nt)), (Go.Value.int (IntKind.i64) (nm)), (Go.Value.int (IntKind.i64) (ni)), (Go.Value.int (IntKind.i64) (np)), (Go.Value.int (IntKind.i64) (nc)), (Go.Value.bool (ng)), (Go.Value.slice (ka) (kn) (kc)), (Go.Value.string (ns))] (32 : Nat) ((0 : Nat), (0 : Nat))) fun r1 =>
  π.ld [.int .i64] ((Addr.mk r0 (0 : Nat) none).add (0 : Nat)) fun ((x2 : Int), _) =>
  π.ld [.int .i64] ((Addr.mk r1 (0 : Nat) none).add (0 : Nat)) fun ((x3 : Int), _) =>
  π.ite (x2 == x3) (
    π.ld [.int .i64] ((Addr.mk r0 (0 : Nat) none).add (1 : Nat)) fun ((x4 : Int), _) =>
    π.ld [.int .i64] ((Addr.mk r1 (0 : Nat) none).add (1 : Nat)) fun ((x5 : Int), _) =>
    π.ite (x4 == x5) (
      π.ld [.int .i64] ((Addr.mk r0 (0 : Nat) none).add (2 : Nat)) fun ((x6 : Int), _) =>
      π.ld [.int .i64] ((Addr.mk r1 (0 : Nat) none).add (2 : Nat)) fun ((x7 : Int), _) =>
      π.ite (x6 == x7) (
        π.ld [.int .i64] ((Addr.mk r0 (0 : Nat) none).add (3 : Nat)) fun ((x8 : Int), _) =>
        π.ld [.int .i64] ((Addr.mk r1 (0 : Nat) none).add (3 : Nat)) fun ((x9 : Int), _) =>
        π.ite (x8 == x9) (
          π.ld [.int .i64] ((Addr.mk r0 (0 : Nat) none).add (4 : Nat)) fun ((x10 : Int), _) =>
          π.ld [.int .i64] ((Addr.mk r1 (0 : Nat) none).add (4 : Nat)) fun ((x11 : Int), _) =>
          π.ite (x10 == x11) (
            π.ld [.int .i64] ((Addr.mk r0 (0 : Nat) none).add (5 : Nat)) fun ((x12 : Int), _) =>
            π.ld [.int .i64] ((Addr.mk r1 (0 : Nat) none).add (5 : Nat)) fun ((x13 : Int), _) =>
            π.ite (x12 == x13) (
              π.ld [.int .i64] ((Addr.mk r0 (0 : Nat) none).add (6 : Nat)) fun ((x14 : Int), _) =>
              π.ld [.int .i64] ((Addr.mk r1 (0 : Nat) none).add (6 : Nat)) fun ((x15 : Int), _) =>
              π.ite (x14 == x15) (
                π.ld [.bool] ((Addr.mk r0 (0 : Nat) none).add (7 : Nat)) fun ((b16 : Bool), _) =>
                π.ld [.bool] ((Addr.mk r1 (0 : Nat) none).add (7 : Nat)) fun ((b17 : Bool), _) =>
                π.ite (b16 == b17) (
                  π.ld [.str] ((Addr.mk r0 (0 : Nat) none).add (9 : Nat)) fun ((t18 : ByteArray), _) =>
                  π.ld [.str] ((Addr.mk r1 (0 : Nat) none).add (9 : Nat)) fun ((t19 : ByteArray), _) =>
                  π.ite (t18.toList == t19.toList) (
                    π.ld [.slice] ((Addr.mk r0 (0 : Nat) none).add (8 : Nat)) fun (((a20 : Option Addr), (n21 : Nat), (c22 : Nat)), _) =>
                    π.ld [.slice] ((Addr.mk r1 (0 : Nat) none).add (8 : Nat)) fun (((a23 : Option Addr), (n24 : Nat), (c25 : Nat)), _) =>
                    π.call (39 : Nat) #[(Go.Value.slice (a20) (n21) (c22)), (Go.Value.slice (a23) (n24) (c25))] (false, [(false, [.bool])]) fun (((b26 : Bool), _), _) =>
                    π.ret (Go.Value.bool (b26))
                  ) (
                    π.ret (Go.Value.bool (false))
                  )
                ) (
                  π.ret (Go.Value.bool (false))
                )
              ) (
                π.ret (Go.Value.bool (false))
              )
            ) (
              π.ret (Go.Value.bool (false))
            )
          ) (
            π.ret (Go.Value.bool (false))
          )
        ) (
          π.ret (Go.Value.bool (false))
        )
      ) (
        π.ret (Go.Value.bool (false))
      )
    ) (
      π.ret (Go.Value.bool (false))
    )
  ) (
    π.ret (Go.Value.bool (false))
  )
def ann_SameMsg : Ann := { draws := [], join := [], loop := [] }
def la_SameMsg : LA := { ptr := [], ty := [] }
set_option maxRecDepth 100000 in
theorem eq_SameMsg {W : Type} (π : Prims W) (mk mf mt mm mi mp mc : Int) (mg : Bool) (la : Option Addr) (ln lc : Nat) (ms : ByteArray) (nk nf nt nm ni np nc : Int) (ng : Bool) (ka : Option Addr) (kn kc : Nat) (ns : ByteArray) : bodyL π Try.prog la_SameMsg ann_SameMsg (mkFr (maskA [] [.v (.agg #[.int .i64 mk, .int .i64 mf, .int .i64 mt, .int .i64 mm, .int .i64 mi, .int .i64 mp, .int .i64 mc, .bool mg, .slice la ln lc, .string ms]), .v (.agg #[.int .i64 nk, .int .i64 nf, .int .i64 nt, .int .i64 nm, .int .i64 ni, .int .i64 np, .int .i64 nc, .bool ng, .slice ka kn kc, .string ns])] 0) 73) Try.f36 (bodyOf Try.f36) (mkFr (List.map some [.v (.agg #[.int .i64 mk, .int .i64 mf, .int .i64 mt, .int .i64 mm, .int .i64 mi, .int .i64 mp, .int .i64 mc, .bool mg, .slice la ln lc, .string ms]), .v (.agg #[.int .i64 nk, .int .i64 nf, .int .i64 nt, .int .i64 nm, .int .i64 ni, .int .i64 np, .int .i64 nc, .bool ng, .slice ka kn kc, .string ns])]) 73) = vc_SameMsg π mk mf mt mm mi mp mc mg la ln lc ms nk nf nt nm ni np nc ng ka kn kc ns := by kernel_rfl
theorem ok_SameMsg (mk mf mt mm mi mp mc : Int) (mg : Bool) (la : Option Addr) (ln lc : Nat) (ms : ByteArray) (nk nf nt nm ni np nc : Int) (ng : Bool) (ka : Option Addr) (kn kc : Nat) (ns : ByteArray) (R : Value → PH → Prop) (s : PH) (h : vc_SameMsg (RP Try.prog R) mk mf mt mm mi mp mc mg la ln lc ms nk nf nt nm ni np nc ng ka kn kc ns s) : DCalls Try.prog 36 (List.map AV.val [.v (.agg #[.int .i64 mk, .int .i64 mf, .int .i64 mt, .int .i64 mm, .int .i64 mi, .int .i64 mp, .int .i64 mc, .bool mg, .slice la ln lc, .string ms]), .v (.agg #[.int .i64 nk, .int .i64 nf, .int .i64 nt, .int .i64 nm, .int .i64 ni, .int .i64 np, .int .i64 nc, .bool ng, .slice ka kn kc, .string ns])]).toArray s R :=
  calls_vcL (c := bodyOf Try.f36) (ann := ann_SameMsg) la_SameMsg (by kernel_rfl) Try.func36 rfl (by kernel_rfl) [.v (.agg #[.int .i64 mk, .int .i64 mf, .int .i64 mt, .int .i64 mm, .int .i64 mi, .int .i64 mp, .int .i64 mc, .bool mg, .slice la ln lc, .string ms]), .v (.agg #[.int .i64 nk, .int .i64 nf, .int .i64 nt, .int .i64 nm, .int .i64 ni, .int .i64 np, .int .i64 nc, .bool ng, .slice ka kn kc, .string ns])] [] (by rw [Try.ntmps36]; exact Nat.le_of_ble_eq_true rfl) (by kernel_rfl) (by rw [show Try.f36.ntmps = 73 from Try.ntmps36, eq_SameMsg]; exact h)
/-- lintel/lintelref09.Same -/
def vc_Same {W : Type} (π : Prims W) (a : Option Addr) (an ac : Nat) (d : Option Addr) (dn dc : Nat) : W :=
  π.ite ((↑an : Int) != (↑dn : Int)) (
    π.ret (Go.Value.bool (false))
  ) (
    π.loop [(false, [.int .i64])] (((0 : Int), ()), ()) fun (((x1 : Int), _), _) again0 =>
      π.ite (decide (x1 < (↑an : Int))) (
        π.guard ((0 : Int) ≤ x1 ∧ x1 < (↑an : Int)) <|
        π.unSome (a) fun p2 =>
        π.ld [.int .i64, .int .i64, .int .i64, .int .i64, .int .i64, .int .i64, .int .i64, .bool, .slice, .str] (p2.add (x1.toNat * (10 : Nat))) fun ((x3 : Int), (x4 : Int), (x5 : Int), (x6 : Int), (x7 : Int), (x8 : Int), (x9 : Int), (b10 : Bool), ((a11 : Option Addr), (n12 : Nat), (c13 : Nat)), (t14 : ByteArray), _) =>
        π.guard ((0 : Int) ≤ x1 ∧ x1 < (↑dn : Int)) <|
        π.unSome (d) fun p15 =>
        π.ld [.int .i64, .int .i64, .int .i64, .int .i64, .int .i64, .int .i64, .int .i64, .bool, .slice, .str] (p15.add (x1.toNat * (10 : Nat))) fun ((x16 : Int), (x17 : Int), (x18 : Int), (x19 : Int), (x20 : Int), (x21 : Int), (x22 : Int), (b23 : Bool), ((a24 : Option Addr), (n25 : Nat), (c26 : Nat)), (t27 : ByteArray), _) =>
        π.call (36 : Nat) #[(Go.Value.agg #[(Go.Value.int (IntKind.i64) (x3)), (Go.Value.int (IntKind.i64) (x4)), (Go.Value.int (IntKind.i64) (x5)), (Go.Value.int (IntKind.i64) (x6)), (Go.Value.int (IntKind.i64) (x7)), (Go.Value.int (IntKind.i64) (x8)), (Go.Value.int (IntKind.i64) (x9)), (Go.Value.bool (b10)), (Go.Value.slice (a11) (n12) (c13)), (Go.Value.string (t14))]), (Go.Value.agg #[(Go.Value.int (IntKind.i64) (x16)), (Go.Value.int (IntKind.i64) (x17)), (Go.Value.int (IntKind.i64) (x18)), (Go.Value.int (IntKind.i64) (x19)), (Go.Value.int (IntKind.i64) (x20)), (Go.Value.int (IntKind.i64) (x21)), (Go.Value.int (IntKind.i64) (x22)), (Go.Value.bool (b23)), (Go.Value.slice (a24) (n25) (c26)), (Go.Value.string (t27))])] (false, [(false, [.bool])]) fun (((b28 : Bool), _), _) =>
        π.ite (!b28) (
          π.ret (Go.Value.bool (false))
        ) (
          again0 ((IntKind.i64.wrap (x1 + (1 : Int)), ()), ())
        )
      ) (
        π.ret (Go.Value.bool (true))
      )
  )
def ann_Same : Ann := { draws := [(6, { A := [0, 1, 2, 3, 4, 5, 6, 7], eag := [9] })], join := [], loop := [(4, [(5, 3)])] }
def la_Same : LA := { ptr := [], ty := [] }
set_option maxRecDepth 100000 in
theorem eq_Same {W : Type} (π : Prims W) (a : Option Addr) (an ac : Nat) (d : Option Addr) (dn dc : Nat) : bodyL π Try.prog la_Same ann_Same (mkFr (maskA [] [.v (.slice a an ac), .v (.slice d dn dc)] 0) 27) Try.f15 (bodyOf Try.f15) (mkFr (List.map some [.v (.slice a an ac), .v (.slice d dn dc)]) 27) = vc_Same π a an ac d dn dc := by kernel_rfl
theorem ok_Same (a : Option Addr) (an ac : Nat) (d : Option Addr) (dn dc : Nat) (R : Value → PH → Prop) (s : PH) (h : vc_Same (RP Try.prog R) a an ac d dn dc s) : DCalls Try.prog 15 (List.map AV.val [.v (.slice a an ac), .v (.slice d dn dc)]).toArray s R :=
  calls_vcL (c := bodyOf Try.f15) (ann := ann_Same) la_Same (by kernel_rfl) Try.func15 rfl (by kernel_rfl) [.v (.slice a an ac), .v (.slice d dn dc)] [] (by rw [Try.ntmps15]; exact Nat.le_of_ble_eq_true rfl) (by kernel_rfl) (by rw [show Try.f15.ntmps = 27 from Try.ntmps15, eq_Same]; exact h)
/-- lintel/lintelref09.SameDelta -/
def vc_SameDelta {W : Type} (π : Prims W) (dt dv : Int) (dw : Bool) (db dbt : Int) (ds : ByteArray) (df : Int) (la : Option Addr) (ln lc : Nat) (ct cv : Int) (cw : Bool) (cb cbt : Int) (cs : ByteArray) (cf : Int) (ka : Option Addr) (kn kc : Nat) : W :=
  π.nw (Go.Obj.cells #[(Go.Value.int (IntKind.i64) (dt)), (Go.Value.int (IntKind.i64) (dv)), (Go.Value.bool (dw)), (Go.Value.int (IntKind.i64) (db)), (Go.Value.int (IntKind.i64) (dbt)), (Go.Value.string (ds)), (Go.Value.int (IntKind.i64) (df)), (Go.Value.slice (la) (ln) (lc))] (53 : Nat) ((0 : Nat), (0 : Nat))) fun r0 =>
  π.nw (Go.Obj.cells #[(Go.Value.int (IntKind.i64) (ct)), (Go.Value.int (IntKind.i64) (cv)), (Go.Value.bool (cw)), (Go.Value.int (IntKind.i64) (cb)), (Go.Value.int (IntKind.i64) (cbt)), (Go.Value.string (cs)), (Go.Value.int (IntKind.i64) (cf)), (Go.Value.slice (ka) (kn) (kc))] (53 : Nat) ((0 : Nat), (0 : Nat))) fun r1 =>
  π.ld [.int .i64] ((Addr.mk r0 (0 : Nat) none).add (0 : Nat)) fun ((x2 : Int), _) =>
  π.ld [.int .i64] ((Addr.mk r1 (0 : Nat) none).add (0 : Nat)) fun ((x3 : Int), _) =>
  π.ite (x2 == x3) (
    π.ld [.int .i64] ((Addr.mk r0 (0 : Nat) none).add (1 : Nat)) fun ((x4 : Int), _) =>
    π.ld [.int .i64] ((Addr.mk r1 (0 : Nat) none).add (1 : Nat)) fun ((x5 : Int), _) =>
    π.ite (x4 == x5) (
      π.ld [.bool] ((Addr.mk r0 (0 : Nat) none).add (2 : Nat)) fun ((b6 : Bool), _) =>
      π.ld [.bool] ((Addr.mk r1 (0 : Nat) none).add (2 : Nat)) fun ((b7 : Bool), _) =>
      π.ite (b6 == b7) (
        π.ld [.int .i64] ((Addr.mk r0 (0 : Nat) none).add (3 : Nat)) fun ((x8 : Int), _) =>
        π.ld [.int .i64] ((Addr.mk r1 (0 : Nat) none).add (3 : Nat)) fun ((x9 : Int), _) =>
        π.ite (x8 == x9) (
          π.ld [.int .i64] ((Addr.mk r0 (0 : Nat) none).add (4 : Nat)) fun ((x10 : Int), _) =>
          π.ld [.int .i64] ((Addr.mk r1 (0 : Nat) none).add (4 : Nat)) fun ((x11 : Int), _) =>
          π.ite (x10 == x11) (
            π.ld [.str] ((Addr.mk r0 (0 : Nat) none).add (5 : Nat)) fun ((t12 : ByteArray), _) =>
            π.ld [.str] ((Addr.mk r1 (0 : Nat) none).add (5 : Nat)) fun ((t13 : ByteArray), _) =>
            π.ite (t12.toList == t13.toList) (
              π.ld [.int .i64] ((Addr.mk r0 (0 : Nat) none).add (6 : Nat)) fun ((x14 : Int), _) =>
              π.ld [.int .i64] ((Addr.mk r1 (0 : Nat) none).add (6 : Nat)) fun ((x15 : Int), _) =>
              π.ite (x14 == x15) (
                π.ld [.slice] ((Addr.mk r0 (0 : Nat) none).add (7 : Nat)) fun (((a16 : Option Addr), (n17 : Nat), (c18 : Nat)), _) =>
                π.ld [.slice] ((Addr.mk r1 (0 : Nat) none).add (7 : Nat)) fun (((a19 : Option Addr), (n20 : Nat), (c21 : Nat)), _) =>
                π.call (39 : Nat) #[(Go.Value.slice (a16) (n17) (c18)), (Go.Value.slice (a19) (n20) (c21))] (false, [(false, [.bool])]) fun (((b22 : Bool), _), _) =>
                π.ret (Go.Value.bool (b22))
              ) (
                π.ret (Go.Value.bool (false))
              )
            ) (
              π.ret (Go.Value.bool (false))
            )
          ) (
            π.ret (Go.Value.bool (false))
          )
        ) (
          π.ret (Go.Value.bool (false))
        )
      ) (
        π.ret (Go.Value.bool (false))
      )
    ) (
      π.ret (Go.Value.bool (false))
    )
  ) (
    π.ret (Go.Value.bool (false))
  )
def ann_SameDelta : Ann := { draws := [], join := [], loop := [] }
def la_SameDelta : LA := { ptr := [], ty := [] }
set_option maxRecDepth 100000 in
theorem eq_SameDelta {W : Type} (π : Prims W) (dt dv : Int) (dw : Bool) (db dbt : Int) (ds : ByteArray) (df : Int) (la : Option Addr) (ln lc : Nat) (ct cv : Int) (cw : Bool) (cb cbt : Int) (cs : ByteArray) (cf : Int) (ka : Option Addr) (kn kc : Nat) : bodyL π Try.prog la_SameDelta ann_SameDelta (mkFr (maskA [] [.v (.agg #[.int .i64 dt, .int .i64 dv, .bool dw, .int .i64 db, .int .i64 dbt, .string ds, .int .i64 df, .slice la ln lc]), .v (.agg #[.int .i64 ct, .int .i64 cv, .bool cw, .int .i64 cb, .int .i64 cbt, .string cs, .int .i64 cf, .slice ka kn kc])] 0) 59) Try.f19 (bodyOf Try.f19) (mkFr (List.map some [.v (.agg #[.int .i64 dt, .int .i64 dv, .bool dw, .int .i64 db, .int .i64 dbt, .string ds, .int .i64 df, .slice la ln lc]), .v (.agg #[.int .i64 ct, .int .i64 cv, .bool cw, .int .i64 cb, .int .i64 cbt, .string cs, .int .i64 cf, .slice ka kn kc])]) 59) = vc_SameDelta π dt dv dw db dbt ds df la ln lc ct cv cw cb cbt cs cf ka kn kc := by kernel_rfl
theorem ok_SameDelta (dt dv : Int) (dw : Bool) (db dbt : Int) (ds : ByteArray) (df : Int) (la : Option Addr) (ln lc : Nat) (ct cv : Int) (cw : Bool) (cb cbt : Int) (cs : ByteArray) (cf : Int) (ka : Option Addr) (kn kc : Nat) (R : Value → PH → Prop) (s : PH) (h : vc_SameDelta (RP Try.prog R) dt dv dw db dbt ds df la ln lc ct cv cw cb cbt cs cf ka kn kc s) : DCalls Try.prog 19 (List.map AV.val [.v (.agg #[.int .i64 dt, .int .i64 dv, .bool dw, .int .i64 db, .int .i64 dbt, .string ds, .int .i64 df, .slice la ln lc]), .v (.agg #[.int .i64 ct, .int .i64 cv, .bool cw, .int .i64 cb, .int .i64 cbt, .string cs, .int .i64 cf, .slice ka kn kc])]).toArray s R :=
  calls_vcL (c := bodyOf Try.f19) (ann := ann_SameDelta) la_SameDelta (by kernel_rfl) Try.func19 rfl (by kernel_rfl) [.v (.agg #[.int .i64 dt, .int .i64 dv, .bool dw, .int .i64 db, .int .i64 dbt, .string ds, .int .i64 df, .slice la ln lc]), .v (.agg #[.int .i64 ct, .int .i64 cv, .bool cw, .int .i64 cb, .int .i64 cbt, .string cs, .int .i64 cf, .slice ka kn kc])] [] (by rw [Try.ntmps19]; exact Nat.le_of_ble_eq_true rfl) (by kernel_rfl) (by rw [show Try.f19.ntmps = 59 from Try.ntmps19, eq_SameDelta]; exact h)
/-- lintel/lintellaw09.want -/
def vc_want {W : Type} (π : Prims W) (r : Nat) (ok oa ob : Int) (ot : ByteArray) (mk mf mt mm mi mp mc : Int) (mg : Bool) (la : Option Addr) (ln lc : Nat) (ms : ByteArray) : W :=
  π.nw (Go.Obj.cells #[(Go.Value.int (IntKind.i64) (ok)), (Go.Value.int (IntKind.i64) (oa)), (Go.Value.int (IntKind.i64) (ob)), (Go.Value.string (ot)), (Go.Value.int (IntKind.i64) (mk)), (Go.Value.int (IntKind.i64) (mf)), (Go.Value.int (IntKind.i64) (mt)), (Go.Value.int (IntKind.i64) (mm)), (Go.Value.int (IntKind.i64) (mi)), (Go.Value.int (IntKind.i64) (mp)), (Go.Value.int (IntKind.i64) (mc)), (Go.Value.bool (mg)), (Go.Value.slice (la) (ln) (lc)), (Go.Value.string (ms))] (34 : Nat) ((0 : Nat), (0 : Nat))) fun r0 =>
  π.ld [.int .i64] ((Addr.mk r0 (0 : Nat) none).add (0 : Nat)) fun ((x1 : Int), _) =>
  π.ite (x1 == (1 : Int)) (
    π.call (31 : Nat) #[(Go.Value.pointer (some (Addr.mk r (0 : Nat) none)))] (false, [(false, [.slice])]) fun ((((a2 : Option Addr), (n3 : Nat), (c4 : Nat)), _), _) =>
    π.ret (Go.Value.tuple #[(Go.Value.slice (a2) (n3) (c4)), (Go.Value.int (IntKind.i64) ((0 : Int)))])
  ) (
    π.ite (x1 == (2 : Int)) (
      π.call (32 : Nat) #[(Go.Value.pointer (some (Addr.mk r (0 : Nat) none)))] (false, [(false, [.slice])]) fun ((((a5 : Option Addr), (n6 : Nat), (c7 : Nat)), _), _) =>
      π.ret (Go.Value.tuple #[(Go.Value.slice (a5) (n6) (c7)), (Go.Value.int (IntKind.i64) ((0 : Int)))])
    ) (
      π.ite (x1 == (3 : Int)) (
        π.ld [.int .i64] ((Addr.mk r0 (0 : Nat) none).add (1 : Nat)) fun ((x8 : Int), _) =>
        π.ld [.int .i64] ((Addr.mk r0 (0 : Nat) none).add (2 : Nat)) fun ((x9 : Int), _) =>
        π.ld [.str] ((Addr.mk r0 (0 : Nat) none).add (3 : Nat)) fun ((t10 : ByteArray), _) =>
        π.call (33 : Nat) #[(Go.Value.pointer (some (Addr.mk r (0 : Nat) none))), (Go.Value.int (IntKind.i64) (x8)), (Go.Value.int (IntKind.i64) (x9)), (Go.Value.string (t10))] (true, [(false, [.int .i64]), (false, [.slice])]) fun (((x11 : Int), _), (((a12 : Option Addr), (n13 : Nat), (c14 : Nat)), _), _) =>
        π.ret (Go.Value.tuple #[(Go.Value.slice (a12) (n13) (c14)), (Go.Value.int (IntKind.i64) (x11))])
      ) (
        π.ite (x1 == (4 : Int)) (
          π.ld [.int .i64, .int .i64, .int .i64, .int .i64, .int .i64, .int .i64, .int .i64, .bool, .slice, .str] ((Addr.mk r0 (0 : Nat) none).add (4 : Nat)) fun ((x15 : Int), (x16 : Int), (x17 : Int), (x18 : Int), (x19 : Int), (x20 : Int), (x21 : Int), (b22 : Bool), ((a23 : Option Addr), (n24 : Nat), (c25 : Nat)), (t26 : ByteArray), _) =>
          π.call (34 : Nat) #[(Go.Value.pointer (some (Addr.mk r (0 : Nat) none))), (Go.Value.agg #[(Go.Value.int (IntKind.i64) (x15)), (Go.Value.int (IntKind.i64) (x16)), (Go.Value.int (IntKind.i64) (x17)), (Go.Value.int (IntKind.i64) (x18)), (Go.Value.int (IntKind.i64) (x19)), (Go.Value.int (IntKind.i64) (x20)), (Go.Value.int (IntKind.i64) (x21)), (Go.Value.bool (b22)), (Go.Value.slice (a23) (n24) (c25)), (Go.Value.string (t26))])] (false, [(false, [.slice])]) fun ((((a27 : Option Addr), (n28 : Nat), (c29 : Nat)), _), _) =>
          π.ret (Go.Value.tuple #[(Go.Value.slice (a27) (n28) (c29)), (Go.Value.int (IntKind.i64) ((0 : Int)))])
        ) (
          π.ite (x1 == (5 : Int)) (
            π.ld [.int .i64] ((Addr.mk r0 (0 : Nat) none).add (1 : Nat)) fun ((x30 : Int), _) =>
            π.ld [.str] ((Addr.mk r0 (0 : Nat) none).add (3 : Nat)) fun ((t31 : ByteArray), _) =>
            π.call (35 : Nat) #[(Go.Value.pointer (some (Addr.mk r (0 : Nat) none))), (Go.Value.int (IntKind.i64) (x30)), (Go.Value.string (t31))] (false, [(false, [.bool])]) fun (((b32 : Bool), _), _) =>
            π.ite (b32) (
              π.ret (Go.Value.tuple #[(Go.Value.slice (none) ((0 : Nat)) ((0 : Nat))), (Go.Value.int (IntKind.i64) ((1 : Int)))])
            ) (
              π.ret (Go.Value.tuple #[(Go.Value.slice (none) ((0 : Nat)) ((0 : Nat))), (Go.Value.int (IntKind.i64) ((0 : Int)))])
            )
          ) (
            π.ret (Go.Value.tuple #[(Go.Value.slice (none) ((0 : Nat)) ((0 : Nat))), (Go.Value.int (IntKind.i64) ((0 : Int)))])
          )
        )
      )
    )
  )
def ann_want : Ann := { draws := [], join := [], loop := [] }
def la_want : LA := { ptr := [], ty := [] }
set_option maxRecDepth 100000 in
theorem eq_want {W : Type} (π : Prims W) (r : Nat) (ok oa ob : Int) (ot : ByteArray) (mk mf mt mm mi mp mc : Int) (mg : Bool) (la : Option Addr) (ln lc : Nat) (ms : ByteArray) : bodyL π Try.prog la_want ann_want (mkFr (maskA [] [.v (.pointer (some ⟨r, 0, none⟩)), .v (.agg #[.int .i64 ok, .int .i64 oa, .int .i64 ob, .string ot, .int .i64 mk, .int .i64 mf, .int .i64 mt, .int .i64 mm, .int .i64 mi, .int .i64 mp, .int .i64 mc, .bool mg, .slice la ln lc, .string ms])] 0) 47) Try.f14 (bodyOf Try.f14) (mkFr (List.map some [.v (.pointer (some ⟨r, 0, none⟩)), .v (.agg #[.int .i64 ok, .int .i64 oa, .int .i64 ob, .string ot, .int .i64 mk, .int .i64 mf, .int .i64 mt, .int .i64 mm, .int .i64 mi, .int .i64 mp, .int .i64 mc, .bool mg, .slice la ln lc, .string ms])]) 47) = vc_want π r ok oa ob ot mk mf mt mm mi mp mc mg la ln lc ms := by kernel_rfl
theorem ok_want (r : Nat) (ok oa ob : Int) (ot : ByteArray) (mk mf mt mm mi mp mc : Int) (mg : Bool) (la : Option Addr) (ln lc : Nat) (ms : ByteArray) (R : Value → PH → Prop) (s : PH) (h : vc_want (RP Try.prog R) r ok oa ob ot mk mf mt mm mi mp mc mg la ln lc ms s) : DCalls Try.prog 14 (List.map AV.val [.v (.pointer (some ⟨r, 0, none⟩)), .v (.agg #[.int .i64 ok, .int .i64 oa, .int .i64 ob, .string ot, .int .i64 mk, .int .i64 mf, .int .i64 mt, .int .i64 mm, .int .i64 mi, .int .i64 mp, .int .i64 mc, .bool mg, .slice la ln lc, .string ms])]).toArray s R :=
  calls_vcL (c := bodyOf Try.f14) (ann := ann_want) la_want (by kernel_rfl) Try.func14 rfl (by kernel_rfl) [.v (.pointer (some ⟨r, 0, none⟩)), .v (.agg #[.int .i64 ok, .int .i64 oa, .int .i64 ob, .string ot, .int .i64 mk, .int .i64 mf, .int .i64 mt, .int .i64 mm, .int .i64 mi, .int .i64 mp, .int .i64 mc, .bool mg, .slice la ln lc, .string ms])] [] (by rw [Try.ntmps14]; exact Nat.le_of_ble_eq_true rfl) (by kernel_rfl) (by rw [show Try.f14.ntmps = 47 from Try.ntmps14, eq_want]; exact h)
end Go.Proofs.Ytfpbiecmobdnnaa
end
section
set_option linter.unusedVariables false
set_option linter.unusedSimpArgs false
set_option maxHeartbeats 1000000
set_option maxRecDepth 10000
namespace Go.Proofs.Ytfpbiecmobdnnaa
open Fw Go
attribute [-simp] Fw.W.ld_iff Fw.W.st_iff
/-- the document's ballot amid a piece of work that began at s0 with the blocks L -/
structure RSt (s0 : PH) (L : List Nat) (r : Nat) (s : PH) (B : BS) (X : RS) (ms : List Msg) : Prop where
  ex : ∃ l o ps, Ref s r l o ps B X ∧ ps.map (·.1) = ms ∧ Step L (rL r l o ps) s0 s
section
variable {s0 s s' : PH} {L : List Nat} {r : Nat} {B : BS} {X : RS} {ms : List Msg}
theorem RSt.new (h : RSt s0 L r s B X ms) (hm : Fw.Mod [] s s') : RSt s0 L r s' B X ms := by
  obtain ⟨l, o, ps, h1, h2, h3⟩ := h
  exact ⟨l, o, ps, h1.new hm, h2, h3.mod.trans (hm.mono (by simp)), h3.new⟩
theorem RSt.start {l o : Tri} {ps : List (Msg × Tri)} (h : Ref s r l o ps B X) : RSt s (rL r l o ps) r s B X (ps.map (·.1)) := ⟨l, o, ps, h, rfl, Step.refl _ _⟩
theorem RSt.fresh (h : RSt s0 L r s B X ms) {g : Nat} (hg : s g = none) : g ∈ L ∨ s0 g = none := by
  obtain ⟨l, o, ps, h1, h2, h3⟩ := h
  by_cases e : g ∈ L
  · exact .inl e
  · exact .inr (h3.mod.none hg e)
theorem RSt.quiet {P : Program} {f : FuncId} {args : Array Value} {v : Value} (h : RSt s0 L r s B X ms) (hc : ∀ {l o : Tri} {ps : List (Msg × Tri)}, Ref s r l o ps B X → DCalls P f args s fun x s' => x = v ∧ s' = s) : DCalls P f args s fun x s' => x = v ∧ s' = s := by
  obtain ⟨l, o, ps, h1, _⟩ := h
  exact hc h1
theorem c_rput (h : RSt s0 L r s B X ms) (hs : B.Small) {i : Int} (h1 : B.base < i) (h2 : i ≤ B.lst + 1) {a : Option Addr} {an ac : Nat} {ys : List Ent} (ha : srcIs s 4 (.sl a an) (ys.flatMap entE.f)) (hy : ys.length = an) (hl : an ≤ 1073741824) :
    DCalls Try.prog 62 #[bptr r, .int .i64 i, .slice a an ac] s fun x s' => x = .tuple #[] ∧ RSt s0 L r s' (B.set i ys) X ms := by
  obtain ⟨l, o, ps, hR, hms, st⟩ := h
  refine ok_rput r i a an ac _ s ?_
  unfold vc_rput
  have hb := hR.cell
  obtain ⟨q1, q2, q3⟩ := hs
  have hd := lst_def B
  have hll := hR.log.len
  have hlc := hR.log.le
  have hmax : maxLen = 9223372036854775807 := rfl
  obtain ⟨j, hj⟩ : ∃ j : Nat, (i - B.base - 1).toNat = j := ⟨_, rfl⟩
  have hw1 : IntKind.i64.wrap (IntKind.i64.wrap (i - B.base) - 1) = (j : Int) := by
    rw [wrap_in (n := i - B.base) (by omega) (by omega), wrap_in (by omega) (by omega)]; omega
  simp [W.ld_at hb, hw1, -W.nw_iff]
  refine ⟨by omega, ?_⟩
  refine copy_new (k := j) (hR.log.src_take (m := j) (by omega)) rfl (by rw [List.length_take]; omega) (by omega) ?_
  intro a' c' s3 hrow m3 hf3
  have ha3 : srcIs s3 4 (.sl a an) (ys.flatMap entE.f) := by
    cases a with
    | none => exact ha
    | some a => exact ⟨ha.1, ha.2.mono m3.le⟩
  refine app_rowE (E := entE) (k := an) (ys := ys) hrow rfl ha3 rfl hy (by omega) (by omega) ?_
  intro a2 c2 s4 hrow4 hm4
  have hM : Fw.Mod (Fw.blk a') s3 s4 ∧ ∀ y ∈ Fw.blk a2, s y = none := by
    rcases hm4 with ⟨rfl, m'⟩ | ⟨g, rfl, hg, m'⟩
    · exact ⟨m', hf3⟩
    · exact ⟨m'.mono (by simp), by simp [Fw.blk]; exact m3.none hg (by simp)⟩
  obtain ⟨m4, hfa2⟩ := hM
  have m34 : Fw.Mod [] s s4 := m3.fresh m4 fun y hy => .inr (hf3 y hy)
  have hR4 := hR.new m34
  have k4 := hR4.cell
  have hlay : ∀ {ob : Obj}, ob = .cells (refCells (B.set i ys) X (a2, j + an, c2) o) 78 (0, 0) → RSt s0 L r (s4.upd r ob) (B.set i ys) X ms := fun {ob} ho => by
    refine ⟨(a2, j + an, c2), o, ps, refOf (l' := (a2, j + an, c2)) k4 (by unfold BS.set; rw [hj]; exact hrow4) hR4.out ho, hms, ?_, ?_⟩
    · refine (st.mod.trans (m34.mono (by simp))).updLater (st.new r (by simp [rL]))
    · intro y hy
      simp only [rL, List.mem_cons, List.mem_append] at hy
      rcases hy with rfl | hy | hy
      · exact st.new y (by simp [rL])
      · have := hfa2 y hy
        by_cases e : y ∈ L
        · exact .inl e
        · exact .inr (st.mod.none this e)
      · exact st.new y (by simp [rL, hy])
  simp [W.st_at k4, W.ld_at k4, W.br_iff]
  refine ⟨fun h => hlay ?_, fun h => hlay ?_⟩
  · have : (B.set i ys).from_ = i := by unfold BS.set; dsimp only; rw [if_pos h]
    unfold refCells; rw [this]; (first | done | rfl)
  · have : (B.set i ys).from_ = B.from_ := by unfold BS.set; dsimp only; rw [if_neg (by omega)]
    unfold refCells; rw [this]; (first | done | rfl)
abbrev sentM (B : BS) (M : Msg) : Msg := { M with from_ := B.id, term := B.term }
theorem c_rsend (h : RSt s0 L r s B X ms) (hlen : ms.length ≤ 900) (M : Msg) {t : Tri} (hrow : rowE entE s 39 t.1 t.2.1 t.2.2 M.list) (hf : ∀ y ∈ Fw.blk t.1, y ∈ L ∨ s0 y = none) :
    DCalls Try.prog 57 #[bptr r, msgV M t] s fun x s' => x = .tuple #[] ∧ RSt s0 L r s' B X (ms ++ [sentM B M]) := by
  obtain ⟨l, o, ps, hR, hms, st⟩ := h
  refine ok_rsend r M.kind M.from_ M.to M.term M.index M.prev M.commit M.good t.1 t.2.1 t.2.2 M.snap _ s ?_
  unfold vc_rsend
  have hol : o.2.1 = ps.length := hR.out.row.len
  have hpl : ps.length = ms.length := by rw [← hms, List.length_map]
  simp only [RP_nw]
  refine W.nw_of fun q s1 hq m1 k1 => ?_
  have hR1 := hR.new m1
  have hb := hR1.cell
  have hrq : r ≠ q := ne_of_known hR.cell hq
  have hqr : q ≠ r := hrq.symm
  have m1' : ∀ ob, Fw.Mod [] s (s1.upd q ob) := fun ob => m1.updLater (.inr hq)
  simp [W.ld_at hb, W.st_at k1, -W.nw_iff]
  obtain ⟨s2, hs2⟩ : ∃ s2, s1.upd q (.cells #[.int .i64 M.kind, .int .i64 B.id, .int .i64 M.to, .int .i64 B.term, .int .i64 M.index, .int .i64 M.prev, .int .i64 M.commit, .bool M.good, .slice t.1 t.2.1 t.2.2, .string M.snap] 32 (0, 0)) = s2 := ⟨_, rfl⟩
  have m2 : Fw.Mod [] s s2 := by rw [← hs2]; exact m1' _
  have hb2 : s2 r = some (.cells (refCells B X l o) 78 (0, 0)) := by rw [← hs2]; exact upd_at hb hrq _
  simp [W.ld_at (upd_at hb hrq _), hs2, -W.nw_iff]
  refine W.nw_of fun q2 s3 hq2 m3 k3 => ?_
  have m23 := m2.trans m3
  have hR3 := hR.new m23
  have hmax : maxLen = 9223372036854775807 := rfl
  have hone : Msgs s3 (some ⟨q2, 0, none⟩, 1, 1) [(sentM B M, t)] := ⟨row_one k3 rfl, by intro p hp; simp at hp; subst hp; exact hrow.mod m23 (by simp)⟩
  have hq2f : s q2 = none := m2.none hq2 (by simp)
  have hFr : ∀ {g : Nat}, s g = none → g ∈ L ∨ s0 g = none := fun {g} hg => (RSt.fresh ⟨l, o, ps, hR, hms, st⟩ hg)
  refine app_msgs (t := o) (t' := (some ⟨q2, 0, none⟩, 1, 1)) (fun y => y ∈ L ∨ s0 y = none) (fun g hg => hFr (m23.none hg (by simp))) hR3.out hone (fun y hy => st.new y (by simp [rL, hy])) ?_ ?_ hR3.out.apart (by omega) (by show 1 ≤ 1000; omega) ?_
  · intro y hy
    simp only [mF, List.mem_append, List.mem_flatMap, List.mem_singleton] at hy
    rcases hy with hy | ⟨p, rfl, hy⟩
    · simp [Fw.blk] at hy; subst hy; exact hFr hq2f
    · exact hf y hy
  · intro y hy
    simp only [mF, List.mem_append, List.mem_flatMap, List.mem_singleton] at hy
    rcases hy with hy | ⟨p, rfl, hy⟩
    · simp [Fw.blk] at hy; subst hy
      intro hy2
      exact (hR.out.row.known y hy2) hq2f
    · exact row_ne3 hR3.out.row (hrow.mod m23 (by simp)) (by decide) y hy
  · intro a n c s4 g1 g2 g3
    have hro : r ∉ Fw.blk o.1 := row_ne2 hR3.out.row hR3.cell (by decide)
    have k4 := g3.at hR3.cell hro
    have hlog : rowE entE s4 39 l.1 l.2.1 l.2.2 B.log := hR3.log.mod g3 fun x hx => row_ne3 hR3.out.row hR3.log (by decide) x hx
    simp [W.st_at k4]
    refine ⟨l, (a, n, c), _, refOf (o' := (a, n, c)) k4 hlog g1, by rw [List.map_append, hms]; (first | done | rfl), ?_, ?_⟩
    · have h5 : Fw.Mod L s0 s4 := ((st.mod.trans (m23.mono (by simp))).fresh g3 fun y hy => st.new y (by simp [rL, mF, hy]))
      exact h5.updLater (st.new r (by simp [rL]))
    · intro y hy
      simp only [rL, List.mem_cons, List.mem_append] at hy
      rcases hy with rfl | hy | hy
      · exact st.new y (by simp [rL])
      · exact st.new y (by simp [rL, hy])
      · exact g2 y hy
def SentPost (s0 : PH) (L : List Nat) (r : Nat) (B : BS) (X : RS) (ms : List Msg) (x : Value) (s' : PH) : Prop := ∃ l o ps, x = Tri.v o ∧ Msgs s' o ps ∧ ps.map (·.1) = ms ∧ Ref s' r l noTri [] B X ∧ Step L (rL r l noTri []) s0 s' ∧ ∀ y ∈ mF o ps, y ∈ L ∨ s0 y = none
theorem c_rsent (h : RSt s0 L r s B X ms) : DCalls Try.prog 60 #[bptr r] s (SentPost s0 L r B X ms) := by
  obtain ⟨l, o, ps, hR, hms, st⟩ := h
  refine ok_rsent r _ s ?_
  unfold vc_rsent
  have hb := hR.cell
  simp [W.ld_at hb, W.st_at hb]
  have hm : ∀ ob, Fw.Mod [r] s (s.upd r ob) := fun ob => Mod.upd (by simp)
  refine ⟨l, o, ps, rfl, hR.out.mod (hm _) ?_, hms, refOf (o' := noTri) hb hR.log (Msgs.nil _), ⟨st.mod.updLater (st.new r (by simp [rL])), ?_⟩, fun y hy => st.new y (by simp [rL, hy])⟩
  · intro x hx
    simp only [mF, List.mem_append, List.mem_flatMap] at hx
    simp; rintro rfl
    rcases hx with hx | ⟨p, hp, hx⟩
    · exact row_ne2 hR.out.row hb (by decide) hx
    · exact row_ne2 (hR.out.lists p hp) hb (by decide) hx
  · intro y hy
    simp [rL, mF, Fw.blk] at hy
    rcases hy with rfl | hy
    · exact st.new y (by simp [rL])
    · exact st.new y (by simp [rL, Fw.blk, hy])
theorem app_ent {s : PH} {a : Option Addr} {n c : Nat} {xs : List Ent} {e : Ent} {K : Option Addr → Nat → Nat → W.T} (h : rowE entE s 39 a n c xs) (hn : n ≤ 1000000000) {cs : Array Value} (hc : cs = (entE.f e).toArray)
    (hK : ∀ a' c' s', rowE entE s' 39 a' (n + 1) c' (xs ++ [e]) → (∀ g ∈ Fw.blk a', g ∈ Fw.blk a ∨ s g = none) → Fw.Mod (Fw.blk a) s s' → K a' (n + 1) c' s') :
    W.nw (.cells cs 39 (0, 0)) (fun q => W.app 39 4 40 [.int .i64 0, .int .i64 0, .int .i64 0, .string ⟨#[]⟩] a n c (.sl (some ⟨q, 0, none⟩) 1) K) s := by
  subst hc
  refine W.nw_of fun q s1 hq m1 k1 => ?_
  have hmax : maxLen = 9223372036854775807 := rfl
  have hone : rowE entE s1 39 (some ⟨q, 0, none⟩) 1 1 [e] := row_one k1 rfl
  refine app_rowE (E := entE) (k := 1) (ys := [e]) (h.mod m1 (by simp)) rfl hone.src0 rfl rfl (by omega) (by omega) ?_
  intro a' c' s2 hrow hm
  rcases hm with ⟨rfl, hm⟩ | ⟨g, rfl, hg, hm⟩
  · exact hK _ _ _ hrow (fun g hg => .inl hg) ((m1.mono (by simp)).trans hm)
  · exact hK _ _ _ hrow (by simp [Fw.blk]; exact .inr (m1.none hg (by simp))) ((m1.trans hm).mono (by simp))
theorem ld_nx {l o : Tri} (hb : s r = some (.cells (refCells B X l o) 78 (0, 0))) {k : Nat} (hk : k < 5) {K : Den [.int .i64] → W.T} (hK : K (X.next k, ()) s) {A : Addr} (hA : A = ⟨r, 15 + k, none⟩) : W.ld [.int .i64] A K s := by
  subst hA
  rw [W.ld_at hb]
  refine ⟨(X.next k, ()), ?_, hK⟩
  match k, hk with
  | 0, _ => rfl
  | 1, _ => rfl
  | 2, _ => rfl
  | 3, _ => rfl
  | 4, _ => rfl
theorem ld_mt {l o : Tri} (hb : s r = some (.cells (refCells B X l o) 78 (0, 0))) {k : Nat} (hk : k < 5) {K : Den [.int .i64] → W.T} (hK : K (X.mat k, ()) s) {A : Addr} (hA : A = ⟨r, 20 + k, none⟩) : W.ld [.int .i64] A K s := by
  subst hA
  rw [W.ld_at hb]
  refine ⟨(X.mat k, ()), ?_, hK⟩
  match k, hk with
  | 0, _ => rfl
  | 1, _ => rfl
  | 2, _ => rfl
  | 3, _ => rfl
  | 4, _ => rfl
theorem ld_hs {l o : Tri} (hb : s r = some (.cells (refCells B X l o) 78 (0, 0))) {k : Nat} (hk : k < 5) {K : Den [.bool] → W.T} (hK : K (X.has k, ()) s) {A : Addr} (hA : A = ⟨r, 10 + k, none⟩) : W.ld [.bool] A K s := by
  subst hA
  rw [W.ld_at hb]
  refine ⟨(X.has k, ()), ?_, hK⟩
  match k, hk with
  | 0, _ => rfl
  | 1, _ => rfl
  | 2, _ => rfl
  | 3, _ => rfl
  | 4, _ => rfl
def setF {α : Type} (f : Nat → α) (k : Nat) (x : α) : Nat → α := fun i => if i = k then x else f i
theorem st_nx {l o : Tri} (hb : s r = some (.cells (refCells B X l o) 78 (0, 0))) {k : Nat} (hk : k < 5) {v : Int} {K : W.T} (hK : K (s.upd r (.cells (refCells B { X with next := setF X.next k v } l o) 78 (0, 0)))) {A : Addr} (hA : A = ⟨r, 15 + k, none⟩) : W.st A [.int .i64 v] K s := by
  subst hA
  rw [W.st_at hb]
  refine ⟨?_, by simp, by simp [Value.oneCell'], ?_⟩
  · show 15 + k + 1 ≤ 30; omega
  · match k, hk with
    | 0, _ => exact hK
    | 1, _ => exact hK
    | 2, _ => exact hK
    | 3, _ => exact hK
    | 4, _ => exact hK
theorem st_mt {l o : Tri} (hb : s r = some (.cells (refCells B X l o) 78 (0, 0))) {k : Nat} (hk : k < 5) {v : Int} {K : W.T} (hK : K (s.upd r (.cells (refCells B { X with mat := setF X.mat k v } l o) 78 (0, 0)))) {A : Addr} (hA : A = ⟨r, 20 + k, none⟩) : W.st A [.int .i64 v] K s := by
  subst hA
  rw [W.st_at hb]
  refine ⟨?_, by simp, by simp [Value.oneCell'], ?_⟩
  · show 20 + k + 1 ≤ 30; omega
  · match k, hk with
    | 0, _ => exact hK
    | 1, _ => exact hK
    | 2, _ => exact hK
    | 3, _ => exact hK
    | 4, _ => exact hK
theorem st_hs {l o : Tri} (hb : s r = some (.cells (refCells B X l o) 78 (0, 0))) {k : Nat} (hk : k < 5) {v : Bool} {K : W.T} (hK : K (s.upd r (.cells (refCells B { X with has := setF X.has k v } l o) 78 (0, 0)))) {A : Addr} (hA : A = ⟨r, 10 + k, none⟩) : W.st A [.bool v] K s := by
  subst hA
  rw [W.st_at hb]
  refine ⟨?_, by simp, by simp [Value.oneCell'], ?_⟩
  · show 10 + k + 1 ≤ 30; omega
  · match k, hk with
    | 0, _ => exact hK
    | 1, _ => exact hK
    | 2, _ => exact hK
    | 3, _ => exact hK
    | 4, _ => exact hK
theorem RSt.lay {l o : Tri} {ps : List (Msg × Tri)} (hR : Ref s r l o ps B X) (hms : ps.map (·.1) = ms) (st : Step L (rL r l o ps) s0 s) {B' : BS} {X' : RS} {ob : Obj} (e1 : B'.log = B.log := by rfl) (ho : ob = .cells (refCells B' X' l o) 78 (0, 0) := by rfl) : RSt s0 L r (s.upd r ob) B' X' ms :=
  ⟨l, o, ps, hR.lay e1 ho, hms, ⟨st.mod.updLater (st.new r (by simp [rL])), st.new⟩⟩
def FdZ (B : BS) (nx : Int) (s : PH) (z : MDen [(false, [.int .i64]), (false, [.slice]), (false, [.int .i64])]) (s' : PH) : Prop :=
  ∃ (k : Nat) (t : Tri), z = ((nx, ()), (t, ()), (nx + (k : Int), ()), ()) ∧ k ≤ 8 ∧ nx + k ≤ B.lst + 1 ∧ rowE entE s' 39 t.1 t.2.1 t.2.2 ((B.log.drop (nx - B.base - 1).toNat).take k) ∧ Fw.Mod [] s s' ∧ ∀ g ∈ Fw.blk t.1, s g = none
theorem c_rfeed (h : RSt s0 L r s B X ms) (hs : B.Small) (hbs : B.base ≤ 4611686016279904256) (hlen : ms.length ≤ 800) {to : Nat} (hto : to < 5) (hx : X.next to ≤ B.base ∨ B.base < X.next to ∧ X.next to ≤ B.lst + 1) :
    DCalls Try.prog 72 #[bptr r, .int .i64 to] s fun x s' => x = .tuple #[] ∧ RSt s0 L r s' B X (ms ++ [B.feedM to (X.next to)]) := by
  have h0 := h
  obtain ⟨⟨l1, ln, lc⟩, o, ps, hR, hms, st⟩ := h
  refine ok_rfeed r to _ s ?_
  unfold vc_rfeed
  have hb := hR.cell
  obtain ⟨q1, q2, q3⟩ := _root_.id hs
  have hd := lst_def B
  obtain ⟨nx, hnx⟩ : ∃ nx, X.next to = nx := ⟨_, rfl⟩
  rw [hnx] at hx ⊢
  simp only [RP_ite, RP_unSome, RP_ld, RP_call, RP_callQ, RP_ret, RP_loop, RP_join, RP_nw, RP_app, RP_guard, W.unSome_some]
  refine (W.guard_iff _ _ _).2 ⟨by omega, ?_⟩
  refine ld_nx hb hto ?_ (by simp [add_mk])
  rw [hnx]
  simp only [W.unSome_some, add_mk, Nat.zero_add]
  rw [W.ld_at hb]
  refine ⟨(B.base, ()), rfl, ?_⟩
  refine (W.br_iff _ _ _ _).2 ⟨fun hle => ?_, fun hgt => ?_⟩
  · have hle : nx ≤ B.base := of_decide_eq_true hle
    simp only [W.unSome_some, add_mk, Nat.zero_add]
    rw [W.ld_at hb]
    refine ⟨(B.base, ()), rfl, ?_⟩
    simp only [W.unSome_some, add_mk, Nat.zero_add]
    rw [W.ld_at hb]
    refine ⟨(B.baseTerm, ()), rfl, ?_⟩
    simp only [W.unSome_some, add_mk, Nat.zero_add]
    rw [W.ld_at hb]
    refine ⟨(B.snap, ()), rfl, ?_⟩
    refine W.call_of (c_rsend h0 (by omega) { kind := 5, from_ := 0, to := to, term := 0, index := B.base, prev := B.baseTerm, snap := B.snap } (t := noTri) rowE.nil (by simp [Fw.blk])) ?_
    rintro _ s1 ⟨rfl, h1⟩
    refine ⟨(), rfl, rfl, ?_⟩
    have e : B.feedM to nx = sentM B { kind := 5, from_ := 0, to := to, term := 0, index := B.base, prev := B.baseTerm, snap := B.snap } := by
      unfold BS.feedM; rw [if_pos hle]; (first | done | rfl)
    rw [e]; exact h1
  · have hgt : ¬ nx ≤ B.base := of_decide_eq_false hgt
    have hw1 : IntKind.i64.wrap (nx - 1) = nx - 1 := wrap_in (by omega) (by omega)
    have hw8 : IntKind.i64.wrap (nx + 8) = nx + 8 := wrap_in (by omega) (by omega)
    have hsend : ∀ {s1 : PH} {t : Tri} {k : Nat}, RSt s0 L r s1 B X ms → Fw.Mod [] s s1 → rowE entE s1 39 t.1 t.2.1 t.2.2 ((B.log.drop (nx - B.base - 1).toNat).take k) → (∀ g ∈ Fw.blk t.1, s g = none) → (k = 8 ∨ nx + k = B.lst + 1 ∧ k ≤ 8) →
        DCalls Try.prog 57 #[bptr r, msgV { kind := 3, from_ := 0, to := to, term := 0, index := nx - 1, prev := B.rTerm (nx - 1), commit := B.commit, list := (B.log.drop (nx - B.base - 1).toNat).take k } t] s1 fun x s' => x = .tuple #[] ∧ RSt s0 L r s' B X (ms ++ [B.feedM to nx]) := fun {s1 t k} h1 m1 hrow hf hk => by
      have e : B.feedM to nx = sentM B { kind := 3, from_ := 0, to := to, term := 0, index := nx - 1, prev := B.rTerm (nx - 1), commit := B.commit, list := (B.log.drop (nx - B.base - 1).toNat).take k } := by
        have hl : (B.log.drop (nx - B.base - 1).toNat).take k = (B.log.drop (nx - B.base - 1).toNat).take 8 := by
          rcases hk with rfl | ⟨hk, hk8⟩
          · rfl
          · rw [List.take_of_length_le (by rw [List.length_drop]; omega), List.take_of_length_le (by rw [List.length_drop]; omega)]
        have ht : (B.termAt (nx - 1)).2 = true := by
          unfold BS.termAt
          split
          · rfl
          · obtain ⟨e, he, _⟩ := BS.entry_in (B := B) (i := nx - 1) (by omega) (by omega)
            rw [he]; (first | done | rfl)
        unfold BS.feedM; rw [if_neg hgt, hl, rTerm_eq ht]; (first | done | rfl)
      rw [e]
      exact c_rsend h1 (by omega) _ hrow fun y hy => h0.fresh (hf y hy)
    refine ⟨FdZ B nx s, fun z _ => 8 - (z.2.2.1.1 - nx).toNat, ⟨0, noTri, by simp, by omega, by omega, rowE.nil, Mod.refl _ _, by simp [Fw.blk]⟩, ?_⟩
    rintro _ s1 ⟨k, t, rfl, hk8, hkl, hrow, m1, hf⟩
    have hR1 := hR.new m1
    have h1 := h0.new m1
    have hb1 := hR1.cell
    have hkt : k + 1 ≤ 9 := by omega
    refine W.join_gen (fun z s' => z = ((nx, ()), (t, ()), (nx + (k : Int), ()), ()) ∧ s' = s1 ∧ nx + k ≤ B.lst ∧ k < 8) ?_ ?_
    rotate_left
    · intro J hJ
      refine W.call_of (c_rLast hR1 hs) ?_
      rintro _ _ ⟨rfl, rfl⟩
      refine ⟨((B.lst, ()), ()), rfl, ?_⟩
      dsimp only
      rw [hw8, hw1]
      have hT : Num (nx - 1) := ⟨by omega, by omega⟩
      refine (W.br_iff _ _ _ _).2 ⟨fun e1 => (W.br_iff _ _ _ _).2 ⟨fun e2 => hJ _ _ ⟨rfl, rfl, of_decide_eq_true e1, by have := of_decide_eq_true e2; omega⟩, fun e2 => ?_⟩, fun e1 => ?_⟩
      · have e2 : ¬ nx + (k : Int) < nx + 8 := of_decide_eq_false e2
        refine W.callQ_of ((B.rTerm (nx - 1), ()), ()) (c_rTermAt hR1 hs hT) rfl ?_
        simp only [W.unSome_some, add_mk, Nat.zero_add]
        rw [W.ld_at hb1]
        refine ⟨(B.commit, ()), rfl, ?_⟩
        refine W.call_of (hsend h1 m1 hrow hf (.inl (by omega))) ?_
        rintro _ s2 ⟨rfl, h2⟩
        exact ⟨(), rfl, rfl, h2⟩
      · have e1 : ¬ nx + (k : Int) ≤ B.lst := of_decide_eq_false e1
        refine W.callQ_of ((B.rTerm (nx - 1), ()), ()) (c_rTermAt hR1 hs hT) rfl ?_
        simp only [W.unSome_some, add_mk, Nat.zero_add]
        rw [W.ld_at hb1]
        refine ⟨(B.commit, ()), rfl, ?_⟩
        refine W.call_of (hsend h1 m1 hrow hf (.inr ⟨by omega, hk8⟩)) ?_
        rintro _ s2 ⟨rfl, h2⟩
        exact ⟨(), rfl, rfl, h2⟩
    rintro _ s1 ⟨rfl, rfl, hkl2, hk82⟩
    rename_i s1
    obtain ⟨j, hj⟩ : ∃ j : Nat, (nx - B.base - 1).toNat = j := ⟨_, rfl⟩
    have hwj : IntKind.i64.wrap (IntKind.i64.wrap (nx + (k : Int) - B.base) - 1) = ((j + k : Nat) : Int) := by
      rw [wrap_in (n := nx + (k : Int) - B.base) (by omega) (by omega), wrap_in (by omega) (by omega)]; omega
    have hwk : IntKind.i64.wrap (nx + (k : Int) + 1) = nx + ((k + 1 : Nat) : Int) := by rw [wrap_in (by omega) (by omega)]; omega
    have hll := hR1.log.len
    dsimp only at hll
    obtain ⟨e, he⟩ : ∃ e, B.log[j + k]? = some e := ⟨_, List.getElem?_eq_getElem (by omega)⟩
    obtain ⟨g, hg, hhas⟩ := hR1.log.at he
    dsimp only at hg
    have htl : t.2.1 = k := by
      have := hrow.len
      rw [List.length_take, List.length_drop] at this; omega
    dsimp only
    simp only [W.unSome_some, add_mk, Nat.zero_add]
    rw [W.ld_at hb1]
    refine ⟨((l1, ln, lc), ()), rfl, ?_⟩
    simp only [W.unSome_some, add_mk, Nat.zero_add]
    rw [W.ld_at hb1]
    refine ⟨(B.base, ()), rfl, ?_⟩
    dsimp only
    rw [hwj, hwk]
    refine (W.guard_iff _ _ _).2 ⟨by omega, ?_⟩
    rw [hg]
    simp only [W.unSome_some, add_mk, Nat.zero_add, Int.toNat_natCast]
    have hhas' : s1.has ⟨g, (j + k) * 4, none⟩ (entE.f e) := hhas
    refine ld_has_z hhas' (y := (e.term, e.at_, e.born, e.text, ())) rfl ?_
    refine app_ent (e := e) hrow (by omega) rfl ?_
    intro a' c' s2 hrow2 hg2 m2
    have m12 : Fw.Mod [] s s2 := m1.fresh m2 fun y hy => .inr (hf y hy)
    refine ⟨⟨k + 1, (a', t.2.1 + 1, c'), rfl, by omega, by omega, ?_, m12, fun y hy => ?_⟩, ?_⟩
    · rw [hj] at hrow2 ⊢
      have : (B.log.drop j).take (k + 1) = (B.log.drop j).take k ++ [e] := by
        rw [List.take_add_one, List.getElem?_drop, he]; (first | done | rfl)
      rw [this]; exact hrow2
    · rcases hg2 y hy with h5 | h5
      · exact hf y h5
      · exact m1.none h5 (by simp)
    · show 8 - (nx + ((k + 1 : Nat) : Int) - nx).toNat < 8 - (nx + (k : Int) - nx).toNat
      omega
end
end Go.Proofs.Ytfpbiecmobdnnaa
end
section
set_option linter.unusedVariables false
set_option linter.unusedSimpArgs false
set_option maxHeartbeats 1000000
set_option maxRecDepth 10000
namespace Go.Proofs.Ytfpbiecmobdnnaa
open Fw Go
attribute [-simp] Fw.W.ld_iff Fw.W.st_iff
section
variable {s0 s s' : PH} {L : List Nat} {r : Nat} {B B' : BS} {X : RS} {ms : List Msg}
/-- what lies in memory is told by these alone -/
theorem RSt.as (h : RSt s0 L r s B X ms) (hc : ∀ l o, refCells B' X l o = refCells B X l o := by intro _ _; (first | done | rfl)) (hl : B'.log = B.log := by rfl) : RSt s0 L r s B' X ms := by
  obtain ⟨l, o, ps, h1, h2, h3⟩ := h
  exact ⟨l, o, ps, ⟨by rw [hc]; exact h1.cell, by rw [hl]; exact h1.log, h1.out⟩, h2, h3⟩
theorem others_congr {f g : Nat → Msg} {n : Nat} (h : ∀ k < n, f k = g k) : B.others f n = B.others g n := by
  unfold BS.others
  refine List.map_congr_left fun k hk => ?_
  have := (List.mem_filter.1 hk).1
  exact h k (by simpa using this)
theorem c_rfeedAll (h : RSt s0 L r s B X ms) (hs : B.Small) (hbs : B.base ≤ 4611686016279904256) (hz : 0 ≤ B.size ∧ B.size ≤ 5) (hlen : ms.length ≤ 500) (hx : ∀ k < B.size.toNat, X.next k ≤ B.base ∨ B.base < X.next k ∧ X.next k ≤ B.lst + 1) :
    DCalls Try.prog 61 #[bptr r] s fun x s' => x = .tuple #[] ∧ RSt s0 L r s' B X (ms ++ B.others (fun to => B.feedM to (X.next to)) B.size.toNat) := by
  refine ok_rfeedAll r _ s ?_
  unfold vc_rfeedAll
  simp only [RP_ite, RP_unSome, RP_ld, RP_call, RP_ret, RP_loop]
  refine ⟨fun z s' => ∃ k : Nat, z = (((k : Int), ()), ()) ∧ (k : Int) ≤ B.size ∧ RSt s0 L r s' B X (ms ++ B.others (fun to => B.feedM to (X.next to)) k), fun z _ => B.size.toNat - z.1.1.toNat, ⟨0, rfl, hz.1, by simpa [BS.others] using h⟩, ?_⟩
  rintro _ s1 ⟨k, rfl, hk, h1⟩
  have h1' := h1
  obtain ⟨l, o, ps, hR, hms, st⟩ := h1
  have hb := hR.cell
  have hw : IntKind.i64.wrap ((k : Int) + 1) = ((k + 1 : Nat) : Int) := by rw [wrap_in (by omega) (by omega)]; simp
  have hol := B.others_len (fun to => B.feedM to (X.next to)) k
  simp only [W.unSome_some, add_mk, Nat.zero_add]
  rw [W.ld_at hb]
  refine ⟨(B.size, ()), rfl, ?_⟩
  refine (W.br_iff _ _ _ _).2 ⟨fun hlt => ?_, fun hge => ?_⟩
  · have hlt : (k : Int) < B.size := of_decide_eq_true hlt
    simp only [W.unSome_some, add_mk, Nat.zero_add]
    rw [W.ld_at hb]
    refine ⟨(B.id, ()), rfl, ?_⟩
    dsimp only
    rw [hw]
    refine (W.br_iff _ _ _ _).2 ⟨fun hne => ?_, fun he => ?_⟩
    · have hne : (k : Int) ≠ B.id := by simpa using hne
      refine W.call_of (c_rfeed h1' hs hbs (by rw [List.length_append]; omega) (to := k) (by omega) (hx k (by omega))) ?_
      rintro _ s2 ⟨rfl, h2⟩
      refine ⟨(), rfl, ⟨k + 1, rfl, by omega, ?_⟩, by simp only [Int.toNat_natCast]; omega⟩
      rw [B.others_succ, if_neg hne, ← List.append_assoc]; exact h2
    · have he : (k : Int) = B.id := by simpa using he
      refine ⟨⟨k + 1, rfl, by omega, ?_⟩, by simp only [Int.toNat_natCast]; omega⟩
      rw [B.others_succ, if_pos he]; exact h1'
  · have hge : ¬ (k : Int) < B.size := of_decide_eq_false hge
    have : B.size.toNat = k := by omega
    rw [this]
    exact ⟨rfl, h1'⟩
/-- the rows of five hold what the lists hold -/
structure Mt2 (B : BS) (X : RS) : Prop where
  nx : ∀ k < B.size.toNat, X.next k = B.nx k
  mt : ∀ k < B.size.toNat, X.mat k = B.mt k
structure Mt (B : BS) (X : RS) : Prop where
  has : B.role = 1 → ∀ k < B.size.toNat, X.has k = (B.votes[k]?).getD false
  ld : B.role = 2 → Mt2 B X
theorem fed_rng (hF : B.Fed) (hM : Mt2 B X) : ∀ k < B.size.toNat, X.next k ≤ B.base ∨ B.base < X.next k ∧ X.next k ≤ B.lst + 1 := by
  intro k hk
  obtain ⟨nx, hn⟩ : ∃ nx, B.next[k]? = some nx := ⟨_, List.getElem?_eq_getElem (by rw [hF.len]; exact hk)⟩
  have := hF.rng k nx hn
  rw [hM.nx k hk]
  unfold BS.nx; rw [hn]; exact this
theorem feeds_eq (hM : Mt2 B X) : B.others (fun to => B.feedM to (X.next to)) B.size.toNat = B.feeds :=
  others_congr fun k hk => by rw [hM.nx k hk]; (first | done | rfl)
theorem c_rfeeds (h : RSt s0 L r s B X ms) (hok : B.Ok) (hF : B.Fed) (hM : Mt2 B X) (hlen : ms.length ≤ 500) :
    DCalls Try.prog 61 #[bptr r] s fun x s' => x = .tuple #[] ∧ RSt s0 L r s' B X (ms ++ B.feeds) := by
  have hz := hok.size
  refine (c_rfeedAll h hok.small hok.base ⟨by omega, hz.2⟩ hlen (fed_rng hF hM)).mono ?_
  rintro _ s' ⟨rfl, h1⟩
  rw [feeds_eq hM] at h1
  exact ⟨rfl, h1⟩
theorem rTerm_at (hs : B.Small) {i : Int} (h1 : B.base ≤ i) (h2 : i ≤ B.lst) : B.rTerm i = (B.termAt i).1 := by
  refine rTerm_eq ?_
  unfold BS.termAt
  split
  · rfl
  · obtain ⟨e, he, _⟩ := BS.entry_in (B := B) (i := i) (by omega) h2
    rw [he]; (first | done | rfl)
theorem c_rsettle (h : RSt s0 L r s B X ms) (hok : B.Ok) (hF : B.Fed) (hM : Mt2 B X) (hm : B.mat.length = B.size.toNat) (hlc : B.commit ≤ B.lst) (hlen : ms.length ≤ 500) :
    DCalls Try.prog 63 #[bptr r] s fun x s' => x = .tuple #[] ∧ RSt s0 L r s' B.settled.1 X (ms ++ B.settled.2) := by
  have h0 := h
  obtain ⟨l, o, ps, hR, hms, st⟩ := h
  refine ok_rsettle r _ s ?_
  unfold vc_rsettle
  have hb := hR.cell
  have hs := hok.small
  have hz := hok.size
  have hcom := hok.com
  have hbs := hok.base
  obtain ⟨q1, q2, q3⟩ := _root_.id hs
  have hd := lst_def B
  simp only [RP_ite, RP_unSome, RP_ld, RP_st, RP_call, RP_callQ, RP_ret, RP_loop, RP_guard, W.unSome_some, add_mk, Nat.zero_add]
  rw [W.ld_at hb]
  refine ⟨(B.commit, ()), rfl, ?_⟩
  dsimp only
  rw [show IntKind.i64.wrap (B.commit + 1) = B.commit + 1 from wrap_in (by omega) (by omega)]
  refine ⟨fun z s' => ∃ d : Nat, z = (((B.best d).getD 0, ()), (B.commit + 1 + (d : Int), ()), ()) ∧ B.commit + d ≤ B.lst ∧ s' = s, fun z _ => (B.lst + 1 - z.2.1.1).toNat, ⟨0, by simp [BS.best], by omega, rfl⟩, ?_⟩
  rintro _ s ⟨d, rfl, hdl, rfl⟩
  refine W.call_of (c_rLast hR hs) ?_
  rintro _ _ ⟨rfl, rfl⟩
  rename_i s
  refine ⟨((B.lst, ()), ()), rfl, ?_⟩
  dsimp only
  refine (W.br_iff _ _ _ _).2 ⟨fun hlt => ?_, fun hge => ?_⟩
  · have hlt : B.commit + 1 + (d : Int) ≤ B.lst := of_decide_eq_true hlt
    obtain ⟨i, hi⟩ : ∃ i, B.commit + 1 + (d : Int) = i := ⟨_, rfl⟩
    rw [hi]
    refine ⟨fun z s' => ∃ k : Nat, z = (((B.best d).getD 0, ()), (i, ()), (((1 + B.cnt i k : Nat) : Int), ()), ((k : Int), ()), ()) ∧ (k : Int) ≤ B.size ∧ s' = s, fun z _ => B.size.toNat - z.2.2.2.1.1.toNat, ⟨0, by simp [BS.cnt], by omega, rfl⟩, ?_⟩
    rintro _ s ⟨k, rfl, hk, rfl⟩
    rename_i s
    have hcl := B.cnt_le i k
    have hwc : IntKind.i64.wrap (((1 + B.cnt i k : Nat) : Int) + 1) = ((1 + (B.cnt i k + 1) : Nat) : Int) := by rw [wrap_in (by omega) (by omega)]; omega
    have hw : IntKind.i64.wrap ((k : Int) + 1) = ((k + 1 : Nat) : Int) := by rw [wrap_in (by omega) (by omega)]; simp
    simp only [W.unSome_some, add_mk, Nat.zero_add]
    rw [W.ld_at hb]
    refine ⟨(B.size, ()), rfl, ?_⟩
    refine (W.br_iff _ _ _ _).2 ⟨fun hkl => ?_, fun hkg => ?_⟩
    · have hkl : (k : Int) < B.size := of_decide_eq_true hkl
      have hsucc := B.cnt_succ i k
      have hmk : (B.mat[k]?).getD 0 = X.mat k := (hM.mt k (by omega)).symm
      rw [hmk] at hsucc
      simp only [W.unSome_some, add_mk, Nat.zero_add]
      rw [W.ld_at hb]
      refine ⟨(B.id, ()), rfl, ?_⟩
      dsimp only
      rw [hwc, hw]
      refine (W.br_iff _ _ _ _).2 ⟨fun hne => ?_, fun he => ?_⟩
      · have hne : (k : Int) ≠ B.id := by simpa using hne
        simp only [W.unSome_some, add_mk, Nat.zero_add]
        refine (W.guard_iff _ _ _).2 ⟨by omega, ?_⟩
        refine ld_mt hb (k := k) (by omega) ?_ (by simp)
        refine (W.br_iff _ _ _ _).2 ⟨fun hge => ?_, fun hlt2 => ?_⟩
        · have hge : X.mat k ≥ i := of_decide_eq_true hge
          refine ⟨⟨k + 1, ?_, by omega, rfl⟩, by simp only [Int.toNat_natCast]; omega⟩
          rw [hsucc, if_pos ⟨hne, hge⟩]
        · have hlt2 : ¬ X.mat k ≥ i := of_decide_eq_false hlt2
          refine ⟨⟨k + 1, ?_, by omega, rfl⟩, by simp only [Int.toNat_natCast]; omega⟩
          rw [hsucc, if_neg (fun h => hlt2 h.2)]
      · have he : (k : Int) = B.id := by simpa using he
        refine ⟨⟨k + 1, ?_, by omega, rfl⟩, by simp only [Int.toNat_natCast]; omega⟩
        rw [hsucc, if_neg (fun h => h.1 he)]
    · have hkg : ¬ (k : Int) < B.size := of_decide_eq_false hkg
      have hkm : B.mat.length = k := by omega
      have hw2 : IntKind.i64.wrap (2 * ((1 + B.cnt i k : Nat) : Int)) = 2 * ((1 + B.cnt i k : Nat) : Int) := wrap_in (by omega) (by omega)
      have hwi : IntKind.i64.wrap (i + 1) = B.commit + 1 + ((d + 1 : Nat) : Int) := by rw [wrap_in (by omega) (by omega)]; omega
      have hbest : B.best (d + 1) = if B.wins i then some i else B.best d := by
        show (if B.wins (B.commit + (d + 1 : Nat)) then some (B.commit + (d + 1 : Nat)) else B.best d) = _
        rw [show B.commit + ((d + 1 : Nat) : Int) = i by omega]
      have hwins : B.wins i = (((B.termAt i).1 == B.term) && decide (B.size < 2 * (1 + B.cnt i k : Nat))) := by unfold BS.wins; rw [hkm]
      have hmeas : (B.lst + 1 - (B.commit + 1 + ((d + 1 : Nat) : Int))).toNat < (B.lst + 1 - i).toNat := by omega
      simp only [W.unSome_some, add_mk, Nat.zero_add]
      rw [W.ld_at hb]
      refine ⟨(B.size, ()), rfl, ?_⟩
      dsimp only
      rw [hw2, hwi]
      refine (W.br_iff _ _ _ _).2 ⟨fun hgt => ?_, fun hng => ?_⟩
      · have hgt : 2 * ((1 + B.cnt i k : Nat) : Int) > B.size := of_decide_eq_true hgt
        refine W.callQ_of ((B.rTerm i, ()), ()) (c_rTermAt hR hs ⟨by omega, by omega⟩) rfl ?_
        rw [rTerm_at hs (by omega) (by omega)]
        simp only [W.unSome_some, add_mk, Nat.zero_add]
        rw [W.ld_at hb]
        refine ⟨(B.term, ()), rfl, ?_⟩
        dsimp only
        refine (W.br_iff _ _ _ _).2 ⟨fun ht => ?_, fun ht => ?_⟩
        · refine ⟨⟨d + 1, ?_, by omega, rfl⟩, hmeas⟩
          have e : B.wins i = true := by
            rw [hwins, ht]; simp; omega
          rw [hbest, e]; (first | done | rfl)
        · refine ⟨⟨d + 1, ?_, by omega, rfl⟩, hmeas⟩
          have e : B.wins i = false := by rw [hwins, ht]; (first | done | rfl)
          rw [hbest, e]; (first | done | rfl)
      · have hng : ¬ 2 * ((1 + B.cnt i k : Nat) : Int) > B.size := of_decide_eq_false hng
        refine ⟨⟨d + 1, ?_, by omega, rfl⟩, hmeas⟩
        have e : B.wins i = false := by
          rw [hwins]; simp; intro _; omega
        rw [hbest, e]; (first | done | rfl)
  · have hge : ¬ B.commit + 1 + (d : Int) ≤ B.lst := of_decide_eq_false hge
    have hdd : (B.lst - B.commit).toNat = d := by omega
    cases hbd : B.best d with
    | none =>
      have hset : B.settled = (B, []) := by unfold BS.settled; rw [hdd, hbd]
      refine (W.br_iff _ _ _ _).2 ⟨fun e => absurd (of_decide_eq_true e) (by show ¬ ((0 : Int) > 0); omega), fun _ => ?_⟩
      rw [hset]
      refine ⟨rfl, ?_⟩
      rw [List.append_nil]; exact h0
    | some i =>
      have hset : B.settled = ({ B with commit := i }, { B with commit := i }.feeds) := by unfold BS.settled; rw [hdd, hbd]
      have hin := best_in B d i hbd
      refine (W.br_iff _ _ _ _).2 ⟨fun _ => ?_, fun e => ?_⟩
      · simp only [W.unSome_some, add_mk, Nat.zero_add]
        rw [W.st_at hb]
        refine ⟨by show 25 + 1 ≤ 30; omega, by simp, by simp [Value.oneCell'], ?_⟩
        have h2 : RSt s0 L r (s.upd r (.cells (refCells { B with commit := i } X l o) 78 (0, 0))) { B with commit := i } X ms := RSt.lay hR hms st
        have hok2 : ({ B with commit := i } : BS).Ok := ⟨⟨q1, q2, q3⟩, hbs, hz, hok.id, by show B.base ≤ i; omega⟩
        refine W.call_of (c_rfeeds h2 hok2 ⟨hF.len, hF.rng⟩ ⟨hM.nx, hM.mt⟩ hlen) ?_
        rintro _ s2 ⟨rfl, h3⟩
        rw [hset]
        exact ⟨(), rfl, rfl, h3⟩
      · have e : ¬ (i > 0) := of_decide_eq_false e
        omega
end
end Go.Proofs.Ytfpbiecmobdnnaa
end
section
set_option linter.unusedVariables false
set_option linter.unusedSimpArgs false
set_option maxHeartbeats 1000000
set_option maxRecDepth 10000
namespace Go.Proofs.Ytfpbiecmobdnnaa
open Fw Go
attribute [-simp] Fw.W.ld_iff Fw.W.st_iff
section
variable {s0 s s' : PH} {L : List Nat} {r : Nat} {B B' : BS} {X X' : RS} {ms : List Msg} {l o : Tri} {ps : List (Msg × Tri)}
theorem st_ref (hR : Ref s r l o ps B X) (st : Step L (rL r l o ps) s0 s) {off : Nat} {v : Value} (hc : setL (refCells B X l o) off [v] = refCells B' X' l o) (hlt : off + 1 ≤ 30) (h1 : v.oneCell' = true) (hl : B'.log = B.log) {K : W.T}
    (hK : ∀ s', Ref s' r l o ps B' X' → Step L (rL r l o ps) s0 s' → K s') : W.st ⟨r, off, none⟩ [v] K s := by
  rw [W.st_at hR.cell]
  refine ⟨hlt, by simp, by simpa using h1, ?_⟩
  rw [hc]
  exact hK _ (hR.lay hl) ⟨st.mod.updLater (st.new r (by simp [rL])), st.new⟩
theorem ld_ref (hR : Ref s r l o ps B X) {t : CT} {cs : List CT} {off : Nat} {y : Den (t :: cs)} (hy : (rdL (refCells B X l o) off (cs.length + 1)).bind (unvals (t :: cs)) = some y) {K : Den (t :: cs) → W.T} (hK : K y s) : W.ld (t :: cs) ⟨r, off, none⟩ K s := by
  rw [W.ld_at hR.cell]
  exact ⟨y, hy, hK⟩
theorem RSt.of (hR : Ref s r l o ps B X) (hms : ps.map (·.1) = ms) (st : Step L (rL r l o ps) s0 s) : RSt s0 L r s B X ms := ⟨l, o, ps, hR, hms, st⟩
theorem c_rcount (h : RSt s0 L r s B X ms) (hok : B.Ok) (hv : B.votes.length = B.size.toNat) (hh : ∀ k < B.size.toNat, X.has k = (B.votes[k]?).getD false) (hr1 : B.role = 1) (hlc : B.commit ≤ B.lst) (hl1 : B.log.length + 1 ≤ 1073741824) (hlen : ms.length ≤ 400) :
    DCalls Try.prog 59 #[bptr r] s fun x s' => x = .tuple #[] ∧ ∃ X', RSt s0 L r s' B.counted.1 X' (ms ++ B.counted.2) ∧ Mt B.counted.1 X' := by
  have h0 := h
  obtain ⟨l, o, ps, hR, hms, st⟩ := h
  refine ok_rcount r _ s ?_
  unfold vc_rcount
  have hs := hok.small
  have hz := hok.size
  obtain ⟨q1, q2, q3⟩ := _root_.id hs
  have hd := lst_def B
  have hbase := hok.base
  simp only [RP_ite, RP_unSome, RP_ld, RP_st, RP_call, RP_callQ, RP_ret, RP_loop, RP_guard, RP_nw]
  refine ⟨fun z s' => ∃ k : Nat, z = ((((((B.votes.take k).filter _root_.id).length : Nat) : Int), ()), ((k : Int), ()), ()) ∧ (k : Int) ≤ B.size ∧ s' = s, fun z _ => B.size.toNat - z.2.1.1.toNat, ⟨0, by simp, by omega, rfl⟩, ?_⟩
  rintro _ s ⟨k, rfl, hk, rfl⟩
  have hcl : ((B.votes.take k).filter _root_.id).length ≤ k := Nat.le_trans (List.length_filter_le _ _) (by simp; omega)
  have hw : IntKind.i64.wrap ((k : Int) + 1) = ((k + 1 : Nat) : Int) := by rw [wrap_in (by omega) (by omega)]; simp
  have hwc : IntKind.i64.wrap ((((B.votes.take k).filter _root_.id).length : Int) + 1) = ((((B.votes.take k).filter _root_.id).length + 1 : Nat) : Int) := by rw [wrap_in (by omega) (by omega)]; simp
  simp only [W.unSome_some, add_mk, Nat.zero_add]
  refine ld_ref hR (y := (B.size, ())) rfl ?_
  refine (W.br_iff _ _ _ _).2 ⟨fun hlt => ?_, fun hge => ?_⟩
  · have hlt : (k : Int) < B.size := of_decide_eq_true hlt
    obtain ⟨x, hx⟩ : ∃ x, B.votes[k]? = some x := ⟨_, List.getElem?_eq_getElem (by omega)⟩
    have hxh := hh k (by omega)
    rw [hx] at hxh
    simp only [W.unSome_some, add_mk, Nat.zero_add]
    refine (W.guard_iff _ _ _).2 ⟨by omega, ?_⟩
    refine ld_hs hR.cell (k := k) (by omega) ?_ (by simp)
    rw [hxh]
    dsimp only
    rw [hwc, hw]
    refine (W.br_iff _ _ _ _).2 ⟨fun hxt => ⟨⟨k + 1, ?_, by omega, rfl⟩, by simp only [Int.toNat_natCast]; omega⟩, fun hxf => ⟨⟨k + 1, ?_, by omega, rfl⟩, by simp only [Int.toNat_natCast]; omega⟩⟩
    · have hxt : x = true := hxt
      rw [List.take_add_one, hx, hxt]; simp
    · have hxf : x = false := hxf
      rw [List.take_add_one, hx, hxf]; simp
  have hge : ¬ (k : Int) < B.size := of_decide_eq_false hge
  have hfull : B.votes.take k = B.votes := List.take_of_length_le (by omega)
  have hnv : ((B.votes.take k).filter _root_.id).length = B.nvotes := by rw [hfull]; (first | done | rfl)
  have hnv5 : B.nvotes ≤ 5 := by rw [← hnv]; omega
  rw [hnv]
  have hw2 : IntKind.i64.wrap (2 * (B.nvotes : Int)) = 2 * (B.nvotes : Int) := wrap_in (by omega) (by omega)
  simp only [W.unSome_some, add_mk, Nat.zero_add]
  refine ld_ref hR (y := (B.size, ())) rfl ?_
  dsimp only
  rw [hw2]
  refine (W.br_iff _ _ _ _).2 ⟨fun hle => ?_, fun hgt => ?_⟩
  · have hle : 2 * (B.nvotes : Int) ≤ B.size := of_decide_eq_true hle
    have : B.counted = (B, []) := by unfold BS.counted; rw [if_pos hle]
    rw [this]
    exact ⟨rfl, X, by rw [List.append_nil]; exact h0, fun _ => hh, fun e => by rw [hr1] at e; cases e⟩
  have hgt : ¬ 2 * (B.nvotes : Int) ≤ B.size := of_decide_eq_false hgt
  have hcnt : B.counted = ((B.lead2.set (B.lst + 1) [{ noEnt with term := B.term }]).settled.1, (B.lead2.set (B.lst + 1) [{ noEnt with term := B.term }]).feeds ++ (B.lead2.set (B.lst + 1) [{ noEnt with term := B.term }]).settled.2) := by
    unfold BS.counted; rw [if_neg hgt]
  simp only [W.unSome_some, add_mk, Nat.zero_add]
  refine st_ref hR st (B' := { B with role := 2 }) (X' := X) rfl (by decide) rfl rfl fun s1 hR1 st1 => ?_
  simp only [W.unSome_some, add_mk, Nat.zero_add]
  refine ld_ref hR1 (y := (B.id, ())) rfl ?_
  simp only [W.unSome_some, add_mk, Nat.zero_add]
  refine st_ref hR1 st1 (B' := { B with role := 2, lead := B.id }) (X' := X) rfl (by decide) rfl rfl fun s2 hR2 st2 => ?_
  have h2 : RSt s0 L r s2 B.lead2 X ms := (RSt.of hR2 hms st2).as
  have hsm : B.lead2.Small := ⟨q1, q2, q3⟩
  have hwl : IntKind.i64.wrap (B.lst + 1) = B.lst + 1 := wrap_in (by omega) (by omega)
  clear hR1 st1 hR2 st2 hR st h0
  refine ⟨fun z s' => ∃ (k : Nat) (Y : RS), z = (((k : Int), ()), ()) ∧ (k : Int) ≤ B.size ∧ RSt s0 L r s' B.lead2 Y ms ∧ ∀ j < k, Y.next j = B.lst + 1 ∧ Y.mat j = 0, fun z _ => B.size.toNat - z.1.1.toNat, ⟨0, X, rfl, by omega, h2, by omega⟩, ?_⟩
  clear h2
  rintro _ s3 ⟨k, Y, rfl, hk, h3, hY⟩
  have h3' := h3
  obtain ⟨l, o, ps, hR, hms, st⟩ := h3
  simp only [W.unSome_some, add_mk, Nat.zero_add]
  refine ld_ref hR (y := (B.size, ())) rfl ?_
  refine (W.br_iff _ _ _ _).2 ⟨fun hlt => ?_, fun hge => ?_⟩
  · have hlt : (k : Int) < B.size := of_decide_eq_true hlt
    have hw : IntKind.i64.wrap ((k : Int) + 1) = ((k + 1 : Nat) : Int) := by rw [wrap_in (by omega) (by omega)]; simp
    refine W.callQ_of ((B.lst, ()), ()) (c_rLast hR hsm) rfl ?_
    dsimp only
    rw [hwl, hw]
    simp only [W.unSome_some, add_mk, Nat.zero_add]
    refine (W.guard_iff _ _ _).2 ⟨by omega, ?_⟩
    refine st_nx hR.cell (k := k) (by omega) ?_ (by simp)
    have h4 := RSt.lay (B' := B.lead2) (X' := { Y with next := setF Y.next k (B.lst + 1) }) hR hms st
    obtain ⟨s4, hs4⟩ : ∃ s4, s3.upd r (.cells (refCells B.lead2 { Y with next := setF Y.next k (B.lst + 1) } l o) 78 (0, 0)) = s4 := ⟨_, rfl⟩
    rw [hs4] at h4 ⊢
    clear hs4
    obtain ⟨l4, o4, ps4, hR4, hms4, st4⟩ := h4
    simp only [W.unSome_some, add_mk, Nat.zero_add]
    refine (W.guard_iff _ _ _).2 ⟨by omega, ?_⟩
    refine st_mt hR4.cell (k := k) (by omega) ?_ (by simp)
    refine ⟨⟨k + 1, { Y with next := setF Y.next k (B.lst + 1), mat := setF Y.mat k 0 }, rfl, by omega, RSt.lay hR4 hms4 st4, fun j hj => ?_⟩, by simp only [Int.toNat_natCast]; omega⟩
    by_cases e : j = k
    · subst e; simp [setF]
    · have := hY j (by omega)
      simp [setF, e, this]
  have hge : ¬ (k : Int) < B.size := of_decide_eq_false hge
  have hks : B.size.toNat = k := by omega
  refine W.callQ_of ((B.lst, ()), ()) (c_rLast hR hsm) rfl ?_
  simp only [W.unSome_some, add_mk, Nat.zero_add]
  refine ld_ref hR (y := (B.term, ())) rfl ?_
  refine W.nw_of fun q s4 hq m4 k4 => ?_
  try dsimp only
  rw [hwl]
  obtain ⟨B3, hB3⟩ : ∃ B3, B.lead2.set (B.lst + 1) [{ noEnt with term := B.term }] = B3 := ⟨_, rfl⟩
  refine W.call_of (c_rput (h3'.new m4) hsm (i := B.lst + 1) (ys := [{ noEnt with term := B.term }]) (by show B.base < _; omega) (Int.le_refl _) (row_one (E := entE) (x := { noEnt with term := B.term }) k4 rfl).src0 rfl (by omega)) ?_
  rintro _ s5 ⟨rfl, h5⟩
  refine ⟨(), rfl, ?_⟩
  rw [hB3] at h5 hcnt
  have hl3 : B3.log.length = B.log.length + 1 := by
    rw [← hB3]
    unfold BS.set BS.lead2
    simp only [List.length_append, List.length_take, List.length_cons, List.length_nil]; omega
  have eb : B3.base = B.base := by rw [← hB3]; (first | done | rfl)
  have ez : B3.size = B.size := by rw [← hB3]; (first | done | rfl)
  have ec : B3.commit = B.commit := by rw [← hB3]; (first | done | rfl)
  have ei : B3.id = B.id := by rw [← hB3]; (first | done | rfl)
  have er : B3.role = 2 := by rw [← hB3]; (first | done | rfl)
  have en : B3.next = List.replicate B.size.toNat (B.lst + 1) := by rw [← hB3]; (first | done | rfl)
  have em : B3.mat = List.replicate B.size.toNat 0 := by rw [← hB3]; (first | done | rfl)
  have hlst3 : B3.lst = B.lst + 1 := by
    have e := lst_def B3
    rw [e, hl3, eb]; omega
  have hok3 : B3.Ok := ⟨⟨by omega, by omega, by omega⟩, by omega, by rw [ez]; exact hz, by rw [ei, ez]; exact hok.id, by rw [eb, ec]; exact hok.com⟩
  have hF3 : B3.Fed := by
    refine ⟨by rw [en, ez]; simp, fun i nx hnx => ?_⟩
    rw [en, List.getElem?_replicate] at hnx
    split at hnx
    · cases hnx; right; omega
    · cases hnx
  have hM3 : Mt2 B3 Y := by
    refine ⟨fun j hj => ?_, fun j hj => ?_⟩
    · rw [ez] at hj
      rw [(hY j (by omega)).1]; unfold BS.nx; rw [en, List.getElem?_replicate, if_pos hj]; (first | done | rfl)
    · rw [ez] at hj
      rw [(hY j (by omega)).2]; unfold BS.mt; rw [em, List.getElem?_replicate, if_pos hj]; (first | done | rfl)
  refine W.call_of (c_rfeeds h5 hok3 hF3 hM3 (by omega)) ?_
  rintro _ s6 ⟨rfl, h6⟩
  refine ⟨(), rfl, ?_⟩
  have hfl := B3.others_len (fun to => B3.feedM to ((B3.next[to]?).getD 0)) B3.size.toNat
  refine W.call_of (c_rsettle h6 hok3 hF3 hM3 (by rw [em, ez]; simp) (by omega) (by rw [List.length_append]; have : B3.feeds.length ≤ B3.size.toNat := hfl; omega)) ?_
  rintro _ s7 ⟨rfl, h7⟩
  refine ⟨(), rfl, rfl, Y, ?_, ?_⟩
  · rw [hcnt, ← List.append_assoc]; exact h7
  · rw [hcnt]
    obtain ⟨c, hc, _⟩ := settled_com B3 (by omega)
    rw [hc]
    exact ⟨fun e => by have e : B3.role = 1 := e; omega, fun _ => ⟨hM3.nx, hM3.mt⟩⟩
end
end Go.Proofs.Ytfpbiecmobdnnaa
end
section
set_option linter.unusedVariables false
set_option linter.unusedSimpArgs false
set_option maxHeartbeats 1000000
set_option maxRecDepth 10000
namespace Go.Proofs.Ytfpbiecmobdnnaa
open Fw Go
attribute [-simp] Fw.W.ld_iff Fw.W.st_iff
/-- a call on the document's ballot is over -/
def RPost (R : BS × List Msg) (r : Nat) (L : List Nat) (s : PH) (x : Value) (s' : PH) : Prop :=
  ∃ l o1 o ps X', x = Tri.v o ∧ Msgs s' o ps ∧ ps.map (·.1) = R.2 ∧ Ref s' r l o1 [] R.1 X' ∧ Mt R.1 X' ∧ Step L (rL r l o1 []) s s' ∧ ∀ y ∈ mF o ps, y ∈ L ∨ s y = none
section
variable {s0 s s' : PH} {L : List Nat} {r : Nat} {B B' : BS} {X X' : RS} {ms : List Msg} {l o : Tri} {ps : List (Msg × Tri)}
theorem st_refs (hR : Ref s r l o ps B X) (st : Step L (rL r l o ps) s0 s) {off : Nat} {v : Value} {vs : List Value} (hc : setL (refCells B X l o) off (v :: vs) = refCells B' X' l o) (hlt : off + (v :: vs).length ≤ 30) (h1 : ∀ w ∈ v :: vs, w.oneCell' = true) (hl : B'.log = B.log) {K : W.T}
    (hK : ∀ s', Ref s' r l o ps B' X' → Step L (rL r l o ps) s0 s' → K s') : W.st ⟨r, off, none⟩ (v :: vs) K s := by
  rw [W.st_at hR.cell]
  refine ⟨hlt, by simp, h1, ?_⟩
  rw [hc]
  exact hK _ (hR.lay hl) ⟨st.mod.updLater (st.new r (by simp [rL])), st.new⟩
theorem SentPost.post {x : Value} (h : SentPost s0 L r B X ms x s') (hM : Mt B X) : RPost (B, ms) r L s0 x s' := by
  obtain ⟨l, o, ps, h1, h2, h3, h4, h5, h6⟩ := h
  exact ⟨l, noTri, o, ps, X, h1, h2, h3, h4, hM, h5, h6⟩
theorem RPost.none (hR : Ref s r l o [] B X) (hM : Mt B X) : RPost (B, []) r (rL r l o []) s (.slice none 0 0) s :=
  ⟨l, o, noTri, [], X, rfl, Msgs.nil _, rfl, hR, hM, Step.refl _ _, by simp [mF, Fw.blk]⟩
theorem c_rTimeout (hR : Ref s r l o [] B X) (hM : Mt B X) (hok : B.Ok) (hlc : B.commit ≤ B.lst) (hl1 : B.log.length + 1 ≤ 1073741824) (ht : Num B.term) : DCalls Try.prog 31 #[bptr r] s (RPost B.timeout r (rL r l o []) s) := by
  refine ok_rTimeout r _ s ?_
  unfold vc_rTimeout
  obtain ⟨q1, q2, q3⟩ := _root_.id hok.small
  obtain ⟨i1, i2⟩ := hok.id
  obtain ⟨t1, t2⟩ := ht
  have hz := hok.size
  have hbs := hok.base
  have hd := lst_def B
  simp only [RP_ite, RP_unSome, RP_ld, RP_st, RP_call, RP_callQ, RP_ret, RP_loop, RP_guard, W.unSome_some, add_mk, Nat.zero_add]
  refine ld_ref hR (y := (B.role, ())) rfl ?_
  refine (W.br_iff _ _ _ _).2 ⟨fun e => ?_, fun e => ?_⟩
  · have e : B.role = 2 := by simpa using e
    have : B.timeout = (B, []) := by unfold BS.timeout; rw [if_pos e]
    rw [this]; exact RPost.none hR hM
  have e : B.role ≠ 2 := by simpa using e
  have htm : B.timeout = (B.stood.counted.1, B.stood.asks ++ B.stood.counted.2) := by unfold BS.timeout; rw [if_neg e]
  rw [htm]
  obtain ⟨L, hL⟩ : ∃ L, rL r l o [] = L := ⟨_, rfl⟩
  have st0 : Step L (rL r l o []) s s := by rw [← hL]; exact Step.refl _ _
  rw [hL]
  simp only [W.unSome_some, add_mk, Nat.zero_add]
  refine ld_ref hR (y := (B.term, ())) rfl ?_
  dsimp only
  rw [show IntKind.i64.wrap (B.term + 1) = B.term + 1 from wrap_in (by omega) (by omega)]
  simp only [W.unSome_some, add_mk, Nat.zero_add]
  refine st_ref hR st0 (B' := { B with term := B.term + 1 }) (X' := X) rfl (by decide) rfl rfl fun s1 hR1 st1 => ?_
  simp only [W.unSome_some, add_mk, Nat.zero_add]
  refine ld_ref hR1 (y := (B.id, ())) rfl ?_
  simp only [W.unSome_some, add_mk, Nat.zero_add]
  refine st_ref hR1 st1 (B' := { B with term := B.term + 1, vote := B.id }) (X' := X) rfl (by decide) rfl rfl fun s2 hR2 st2 => ?_
  simp only [W.unSome_some, add_mk, Nat.zero_add]
  refine st_ref hR2 st2 (B' := { B with term := B.term + 1, vote := B.id, role := 1 }) (X' := X) rfl (by decide) rfl rfl fun s3 hR3 st3 => ?_
  simp only [W.unSome_some, add_mk, Nat.zero_add]
  refine st_ref hR3 st3 (B' := { B with term := B.term + 1, vote := B.id, role := 1, lead := -1 }) (X' := X) rfl (by decide) rfl rfl fun s4 hR4 st4 => ?_
  simp only [W.unSome_some, add_mk, Nat.zero_add]
  refine st_ref hR4 st4 (B' := B.turned (B.term + 1) B.id 1) (X' := X) rfl (by decide) rfl rfl fun s5 hR5 st5 => ?_
  simp only [W.unSome_some, add_mk, Nat.zero_add]
  refine st_refs hR5 st5 (B' := B.turned (B.term + 1) B.id 1) (X' := { X with has := fun _ => false }) rfl (by decide) (by simp [Value.oneCell']) rfl fun s6 hR6 st6 => ?_
  simp only [W.unSome_some, add_mk, Nat.zero_add]
  refine ld_ref hR6 (y := (B.id, ())) rfl ?_
  simp only [W.unSome_some, add_mk, Nat.zero_add]
  refine (W.guard_iff _ _ _).2 ⟨by omega, ?_⟩
  refine st_hs hR6.cell (k := B.id.toNat) (by omega) ?_ (by simp)
  have h7 := RSt.lay (B' := B.turned (B.term + 1) B.id 1) (X' := { X with has := setF (fun _ => false) B.id.toNat true }) hR6 rfl st6
  obtain ⟨s7, hs7⟩ : ∃ s7, s6.upd r (.cells (refCells (B.turned (B.term + 1) B.id 1) { X with has := setF (fun _ => false) B.id.toNat true } l o) 78 (0, 0)) = s7 := ⟨_, rfl⟩
  rw [hs7] at h7 ⊢
  have h8 : RSt s L r s7 B.stood { X with has := setF (fun _ => false) B.id.toNat true } [] := h7.as
  clear hs7 h7 hR6 st6 hR5 st5 hR4 st4 hR3 st3 hR2 st2 hR1 st1
  obtain ⟨Y, hY⟩ : ∃ Y, ({ X with has := setF (fun _ => false) B.id.toNat true } : RS) = Y := ⟨_, rfl⟩
  obtain ⟨C, hC⟩ : ∃ C, B.stood = C := ⟨_, rfl⟩
  have hok1 : C.Ok := by rw [← hC]; exact ⟨⟨q1, q2, q3⟩, hbs, hz, hok.id, hok.com⟩
  have hv1 : C.votes.length = C.size.toNat := by rw [← hC]; show ((List.replicate B.size.toNat false).set B.id.toNat true).length = B.size.toNat; simp
  have hh1 : ∀ k < C.size.toNat, Y.has k = (C.votes[k]?).getD false := by
    intro k hk
    rw [← hC] at hk ⊢
    rw [← hY]
    have hk : k < B.size.toNat := hk
    show setF (fun _ => false) B.id.toNat true k = (((List.replicate B.size.toNat false).set B.id.toNat true)[k]?).getD false
    rw [List.getElem?_set]
    unfold setF
    by_cases e : B.id.toNat = k
    · rw [if_pos e.symm, if_pos e, if_pos (by simp; omega)]; (first | done | rfl)
    · rw [if_neg (fun h => e h.symm), if_neg e, List.getElem?_replicate, if_pos hk]; (first | done | rfl)
  have er : C.role = 1 := by rw [← hC]; (first | done | rfl)
  have elc : C.commit ≤ C.lst := by rw [← hC]; exact hlc
  have elg : C.log.length + 1 ≤ 1073741824 := by rw [← hC]; exact hl1
  rw [hY, hC] at h8
  rw [hC]
  have hs1 := hok1.small
  have hz1 := hok1.size
  have hd1 := lst_def C
  obtain ⟨p1, p2, p3⟩ := _root_.id hs1
  have hbs1 := hok1.base
  refine ⟨fun z s' => ∃ k : Nat, z = (((k : Int), ()), ()) ∧ (k : Int) ≤ C.size ∧ RSt s L r s' C Y (C.others (fun to => C.askM to) k), fun z _ => C.size.toNat - z.1.1.toNat, ⟨0, rfl, by omega, by simpa [BS.others] using h8⟩, ?_⟩
  rintro _ s9 ⟨k, rfl, hk, h9⟩
  have h9' := h9
  obtain ⟨l, o, ps, hR, hms, st⟩ := h9
  have hw : IntKind.i64.wrap ((k : Int) + 1) = ((k + 1 : Nat) : Int) := by rw [wrap_in (by omega) (by omega)]; simp
  have hol := C.others_len (fun to => C.askM to) k
  simp only [W.unSome_some, add_mk, Nat.zero_add]
  refine ld_ref hR (y := (C.size, ())) rfl ?_
  refine (W.br_iff _ _ _ _).2 ⟨fun hlt => ?_, fun hge => ?_⟩
  · have hlt : (k : Int) < C.size := of_decide_eq_true hlt
    simp only [W.unSome_some, add_mk, Nat.zero_add]
    refine ld_ref hR (y := (C.id, ())) rfl ?_
    dsimp only
    rw [hw]
    refine (W.br_iff _ _ _ _).2 ⟨fun hne => ?_, fun he => ?_⟩
    · have hne : (k : Int) ≠ C.id := by simpa using hne
      refine W.call_of (c_rLast hR hs1) ?_
      rintro _ _ ⟨rfl, rfl⟩
      refine ⟨((C.lst, ()), ()), rfl, ?_⟩
      refine W.call_of (c_rLast hR hs1) ?_
      rintro _ _ ⟨rfl, rfl⟩
      refine ⟨((C.lst, ()), ()), rfl, ?_⟩
      refine W.call_of (c_rTermAt hR hs1 (num_lst hs1 hbs1)) ?_
      rintro _ _ ⟨rfl, rfl⟩
      refine ⟨((C.rTerm C.lst, ()), ()), rfl, ?_⟩
      refine W.call_of (c_rsend h9' (by omega) { kind := 1, from_ := 0, to := k, term := 0, index := C.lst, prev := C.rTerm C.lst } (t := noTri) rowE.nil (by simp [Fw.blk])) ?_
      rintro _ s10 ⟨rfl, h10⟩
      refine ⟨(), rfl, ⟨k + 1, rfl, by omega, ?_⟩, by simp only [Int.toNat_natCast]; omega⟩
      rw [C.others_succ, if_neg hne]
      have e : sentM C { kind := 1, from_ := 0, to := k, term := 0, index := C.lst, prev := C.rTerm C.lst } = C.askM k := by
        rw [rTerm_at hs1 (by omega) (Int.le_refl _)]; (first | done | rfl)
      rw [← e]; exact h10
    · have he : (k : Int) = C.id := by simpa using he
      refine ⟨⟨k + 1, rfl, by omega, ?_⟩, by simp only [Int.toNat_natCast]; omega⟩
      rw [C.others_succ, if_pos he]; exact h9'
  have hge : ¬ (k : Int) < C.size := of_decide_eq_false hge
  have hks : C.size.toNat = k := by omega
  refine W.call_of (c_rcount h9' hok1 hv1 hh1 er elc elg (by omega)) ?_
  rintro _ s10 ⟨rfl, Z, h10, hM10⟩
  refine ⟨(), rfl, ?_⟩
  refine W.call_of (c_rsent h10) ?_
  rintro x s11 h11
  have hp := h11.post hM10
  obtain ⟨l', o', ps', rfl, _⟩ := h11
  refine ⟨((o', ()), ()), rfl, ?_⟩
  have : C.asks = C.others (fun to => C.askM to) k := by rw [← hks]
  rw [this]; exact hp
theorem c_rBeat (hR : Ref s r l o [] B X) (hM : Mt B X) (hok : B.Ok) (hF : B.role = 2 → B.Fed) : DCalls Try.prog 32 #[bptr r] s (RPost (B, if B.role = 2 then B.feeds else []) r (rL r l o []) s) := by
  refine ok_rBeat r _ s ?_
  unfold vc_rBeat
  simp only [RP_ite, RP_unSome, RP_ld, RP_st, RP_call, RP_callQ, RP_ret, RP_loop, RP_guard, W.unSome_some, add_mk, Nat.zero_add]
  refine ld_ref hR (y := (B.role, ())) rfl ?_
  have h0 : RSt s (rL r l o []) r s B X [] := RSt.start hR
  refine (W.br_iff _ _ _ _).2 ⟨fun e => ?_, fun e => ?_⟩
  · have e : B.role = 2 := by simpa using e
    rw [if_pos e]
    refine W.call_of (c_rfeeds h0 hok (hF e) (hM.ld e) (by simp)) ?_
    rintro _ s1 ⟨rfl, h1⟩
    refine ⟨(), rfl, ?_⟩
    refine W.call_of (c_rsent h1) ?_
    rintro x s2 h2
    have hp := h2.post hM
    obtain ⟨l', o', ps', rfl, _⟩ := h2
    exact ⟨((o', ()), ()), rfl, hp⟩
  · have e : B.role ≠ 2 := by simpa using e
    rw [if_neg e]
    refine W.call_of (c_rsent h0) ?_
    rintro x s2 h2
    have hp := h2.post hM
    obtain ⟨l', o', ps', rfl, _⟩ := h2
    exact ⟨((o', ()), ()), rfl, hp⟩
def RProPost (R : Int × BS × List Msg) (r : Nat) (L : List Nat) (s : PH) (x : Value) (s' : PH) : Prop := ∃ y, x = .tuple #[.int .i64 R.1, y] ∧ RPost R.2 r L s y s'
theorem c_rPropose (hR : Ref s r l o [] B X) (hM : Mt B X) (hok : B.Ok) (hL : B.role = 2 → B.Ldr) (hlc : B.commit ≤ B.lst) (hl1 : B.log.length + 1 ≤ 1073741824) (at_ born : Int) (text : ByteArray) :
    DCalls Try.prog 33 #[bptr r, .int .i64 at_, .int .i64 born, .string text] s (RProPost (B.propose at_ born text) r (rL r l o []) s) := by
  refine ok_rPropose r at_ born text _ s ?_
  unfold vc_rPropose
  obtain ⟨q1, q2, q3⟩ := _root_.id hok.small
  have hz := hok.size
  have hbs := hok.base
  have hd := lst_def B
  simp only [RP_ite, RP_unSome, RP_ld, RP_st, RP_call, RP_callQ, RP_ret, RP_loop, RP_guard, RP_nw, W.unSome_some, add_mk, Nat.zero_add]
  refine ld_ref hR (y := (B.role, ())) rfl ?_
  have h0 : RSt s (rL r l o []) r s B X [] := RSt.start hR
  refine (W.br_iff _ _ _ _).2 ⟨fun e => ?_, fun e => ?_⟩
  · have e : B.role ≠ 2 := by simpa using e
    have : B.propose at_ born text = (0, B, []) := by unfold BS.propose; rw [if_neg e]
    rw [this]; exact ⟨_, rfl, RPost.none hR hM⟩
  have e : B.role = 2 := by simpa using e
  have hwl : IntKind.i64.wrap (B.lst + 1) = B.lst + 1 := wrap_in (by omega) (by omega)
  refine W.callQ_of ((B.lst, ()), ()) (c_rLast hR hok.small) rfl ?_
  simp only [W.unSome_some, add_mk, Nat.zero_add]
  refine ld_ref hR (y := (B.term, ())) rfl ?_
  refine W.nw_of fun q s1 hq m1 k1 => ?_
  try dsimp only
  rw [hwl]
  refine W.call_of (c_rput (h0.new m1) hok.small (i := B.lst + 1) (ys := [⟨B.term, at_, born, text⟩]) (by omega) (Int.le_refl _) (row_one (E := entE) (x := ⟨B.term, at_, born, text⟩) k1 rfl).src0 rfl (by omega)) ?_
  rintro _ s2 ⟨rfl, h2⟩
  refine ⟨(), rfl, ?_⟩
  have hl := hL e
  have hM2 := hM.ld e
  have hpr : B.propose at_ born text = ((B.proposed at_ born text).lst, (B.proposed at_ born text).settled.1, (B.proposed at_ born text).feeds ++ (B.proposed at_ born text).settled.2) := by unfold BS.propose; rw [if_pos e]
  rw [hpr]
  have hl3 : (B.proposed at_ born text).log.length = B.log.length + 1 := by
    unfold BS.proposed BS.set
    simp only [List.length_append, List.length_take, List.length_cons, List.length_nil]; omega
  have hlst3 : (B.proposed at_ born text).lst = B.lst + 1 := by
    have e : (B.proposed at_ born text).lst = B.base + ((B.proposed at_ born text).log.length : Int) := rfl
    rw [e, hl3, hd]; omega
  have hok3 : (B.proposed at_ born text).Ok := ⟨⟨q1, q2, by omega⟩, hbs, hz, hok.id, hok.com⟩
  have hF3 : (B.proposed at_ born text).Fed := by
    refine ⟨hl.nlen, fun i nx hnx => ?_⟩
    have g := (hl.nr i nx hnx).2
    rw [hlst3]
    have e : (B.proposed at_ born text).base = B.base := rfl
    rw [e]; omega
  have hm3 : (B.proposed at_ born text).mat.length = (B.proposed at_ born text).size.toNat := hl.mlen
  have hlc3 : (B.proposed at_ born text).commit ≤ (B.proposed at_ born text).lst := by rw [hlst3]; show B.commit ≤ _; omega
  have hM3 : Mt2 (B.proposed at_ born text) X := ⟨hM2.nx, hM2.mt⟩
  have her : (B.proposed at_ born text).role = 2 := e
  have h2 : RSt s (rL r l o []) r s2 (B.proposed at_ born text) X [] := h2
  generalize B.proposed at_ born text = B3 at h2 hok3 hF3 hm3 hlc3 hM3 her
  refine W.call_of (h2.quiet fun h => c_rLast h hok3.small) ?_
  rintro _ _ ⟨rfl, rfl⟩
  refine ⟨((B3.lst, ()), ()), rfl, ?_⟩
  refine W.call_of (c_rfeeds h2 hok3 hF3 hM3 (by simp)) ?_
  rintro _ s6 ⟨rfl, h6⟩
  refine ⟨(), rfl, ?_⟩
  have hfl := B3.others_len (fun to => B3.feedM to ((B3.next[to]?).getD 0)) B3.size.toNat
  have hz3 := hok3.size
  refine W.call_of (c_rsettle h6 hok3 hF3 hM3 hm3 hlc3 (by rw [List.nil_append]; have : B3.feeds.length ≤ B3.size.toNat := hfl; omega)) ?_
  rintro _ s7 ⟨rfl, h7⟩
  refine ⟨(), rfl, ?_⟩
  have hM7 : Mt B3.settled.1 X := by
    obtain ⟨c, hc, _⟩ := settled_com B3 hlc3
    rw [hc]
    exact ⟨fun e => by have e : B3.role = 1 := e; omega, fun _ => ⟨hM3.nx, hM3.mt⟩⟩
  refine W.call_of (c_rsent h7) ?_
  rintro x s8 h8
  have hp := h8.post hM7
  obtain ⟨l', o', ps', rfl, _⟩ := h8
  exact ⟨((o', ()), ()), rfl, _, rfl, hp⟩
end
end Go.Proofs.Ytfpbiecmobdnnaa
end
