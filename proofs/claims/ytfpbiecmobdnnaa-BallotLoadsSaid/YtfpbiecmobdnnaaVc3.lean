/-
  A ballot that is none; the laws' own functions: printed by a program of this session's own, each proved to be the function's by the kernel.
  Conditions: none; it proves no statement by itself.
-/
import Derived.Test.YtfpbiecmobdnnaaFwN
import Derived.Test.YtfpbiecmobdnnaaProg
set_option linter.unusedVariables false
set_option maxHeartbeats 1000000
namespace Go.Proofs.Ytfpbiecmobdnnaa
open Fw Fw.W Go

/-- (*lintel/ballot.Ballot).Timeout -/
def vc_TimeoutN {W : Type} (π : Prims W) : W :=
  π.join [] (fun J0 =>
    π.ite (true) (
      π.ret (Go.Value.slice (none) ((0 : Nat)) ((0 : Nat)))
    ) (
      π.unSome (none) fun p1 =>
      π.ld [.int .i64] ((p1.add (2 : Nat)).add (2 : Nat)) fun ((x2 : Int), _) =>
      π.ite (x2 == (2 : Int)) (
        π.ret (Go.Value.slice (none) ((0 : Nat)) ((0 : Nat)))
      ) (
        J0 (())
      )
    )
  ) (fun (_) =>
    π.unSome (none) fun p3 =>
    π.ld [.int .i64] ((p3.add (2 : Nat)).add (0 : Nat)) fun ((x4 : Int), _) =>
    π.unSome (none) fun p5 =>
    π.ld [.int .i64] (p5.add (0 : Nat)) fun ((x6 : Int), _) =>
    π.call (40 : Nat) #[(Go.Value.pointer (none)), (Go.Value.int (IntKind.i64) (IntKind.i64.wrap (x4 + (1 : Int)))), (Go.Value.int (IntKind.i64) (x6)), (Go.Value.int (IntKind.i64) ((1 : Int)))] (true, []) fun (_) =>
    π.unSome (none) fun p7 =>
    π.ld [.int .i64] (p7.add (1 : Nat)) fun ((x8 : Int), _) =>
    π.mksl (4 : Nat) (1 : Nat) (1 : Nat) [(Go.Value.bool (false))] (x8) (x8) fun r9 =>
    π.unSome (none) fun p10 =>
    π.st (p10.add (12 : Nat)) [(Go.Value.slice (some (Addr.mk r9 (0 : Nat) none)) (x8.toNat) (x8.toNat))] <|
    π.unSome (none) fun p11 =>
    π.ld [.slice] (p11.add (12 : Nat)) fun (((a12 : Option Addr), (n13 : Nat), (c14 : Nat)), _) =>
    π.unSome (none) fun p15 =>
    π.ld [.int .i64] (p15.add (0 : Nat)) fun ((x16 : Int), _) =>
    π.guard ((0 : Int) ≤ x16 ∧ x16 < (↑n13 : Int)) <|
    π.unSome (a12) fun p17 =>
    π.st (p17.add (x16.toNat * (1 : Nat))) [(Go.Value.bool (true))] <|
    π.call (41 : Nat) #[(Go.Value.pointer (none)), (Go.Value.func (Fn.func (42 : Nat)) #[(Go.Value.pointer (none))] #[])] (false, [(false, [.slice])]) fun ((((a18 : Option Addr), (n19 : Nat), (c20 : Nat)), _), _) =>
    π.call (43 : Nat) #[(Go.Value.pointer (none))] (false, [(false, [.slice])]) fun ((((a21 : Option Addr), (n22 : Nat), (c23 : Nat)), _), _) =>
    π.app (32 : Nat) (10 : Nat) (104 : Nat) [(Go.Value.int (IntKind.i64) ((0 : Int))), (Go.Value.int (IntKind.i64) ((0 : Int))), (Go.Value.int (IntKind.i64) ((0 : Int))), (Go.Value.int (IntKind.i64) ((0 : Int))), (Go.Value.int (IntKind.i64) ((0 : Int))), (Go.Value.int (IntKind.i64) ((0 : Int))), (Go.Value.int (IntKind.i64) ((0 : Int))), (Go.Value.bool (false)), (Go.Value.slice (none) ((0 : Nat)) ((0 : Nat))), (Go.Value.string (ByteArray.mk #[]))] (a18) (n19) (c20) (Src.sl a21 n22) fun a24 n25 c26 =>
    π.ret (Go.Value.slice (a24) (n25) (c26))
  )

def ann_TimeoutN : Ann := { draws := [(3, { A := [0, 1, 2, 3, 4, 5, 6, 7, 8, 9, 10] }), (5, { A := [0, 1, 2, 3, 4, 5, 6, 7, 8] })], join := [(3, [])], loop := [] }
set_option maxRecDepth 100000 in
theorem eq_TimeoutN {W : Type} (π : Prims W) : bodyW π Try.prog ann_TimeoutN (mkFr (maskA [] [.v (.pointer none)] 0) 51) Try.f24 (bodyOf Try.f24) (mkFr (List.map some [.v (.pointer none)]) 51) = vc_TimeoutN π := by kernel_rfl
theorem ok_TimeoutN (R : Value → PH → Prop) (s : PH) (h : vc_TimeoutN (RP Try.prog R) s) : DCalls Try.prog 24 (List.map AV.val [.v (.pointer none)]).toArray s R :=
  calls_vc (c := bodyOf Try.f24) (ann := ann_TimeoutN) (by kernel_rfl) Try.func24 rfl (by kernel_rfl) [.v (.pointer none)] [] (by rw [Try.ntmps24]; exact Nat.le_of_ble_eq_true rfl) (by rw [show Try.f24.ntmps = 51 from Try.ntmps24, eq_TimeoutN]; exact h)

/-- (*lintel/ballot.Ballot).Beat -/
def vc_BeatN {W : Type} (π : Prims W) : W :=
  π.ite (true) (
    π.ret (Go.Value.slice (none) ((0 : Nat)) ((0 : Nat)))
  ) (
    π.unSome (none) fun p0 =>
    π.ld [.int .i64] ((p0.add (2 : Nat)).add (2 : Nat)) fun ((x1 : Int), _) =>
    π.ite (x1 != (2 : Int)) (
      π.ret (Go.Value.slice (none) ((0 : Nat)) ((0 : Nat)))
    ) (
      π.call (41 : Nat) #[(Go.Value.pointer (none)), (Go.Value.func (Fn.func (52 : Nat)) #[(Go.Value.pointer (none))] #[])] (false, [(false, [.slice])]) fun ((((a2 : Option Addr), (n3 : Nat), (c4 : Nat)), _), _) =>
      π.ret (Go.Value.slice (a2) (n3) (c4))
    )
  )

def ann_BeatN : Ann := { draws := [], join := [], loop := [] }
set_option maxRecDepth 100000 in
theorem eq_BeatN {W : Type} (π : Prims W) : bodyW π Try.prog ann_BeatN (mkFr (maskA [] [.v (.pointer none)] 0) 17) Try.f27 (bodyOf Try.f27) (mkFr (List.map some [.v (.pointer none)]) 17) = vc_BeatN π := by kernel_rfl
theorem ok_BeatN (R : Value → PH → Prop) (s : PH) (h : vc_BeatN (RP Try.prog R) s) : DCalls Try.prog 27 (List.map AV.val [.v (.pointer none)]).toArray s R :=
  calls_vc (c := bodyOf Try.f27) (ann := ann_BeatN) (by kernel_rfl) Try.func27 rfl (by kernel_rfl) [.v (.pointer none)] [] (by rw [Try.ntmps27]; exact Nat.le_of_ble_eq_true rfl) (by rw [show Try.f27.ntmps = 17 from Try.ntmps27, eq_BeatN]; exact h)

/-- (*lintel/ballot.Ballot).Propose -/
def vc_ProposeN {W : Type} (π : Prims W) (at_ born : Int) (text : ByteArray) : W :=
  π.join [] (fun J0 =>
    π.ite (true) (
      π.ret (Go.Value.tuple #[(Go.Value.int (IntKind.i64) ((0 : Int))), (Go.Value.slice (none) ((0 : Nat)) ((0 : Nat)))])
    ) (
      π.unSome (none) fun p1 =>
      π.ld [.int .i64] ((p1.add (2 : Nat)).add (2 : Nat)) fun ((x2 : Int), _) =>
      π.ite (x2 != (2 : Int)) (
        π.ret (Go.Value.tuple #[(Go.Value.int (IntKind.i64) ((0 : Int))), (Go.Value.slice (none) ((0 : Nat)) ((0 : Nat)))])
      ) (
        J0 (())
      )
    )
  ) (fun (_) =>
    π.callQ (26 : Nat) #[(Go.Value.pointer (none))] (false, [(false, [.int .i64])]) fun (((x3 : Int), _), _) =>
    π.unSome (none) fun p4 =>
    π.ld [.int .i64] ((p4.add (2 : Nat)).add (0 : Nat)) fun ((x5 : Int), _) =>
    π.nw (Go.Obj.cells #[(Go.Value.int (IntKind.i64) (x5)), (Go.Value.int (IntKind.i64) (at_)), (Go.Value.int (IntKind.i64) (born)), (Go.Value.string (text))] (39 : Nat) ((0 : Nat), (0 : Nat))) fun r6 =>
    π.call (53 : Nat) #[(Go.Value.pointer (none)), (Go.Value.int (IntKind.i64) (IntKind.i64.wrap (x3 + (1 : Int)))), (Go.Value.slice (some (Addr.mk r6 (0 : Nat) none)) ((1 : Nat)) ((1 : Nat)))] (true, []) fun (_) =>
    π.call (26 : Nat) #[(Go.Value.pointer (none))] (false, [(false, [.int .i64])]) fun (((x7 : Int), _), _) =>
    π.call (41 : Nat) #[(Go.Value.pointer (none)), (Go.Value.func (Fn.func (52 : Nat)) #[(Go.Value.pointer (none))] #[])] (false, [(false, [.slice])]) fun ((((a8 : Option Addr), (n9 : Nat), (c10 : Nat)), _), _) =>
    π.call (54 : Nat) #[(Go.Value.pointer (none))] (false, [(false, [.slice])]) fun ((((a11 : Option Addr), (n12 : Nat), (c13 : Nat)), _), _) =>
    π.app (32 : Nat) (10 : Nat) (104 : Nat) [(Go.Value.int (IntKind.i64) ((0 : Int))), (Go.Value.int (IntKind.i64) ((0 : Int))), (Go.Value.int (IntKind.i64) ((0 : Int))), (Go.Value.int (IntKind.i64) ((0 : Int))), (Go.Value.int (IntKind.i64) ((0 : Int))), (Go.Value.int (IntKind.i64) ((0 : Int))), (Go.Value.int (IntKind.i64) ((0 : Int))), (Go.Value.bool (false)), (Go.Value.slice (none) ((0 : Nat)) ((0 : Nat))), (Go.Value.string (ByteArray.mk #[]))] (a8) (n9) (c10) (Src.sl a11 n12) fun a14 n15 c16 =>
    π.ret (Go.Value.tuple #[(Go.Value.int (IntKind.i64) (x7)), (Go.Value.slice (a14) (n15) (c16))])
  )

def ann_ProposeN : Ann := { draws := [(3, { A := [0, 1, 2, 3, 4, 5, 6, 7, 8, 9, 10, 11, 12], quiet := [2] })], join := [(3, [])], loop := [] }
set_option maxRecDepth 100000 in
theorem eq_ProposeN {W : Type} (π : Prims W) (at_ born : Int) (text : ByteArray) : bodyW π Try.prog ann_ProposeN (mkFr (maskA [] [.v (.pointer none), .v (.int .i64 at_), .v (.int .i64 born), .v (.string text)] 0) 44) Try.f28 (bodyOf Try.f28) (mkFr (List.map some [.v (.pointer none), .v (.int .i64 at_), .v (.int .i64 born), .v (.string text)]) 44) = vc_ProposeN π at_ born text := by kernel_rfl
theorem ok_ProposeN (at_ born : Int) (text : ByteArray) (R : Value → PH → Prop) (s : PH) (h : vc_ProposeN (RP Try.prog R) at_ born text s) : DCalls Try.prog 28 (List.map AV.val [.v (.pointer none), .v (.int .i64 at_), .v (.int .i64 born), .v (.string text)]).toArray s R :=
  calls_vc (c := bodyOf Try.f28) (ann := ann_ProposeN) (by kernel_rfl) Try.func28 rfl (by kernel_rfl) [.v (.pointer none), .v (.int .i64 at_), .v (.int .i64 born), .v (.string text)] [] (by rw [Try.ntmps28]; exact Nat.le_of_ble_eq_true rfl) (by rw [show Try.f28.ntmps = 44 from Try.ntmps28, eq_ProposeN]; exact h)

/-- (*lintel/ballot.Ballot).Take -/
def vc_TakeN {W : Type} (π : Prims W) (mk mf mt mm mi mp mc : Int) (mg : Bool) (la : Option Addr) (ln lc : Nat) (ms : ByteArray) : W :=
  π.nw (Go.Obj.cells #[(Go.Value.int (IntKind.i64) (mk)), (Go.Value.int (IntKind.i64) (mf)), (Go.Value.int (IntKind.i64) (mt)), (Go.Value.int (IntKind.i64) (mm)), (Go.Value.int (IntKind.i64) (mi)), (Go.Value.int (IntKind.i64) (mp)), (Go.Value.int (IntKind.i64) (mc)), (Go.Value.bool (mg)), (Go.Value.slice (la) (ln) (lc)), (Go.Value.string (ms))] (32 : Nat) ((0 : Nat), (0 : Nat))) fun r0 =>
  π.join [(false, [.addr])] (fun J1 =>
    π.ite (true) (
      π.ret (Go.Value.slice (none) ((0 : Nat)) ((0 : Nat)))
    ) (
      π.ld [.int .i64, .int .i64, .int .i64, .int .i64, .int .i64, .int .i64, .int .i64, .bool, .slice, .str] (Addr.mk r0 (0 : Nat) none) fun ((x2 : Int), (x3 : Int), (x4 : Int), (x5 : Int), (x6 : Int), (x7 : Int), (x8 : Int), (b9 : Bool), ((a10 : Option Addr), (n11 : Nat), (c12 : Nat)), (t13 : ByteArray), _) =>
      π.call (44 : Nat) #[(Go.Value.pointer (none)), (Go.Value.agg #[(Go.Value.int (IntKind.i64) (x2)), (Go.Value.int (IntKind.i64) (x3)), (Go.Value.int (IntKind.i64) (x4)), (Go.Value.int (IntKind.i64) (x5)), (Go.Value.int (IntKind.i64) (x6)), (Go.Value.int (IntKind.i64) (x7)), (Go.Value.int (IntKind.i64) (x8)), (Go.Value.bool (b9)), (Go.Value.slice (a10) (n11) (c12)), (Go.Value.string (t13))])] (false, [(false, [.bool])]) fun (((b14 : Bool), _), _) =>
      π.ite (b14) (
        π.ret (Go.Value.slice (none) ((0 : Nat)) ((0 : Nat)))
      ) (
        J1 ((Addr.mk r0 (0 : Nat) none, ()), ())
      )
    )
  ) (fun ((p15, _), _) =>
    π.join [(false, [.addr])] (fun J16 =>
      π.ld [.int .i64] (p15.add (3 : Nat)) fun ((x17 : Int), _) =>
      π.unSome (none) fun p18 =>
      π.ld [.int .i64] ((p18.add (2 : Nat)).add (0 : Nat)) fun ((x19 : Int), _) =>
      π.ite (decide (x17 > x19)) (
        π.ld [.int .i64] (p15.add (3 : Nat)) fun ((x20 : Int), _) =>
        π.call (40 : Nat) #[(Go.Value.pointer (none)), (Go.Value.int (IntKind.i64) (x20)), (Go.Value.int (IntKind.i64) ((-1 : Int))), (Go.Value.int (IntKind.i64) ((0 : Int)))] (true, []) fun (_) =>
        J16 ((p15, ()), ())
      ) (
        J16 ((p15, ()), ())
      )
    ) (fun ((p21, _), _) =>
      π.ld [.int .i64] (p21.add (3 : Nat)) fun ((x22 : Int), _) =>
      π.unSome (none) fun p23 =>
      π.ld [.int .i64] ((p23.add (2 : Nat)).add (0 : Nat)) fun ((x24 : Int), _) =>
      π.ite (decide (x22 < x24)) (
        π.ld [.int .i64] (p21.add (0 : Nat)) fun ((x25 : Int), _) =>
        π.ite (x25 == (1 : Int)) (
          π.ld [.int .i64] (p21.add (1 : Nat)) fun ((x26 : Int), _) =>
          π.call (45 : Nat) #[(Go.Value.pointer (none)), (Go.Value.int (IntKind.i64) ((2 : Int))), (Go.Value.int (IntKind.i64) (x26))] (false, [(true, [.int .i64, .int .i64, .int .i64, .int .i64, .int .i64, .int .i64, .int .i64, .bool, .slice, .str])]) fun (((x27 : Int), (x28 : Int), (x29 : Int), (x30 : Int), (x31 : Int), (x32 : Int), (x33 : Int), (b34 : Bool), ((a35 : Option Addr), (n36 : Nat), (c37 : Nat)), (t38 : ByteArray), _), _) =>
          π.nw (Go.Obj.cells #[(Go.Value.int (IntKind.i64) (x27)), (Go.Value.int (IntKind.i64) (x28)), (Go.Value.int (IntKind.i64) (x29)), (Go.Value.int (IntKind.i64) (x30)), (Go.Value.int (IntKind.i64) (x31)), (Go.Value.int (IntKind.i64) (x32)), (Go.Value.int (IntKind.i64) (x33)), (Go.Value.bool (b34)), (Go.Value.slice (a35) (n36) (c37)), (Go.Value.string (t38))] (32 : Nat) ((0 : Nat), (0 : Nat))) fun r39 =>
          π.ret (Go.Value.slice (some (Addr.mk r39 (0 : Nat) none)) ((1 : Nat)) ((1 : Nat)))
        ) (
          π.join [(false, [.addr]), (false, [.bool])] (fun J40 =>
            π.ite (x25 == (3 : Int)) (
              J40 ((p21, ()), (true, ()), ())
            ) (
              J40 ((p21, ()), (x25 == (5 : Int), ()), ())
            )
          ) (fun ((p41, _), ((b42 : Bool), _), _) =>
            π.ite (b42) (
              π.ld [.int .i64] (p41.add (1 : Nat)) fun ((x43 : Int), _) =>
              π.callQ (26 : Nat) #[(Go.Value.pointer (none))] (false, [(false, [.int .i64])]) fun (((x44 : Int), _), _) =>
              π.call (46 : Nat) #[(Go.Value.pointer (none)), (Go.Value.int (IntKind.i64) (x43)), (Go.Value.bool (false)), (Go.Value.int (IntKind.i64) (x44))] (false, [(false, [.slice])]) fun ((((a45 : Option Addr), (n46 : Nat), (c47 : Nat)), _), _) =>
              π.ret (Go.Value.slice (a45) (n46) (c47))
            ) (
              π.ret (Go.Value.slice (none) ((0 : Nat)) ((0 : Nat)))
            )
          )
        )
      ) (
        π.nw (Go.Obj.cells #[(Go.Value.nilFunc ), (Go.Value.nilFunc ), (Go.Value.nilFunc ), (Go.Value.nilFunc ), (Go.Value.nilFunc )] (89 : Nat) ((0 : Nat), (0 : Nat))) fun r48 =>
        π.st (Addr.mk r48 (0 : Nat) none) [(Go.Value.func (Fn.func (47 : Nat)) #[] #[]), (Go.Value.func (Fn.func (48 : Nat)) #[] #[]), (Go.Value.func (Fn.func (49 : Nat)) #[] #[]), (Go.Value.func (Fn.func (50 : Nat)) #[] #[]), (Go.Value.func (Fn.func (51 : Nat)) #[] #[])] <|
        π.ld [.int .i64] (p21.add (0 : Nat)) fun ((x49 : Int), _) =>
        π.guard ((0 : Int) ≤ IntKind.i64.wrap (x49 - (1 : Int)) ∧ IntKind.i64.wrap (x49 - (1 : Int)) < (5 : Int)) <|
        π.ld [.raw] ((Addr.mk r48 (0 : Nat) none).add ((IntKind.i64.wrap (x49 - (1 : Int))).toNat * (1 : Nat))) fun ((v50 : Value), _) =>
        π.ld [.int .i64, .int .i64, .int .i64, .int .i64, .int .i64, .int .i64, .int .i64, .bool, .slice, .str] (p21) fun ((x51 : Int), (x52 : Int), (x53 : Int), (x54 : Int), (x55 : Int), (x56 : Int), (x57 : Int), (b58 : Bool), ((a59 : Option Addr), (n60 : Nat), (c61 : Nat)), (t62 : ByteArray), _) =>
        π.callV v50 #[(Go.Value.pointer (none)), (Go.Value.agg #[(Go.Value.int (IntKind.i64) (x51)), (Go.Value.int (IntKind.i64) (x52)), (Go.Value.int (IntKind.i64) (x53)), (Go.Value.int (IntKind.i64) (x54)), (Go.Value.int (IntKind.i64) (x55)), (Go.Value.int (IntKind.i64) (x56)), (Go.Value.int (IntKind.i64) (x57)), (Go.Value.bool (b58)), (Go.Value.slice (a59) (n60) (c61)), (Go.Value.string (t62))])] (false, [(false, [.slice])]) fun ((((a63 : Option Addr), (n64 : Nat), (c65 : Nat)), _), _) =>
        π.ret (Go.Value.slice (a63) (n64) (c65))
      )
    )
  )

def ann_TakeN : Ann := { draws := [(3, { A := [0, 1, 2, 3, 4, 5, 6, 7] }), (5, { A := [0, 1, 2, 3, 4, 5, 6, 7] }), (11, { A := [0, 1, 2, 3, 4], quiet := [4], eag := [6] }), (14, { A := [0, 1, 2, 3, 4, 5, 6], eag := [8] })], join := [(3, [(3, 1000000)]), (5, [(3, 1000000)]), (11, [(3, 1000000), (42, 4)])], loop := [] }
set_option maxRecDepth 100000 in
theorem eq_TakeN {W : Type} (π : Prims W) (mk mf mt mm mi mp mc : Int) (mg : Bool) (la : Option Addr) (ln lc : Nat) (ms : ByteArray) : bodyW π Try.prog ann_TakeN (mkFr (maskA [] [.v (.pointer none), .v (.agg #[.int .i64 mk, .int .i64 mf, .int .i64 mt, .int .i64 mm, .int .i64 mi, .int .i64 mp, .int .i64 mc, .bool mg, .slice la ln lc, .string ms])] 0) 60) Try.f25 (bodyOf Try.f25) (mkFr (List.map some [.v (.pointer none), .v (.agg #[.int .i64 mk, .int .i64 mf, .int .i64 mt, .int .i64 mm, .int .i64 mi, .int .i64 mp, .int .i64 mc, .bool mg, .slice la ln lc, .string ms])]) 60) = vc_TakeN π mk mf mt mm mi mp mc mg la ln lc ms := by kernel_rfl
theorem ok_TakeN (mk mf mt mm mi mp mc : Int) (mg : Bool) (la : Option Addr) (ln lc : Nat) (ms : ByteArray) (R : Value → PH → Prop) (s : PH) (h : vc_TakeN (RP Try.prog R) mk mf mt mm mi mp mc mg la ln lc ms s) : DCalls Try.prog 25 (List.map AV.val [.v (.pointer none), .v (.agg #[.int .i64 mk, .int .i64 mf, .int .i64 mt, .int .i64 mm, .int .i64 mi, .int .i64 mp, .int .i64 mc, .bool mg, .slice la ln lc, .string ms])]).toArray s R :=
  calls_vc (c := bodyOf Try.f25) (ann := ann_TakeN) (by kernel_rfl) Try.func25 rfl (by kernel_rfl) [.v (.pointer none), .v (.agg #[.int .i64 mk, .int .i64 mf, .int .i64 mt, .int .i64 mm, .int .i64 mi, .int .i64 mp, .int .i64 mc, .bool mg, .slice la ln lc, .string ms])] [] (by rw [Try.ntmps25]; exact Nat.le_of_ble_eq_true rfl) (by rw [show Try.f25.ntmps = 60 from Try.ntmps25, eq_TakeN]; exact h)

/-- (*lintel/ballot.Ballot).Cut -/
def vc_CutN {W : Type} (π : Prims W) (i : Int) (snap : ByteArray) : W :=
  π.join [] (fun J0 =>
    π.ite (true) (
      π.ret (Go.Value.bool (false))
    ) (
      π.unSome (none) fun p1 =>
      π.ld [.int .i64] ((p1.add (2 : Nat)).add (4 : Nat)) fun ((x2 : Int), _) =>
      π.ite (decide (i ≤ x2)) (
        π.ret (Go.Value.bool (false))
      ) (
        π.unSome (none) fun p3 =>
        π.ld [.int .i64] ((p3.add (2 : Nat)).add (6 : Nat)) fun ((x4 : Int), _) =>
        π.ite (decide (i > x4)) (
          π.ret (Go.Value.bool (false))
        ) (
          J0 (())
        )
      )
    )
  ) (fun (_) =>
    π.call (55 : Nat) #[(Go.Value.pointer (none)), (Go.Value.int (IntKind.i64) (i))] (true, [(false, [.int .i64]), (false, [.bool])]) fun (((x5 : Int), _), ((b6 : Bool), _), _) =>
    π.unSome (none) fun p7 =>
    π.ld [.slice] (p7.add (11 : Nat)) fun (((a8 : Option Addr), (n9 : Nat), (c10 : Nat)), _) =>
    π.unSome (none) fun p11 =>
    π.ld [.int .i64] ((p11.add (2 : Nat)).add (4 : Nat)) fun ((x12 : Int), _) =>
    π.guard ((0 : Int) ≤ IntKind.i64.wrap (i - x12) ∧ IntKind.i64.wrap (i - x12) ≤ (↑n9 : Int) ∧ (↑n9 : Int) ≤ (↑c10 : Int)) <|
    π.call (38 : Nat) #[(Go.Value.slice (if c10 = (IntKind.i64.wrap (i - x12)).toNat then a8 else Option.map (fun x => x.add ((IntKind.i64.wrap (i - x12)).toNat * (4 : Nat))) a8) ((↑n9 : Int).toNat - (IntKind.i64.wrap (i - x12)).toNat) (c10 - (IntKind.i64.wrap (i - x12)).toNat))] (false, [(false, [.slice])]) fun ((((a13 : Option Addr), (n14 : Nat), (c15 : Nat)), _), _) =>
    π.call (56 : Nat) #[(Go.Value.pointer (none)), (Go.Value.int (IntKind.i64) (i)), (Go.Value.int (IntKind.i64) (x5)), (Go.Value.string (snap)), (Go.Value.slice (a13) (n14) (c15))] (true, []) fun (_) =>
    π.ret (Go.Value.bool (true))
  )

def ann_CutN : Ann := { draws := [(4, { A := [0, 1, 2, 3, 4, 5, 6, 7, 8, 9, 10, 11, 12, 13, 14, 15] })], join := [(3, [])], loop := [] }
set_option maxRecDepth 100000 in
theorem eq_CutN {W : Type} (π : Prims W) (i : Int) (snap : ByteArray) : bodyW π Try.prog ann_CutN (mkFr (maskA [] [.v (.pointer none), .v (.int .i64 i), .v (.string snap)] 0) 53) Try.f30 (bodyOf Try.f30) (mkFr (List.map some [.v (.pointer none), .v (.int .i64 i), .v (.string snap)]) 53) = vc_CutN π i snap := by kernel_rfl
theorem ok_CutN (i : Int) (snap : ByteArray) (R : Value → PH → Prop) (s : PH) (h : vc_CutN (RP Try.prog R) i snap s) : DCalls Try.prog 30 (List.map AV.val [.v (.pointer none), .v (.int .i64 i), .v (.string snap)]).toArray s R :=
  calls_vc (c := bodyOf Try.f30) (ann := ann_CutN) (by kernel_rfl) Try.func30 rfl (by kernel_rfl) [.v (.pointer none), .v (.int .i64 i), .v (.string snap)] [] (by rw [Try.ntmps30]; exact Nat.le_of_ble_eq_true rfl) (by rw [show Try.f30.ntmps = 53 from Try.ntmps30, eq_CutN]; exact h)

/-- (*lintel/ballot.Ballot).Delta -/
def vc_DeltaN {W : Type} (π : Prims W) : W :=
  π.nw (Go.Obj.cells #[(Go.Value.int (IntKind.i64) ((0 : Int))), (Go.Value.int (IntKind.i64) ((0 : Int))), (Go.Value.bool (false)), (Go.Value.int (IntKind.i64) ((0 : Int))), (Go.Value.int (IntKind.i64) ((0 : Int))), (Go.Value.string (ByteArray.mk #[])), (Go.Value.int (IntKind.i64) ((0 : Int))), (Go.Value.slice (none) ((0 : Nat)) ((0 : Nat)))] (53 : Nat) ((0 : Nat), (0 : Nat))) fun r0 =>
  π.join [(false, [.addr])] (fun J1 =>
    π.ite (true) (
      π.st (Addr.mk r0 (0 : Nat) none) [(Go.Value.int (IntKind.i64) ((0 : Int))), (Go.Value.int (IntKind.i64) ((0 : Int))), (Go.Value.bool (false)), (Go.Value.int (IntKind.i64) ((0 : Int))), (Go.Value.int (IntKind.i64) ((0 : Int))), (Go.Value.string (ByteArray.mk #[])), (Go.Value.int (IntKind.i64) ((0 : Int))), (Go.Value.slice (none) ((0 : Nat)) ((0 : Nat)))] <|
      π.ld [.int .i64, .int .i64, .bool, .int .i64, .int .i64, .str, .int .i64, .slice] (Addr.mk r0 (0 : Nat) none) fun ((x2 : Int), (x3 : Int), (b4 : Bool), (x5 : Int), (x6 : Int), (t7 : ByteArray), (x8 : Int), ((a9 : Option Addr), (n10 : Nat), (c11 : Nat)), _) =>
      π.ret (Go.Value.tuple #[(Go.Value.agg #[(Go.Value.int (IntKind.i64) (x2)), (Go.Value.int (IntKind.i64) (x3)), (Go.Value.bool (b4)), (Go.Value.int (IntKind.i64) (x5)), (Go.Value.int (IntKind.i64) (x6)), (Go.Value.string (t7)), (Go.Value.int (IntKind.i64) (x8)), (Go.Value.slice (a9) (n10) (c11))]), (Go.Value.bool (false))])
    ) (
      π.unSome (none) fun p12 =>
      π.ld [.bool] (p12.add (15 : Nat)) fun ((b13 : Bool), _) =>
      π.ite (!b13) (
        π.st (Addr.mk r0 (0 : Nat) none) [(Go.Value.int (IntKind.i64) ((0 : Int))), (Go.Value.int (IntKind.i64) ((0 : Int))), (Go.Value.bool (false)), (Go.Value.int (IntKind.i64) ((0 : Int))), (Go.Value.int (IntKind.i64) ((0 : Int))), (Go.Value.string (ByteArray.mk #[])), (Go.Value.int (IntKind.i64) ((0 : Int))), (Go.Value.slice (none) ((0 : Nat)) ((0 : Nat)))] <|
        π.ld [.int .i64, .int .i64, .bool, .int .i64, .int .i64, .str, .int .i64, .slice] (Addr.mk r0 (0 : Nat) none) fun ((x14 : Int), (x15 : Int), (b16 : Bool), (x17 : Int), (x18 : Int), (t19 : ByteArray), (x20 : Int), ((a21 : Option Addr), (n22 : Nat), (c23 : Nat)), _) =>
        π.ret (Go.Value.tuple #[(Go.Value.agg #[(Go.Value.int (IntKind.i64) (x14)), (Go.Value.int (IntKind.i64) (x15)), (Go.Value.bool (b16)), (Go.Value.int (IntKind.i64) (x17)), (Go.Value.int (IntKind.i64) (x18)), (Go.Value.string (t19)), (Go.Value.int (IntKind.i64) (x20)), (Go.Value.slice (a21) (n22) (c23))]), (Go.Value.bool (false))])
      ) (
        J1 ((Addr.mk r0 (0 : Nat) none, ()), ())
      )
    )
  ) (fun ((p24, _), _) =>
    π.unSome (none) fun p25 =>
    π.ld [.int .i64] ((p25.add (2 : Nat)).add (0 : Nat)) fun ((x26 : Int), _) =>
    π.unSome (none) fun p27 =>
    π.ld [.int .i64] ((p27.add (2 : Nat)).add (1 : Nat)) fun ((x28 : Int), _) =>
    π.unSome (none) fun p29 =>
    π.ld [.int .i64] (p29.add (17 : Nat)) fun ((x30 : Int), _) =>
    π.nw (Go.Obj.cells #[(Go.Value.int (IntKind.i64) ((0 : Int))), (Go.Value.int (IntKind.i64) ((0 : Int))), (Go.Value.bool (false)), (Go.Value.int (IntKind.i64) ((0 : Int))), (Go.Value.int (IntKind.i64) ((0 : Int))), (Go.Value.string (ByteArray.mk #[])), (Go.Value.int (IntKind.i64) ((0 : Int))), (Go.Value.slice (none) ((0 : Nat)) ((0 : Nat)))] (53 : Nat) ((0 : Nat), (0 : Nat))) fun r31 =>
    π.st (Addr.mk r31 (0 : Nat) none) [(Go.Value.int (IntKind.i64) (x26)), (Go.Value.int (IntKind.i64) (x28)), (Go.Value.bool (false)), (Go.Value.int (IntKind.i64) ((0 : Int))), (Go.Value.int (IntKind.i64) ((0 : Int))), (Go.Value.string (ByteArray.mk #[])), (Go.Value.int (IntKind.i64) (x30)), (Go.Value.slice (none) ((0 : Nat)) ((0 : Nat)))] <|
    π.join [(false, [.addr]), (false, [.addr])] (fun J32 =>
      π.unSome (none) fun p33 =>
      π.ld [.bool] (p33.add (16 : Nat)) fun ((b34 : Bool), _) =>
      π.ite (b34) (
        π.unSome (none) fun p35 =>
        π.ld [.int .i64] ((p35.add (2 : Nat)).add (4 : Nat)) fun ((x36 : Int), _) =>
        π.unSome (none) fun p37 =>
        π.ld [.int .i64] (p37.add (9 : Nat)) fun ((x38 : Int), _) =>
        π.unSome (none) fun p39 =>
        π.ld [.str] (p39.add (10 : Nat)) fun ((t40 : ByteArray), _) =>
        π.unSome (none) fun p41 =>
        π.ld [.int .i64] ((p41.add (2 : Nat)).add (4 : Nat)) fun ((x42 : Int), _) =>
        π.st ((Addr.mk r31 (0 : Nat) none).add (2 : Nat)) [(Go.Value.bool (true))] <|
        π.still [.int .i64] ((p35.add (2 : Nat)).add (4 : Nat)) (x36, ()) <|
        π.still [.int .i64] (p37.add (9 : Nat)) (x38, ()) <|
        π.still [.str] (p39.add (10 : Nat)) (t40, ()) <|
        π.still [.int .i64] ((p41.add (2 : Nat)).add (4 : Nat)) (x42, ()) <|
        π.st ((Addr.mk r31 (0 : Nat) none).add (3 : Nat)) [(Go.Value.int (IntKind.i64) (x36))] <|
        π.still [.int .i64] (p37.add (9 : Nat)) (x38, ()) <|
        π.still [.str] (p39.add (10 : Nat)) (t40, ()) <|
        π.still [.int .i64] ((p41.add (2 : Nat)).add (4 : Nat)) (x42, ()) <|
        π.st ((Addr.mk r31 (0 : Nat) none).add (4 : Nat)) [(Go.Value.int (IntKind.i64) (x38))] <|
        π.still [.str] (p39.add (10 : Nat)) (t40, ()) <|
        π.still [.int .i64] ((p41.add (2 : Nat)).add (4 : Nat)) (x42, ()) <|
        π.st ((Addr.mk r31 (0 : Nat) none).add (5 : Nat)) [(Go.Value.string (t40))] <|
        π.still [.int .i64] ((p41.add (2 : Nat)).add (4 : Nat)) (x42, ()) <|
        π.st ((Addr.mk r31 (0 : Nat) none).add (6 : Nat)) [(Go.Value.int (IntKind.i64) (IntKind.i64.wrap (x42 + (1 : Int))))] <|
        J32 ((p24, ()), (Addr.mk r31 (0 : Nat) none, ()), ())
      ) (
        J32 ((p24, ()), (Addr.mk r31 (0 : Nat) none, ()), ())
      )
    ) (fun ((p43, _), (p44, _), _) =>
      π.unSome (none) fun p45 =>
      π.ld [.slice] (p45.add (11 : Nat)) fun (((a46 : Option Addr), (n47 : Nat), (c48 : Nat)), _) =>
      π.ld [.int .i64] (p44.add (6 : Nat)) fun ((x49 : Int), _) =>
      π.unSome (none) fun p50 =>
      π.ld [.int .i64] ((p50.add (2 : Nat)).add (4 : Nat)) fun ((x51 : Int), _) =>
      π.guard ((0 : Int) ≤ IntKind.i64.wrap (IntKind.i64.wrap (x49 - x51) - (1 : Int)) ∧ IntKind.i64.wrap (IntKind.i64.wrap (x49 - x51) - (1 : Int)) ≤ (↑n47 : Int) ∧ (↑n47 : Int) ≤ (↑c48 : Int)) <|
      π.call (38 : Nat) #[(Go.Value.slice (if c48 = (IntKind.i64.wrap (IntKind.i64.wrap (x49 - x51) - (1 : Int))).toNat then a46 else Option.map (fun x => x.add ((IntKind.i64.wrap (IntKind.i64.wrap (x49 - x51) - (1 : Int))).toNat * (4 : Nat))) a46) ((↑n47 : Int).toNat - (IntKind.i64.wrap (IntKind.i64.wrap (x49 - x51) - (1 : Int))).toNat) (c48 - (IntKind.i64.wrap (IntKind.i64.wrap (x49 - x51) - (1 : Int))).toNat))] (false, [(false, [.slice])]) fun ((((a52 : Option Addr), (n53 : Nat), (c54 : Nat)), _), _) =>
      π.st (p44.add (7 : Nat)) [(Go.Value.slice (a52) (n53) (c54))] <|
      π.call (23 : Nat) #[(Go.Value.pointer (none))] (true, []) fun (_) =>
      π.ld [.int .i64, .int .i64, .bool, .int .i64, .int .i64, .str, .int .i64, .slice] (p44) fun ((x55 : Int), (x56 : Int), (b57 : Bool), (x58 : Int), (x59 : Int), (t60 : ByteArray), (x61 : Int), ((a62 : Option Addr), (n63 : Nat), (c64 : Nat)), _) =>
      π.st (p43) [(Go.Value.int (IntKind.i64) (x55)), (Go.Value.int (IntKind.i64) (x56)), (Go.Value.bool (b57)), (Go.Value.int (IntKind.i64) (x58)), (Go.Value.int (IntKind.i64) (x59)), (Go.Value.string (t60)), (Go.Value.int (IntKind.i64) (x61)), (Go.Value.slice (a62) (n63) (c64))] <|
      π.ld [.int .i64, .int .i64, .bool, .int .i64, .int .i64, .str, .int .i64, .slice] (p43) fun ((x65 : Int), (x66 : Int), (b67 : Bool), (x68 : Int), (x69 : Int), (t70 : ByteArray), (x71 : Int), ((a72 : Option Addr), (n73 : Nat), (c74 : Nat)), _) =>
      π.ret (Go.Value.tuple #[(Go.Value.agg #[(Go.Value.int (IntKind.i64) (x65)), (Go.Value.int (IntKind.i64) (x66)), (Go.Value.bool (b67)), (Go.Value.int (IntKind.i64) (x68)), (Go.Value.int (IntKind.i64) (x69)), (Go.Value.string (t70)), (Go.Value.int (IntKind.i64) (x71)), (Go.Value.slice (a72) (n73) (c74))]), (Go.Value.bool (true))])
    )
  )

def ann_DeltaN : Ann := { draws := [(3, { A := [0, 1, 2, 3, 4, 5, 6, 7, 8, 9, 10, 11, 12, 13, 14] }), (5, { A := [0, 1, 2, 3, 4, 5, 6, 7, 8, 9, 10, 11, 12, 13, 14, 15, 16, 17, 18, 19], chkL := [(20, [4, 8, 12, 17]), (22, [8, 12, 17]), (24, [12, 17]), (26, [17])], eag := [21, 23, 25, 27] }), (6, { A := [0, 1, 2, 3, 4, 5, 6, 7, 8, 9, 10, 11, 12, 13], eag := [15] })], join := [(3, [(2, 1000000)]), (6, [(2, 1000000), (4, 1000000)])], loop := [] }
set_option maxRecDepth 100000 in
theorem eq_DeltaN {W : Type} (π : Prims W) : bodyW π Try.prog ann_DeltaN (mkFr (maskA [] [.v (.pointer none)] 0) 77) Try.f17 (bodyOf Try.f17) (mkFr (List.map some [.v (.pointer none)]) 77) = vc_DeltaN π := by kernel_rfl
theorem ok_DeltaN (R : Value → PH → Prop) (s : PH) (h : vc_DeltaN (RP Try.prog R) s) : DCalls Try.prog 17 (List.map AV.val [.v (.pointer none)]).toArray s R :=
  calls_vc (c := bodyOf Try.f17) (ann := ann_DeltaN) (by kernel_rfl) Try.func17 rfl (by kernel_rfl) [.v (.pointer none)] [] (by rw [Try.ntmps17]; exact Nat.le_of_ble_eq_true rfl) (by rw [show Try.f17.ntmps = 77 from Try.ntmps17, eq_DeltaN]; exact h)

/-- (*lintel/ballot.Ballot).Entry -/
def vc_EntryN {W : Type} (π : Prims W) (i : Int) : W :=
  π.nw (Go.Obj.cells #[(Go.Value.int (IntKind.i64) ((0 : Int))), (Go.Value.int (IntKind.i64) ((0 : Int))), (Go.Value.int (IntKind.i64) ((0 : Int))), (Go.Value.string (ByteArray.mk #[]))] (39 : Nat) ((0 : Nat), (0 : Nat))) fun r0 =>
  π.ite (true) (
    π.st (Addr.mk r0 (0 : Nat) none) [(Go.Value.int (IntKind.i64) ((0 : Int))), (Go.Value.int (IntKind.i64) ((0 : Int))), (Go.Value.int (IntKind.i64) ((0 : Int))), (Go.Value.string (ByteArray.mk #[]))] <|
    π.ld [.int .i64, .int .i64, .int .i64, .str] (Addr.mk r0 (0 : Nat) none) fun ((x1 : Int), (x2 : Int), (x3 : Int), (t4 : ByteArray), _) =>
    π.ret (Go.Value.tuple #[(Go.Value.agg #[(Go.Value.int (IntKind.i64) (x1)), (Go.Value.int (IntKind.i64) (x2)), (Go.Value.int (IntKind.i64) (x3)), (Go.Value.string (t4))]), (Go.Value.bool (false))])
  ) (
    π.unSome (none) fun p5 =>
    π.ld [.int .i64] ((p5.add (2 : Nat)).add (4 : Nat)) fun ((x6 : Int), _) =>
    π.ite (decide (i ≤ x6)) (
      π.st (Addr.mk r0 (0 : Nat) none) [(Go.Value.int (IntKind.i64) ((0 : Int))), (Go.Value.int (IntKind.i64) ((0 : Int))), (Go.Value.int (IntKind.i64) ((0 : Int))), (Go.Value.string (ByteArray.mk #[]))] <|
      π.ld [.int .i64, .int .i64, .int .i64, .str] (Addr.mk r0 (0 : Nat) none) fun ((x7 : Int), (x8 : Int), (x9 : Int), (t10 : ByteArray), _) =>
      π.ret (Go.Value.tuple #[(Go.Value.agg #[(Go.Value.int (IntKind.i64) (x7)), (Go.Value.int (IntKind.i64) (x8)), (Go.Value.int (IntKind.i64) (x9)), (Go.Value.string (t10))]), (Go.Value.bool (false))])
    ) (
      π.call (26 : Nat) #[(Go.Value.pointer (none))] (false, [(false, [.int .i64])]) fun (((x11 : Int), _), _) =>
      π.ite (decide (i > x11)) (
        π.st (Addr.mk r0 (0 : Nat) none) [(Go.Value.int (IntKind.i64) ((0 : Int))), (Go.Value.int (IntKind.i64) ((0 : Int))), (Go.Value.int (IntKind.i64) ((0 : Int))), (Go.Value.string (ByteArray.mk #[]))] <|
        π.ld [.int .i64, .int .i64, .int .i64, .str] (Addr.mk r0 (0 : Nat) none) fun ((x12 : Int), (x13 : Int), (x14 : Int), (t15 : ByteArray), _) =>
        π.ret (Go.Value.tuple #[(Go.Value.agg #[(Go.Value.int (IntKind.i64) (x12)), (Go.Value.int (IntKind.i64) (x13)), (Go.Value.int (IntKind.i64) (x14)), (Go.Value.string (t15))]), (Go.Value.bool (false))])
      ) (
        π.unSome (none) fun p16 =>
        π.ld [.slice] (p16.add (11 : Nat)) fun (((a17 : Option Addr), (n18 : Nat), (c19 : Nat)), _) =>
        π.unSome (none) fun p20 =>
        π.ld [.int .i64] ((p20.add (2 : Nat)).add (4 : Nat)) fun ((x21 : Int), _) =>
        π.guard ((0 : Int) ≤ IntKind.i64.wrap (IntKind.i64.wrap (i - x21) - (1 : Int)) ∧ IntKind.i64.wrap (IntKind.i64.wrap (i - x21) - (1 : Int)) < (↑n18 : Int)) <|
        π.unSome (a17) fun p22 =>
        π.ld [.int .i64, .int .i64, .int .i64, .str] (p22.add ((IntKind.i64.wrap (IntKind.i64.wrap (i - x21) - (1 : Int))).toNat * (4 : Nat))) fun ((x23 : Int), (x24 : Int), (x25 : Int), (t26 : ByteArray), _) =>
        π.st (Addr.mk r0 (0 : Nat) none) [(Go.Value.int (IntKind.i64) (x23)), (Go.Value.int (IntKind.i64) (x24)), (Go.Value.int (IntKind.i64) (x25)), (Go.Value.string (t26))] <|
        π.ld [.int .i64, .int .i64, .int .i64, .str] (Addr.mk r0 (0 : Nat) none) fun ((x27 : Int), (x28 : Int), (x29 : Int), (t30 : ByteArray), _) =>
        π.ret (Go.Value.tuple #[(Go.Value.agg #[(Go.Value.int (IntKind.i64) (x27)), (Go.Value.int (IntKind.i64) (x28)), (Go.Value.int (IntKind.i64) (x29)), (Go.Value.string (t30))]), (Go.Value.bool (true))])
      )
    )
  )

def ann_EntryN : Ann := { draws := [(3, { A := [0, 1, 2, 3, 4, 5, 6, 7, 8, 9, 10, 11, 12, 13], eag := [15] })], join := [], loop := [] }
set_option maxRecDepth 100000 in
theorem eq_EntryN {W : Type} (π : Prims W) (i : Int) : bodyW π Try.prog ann_EntryN (mkFr (maskA [] [.v (.pointer none), .v (.int .i64 i)] 0) 38) Try.f11 (bodyOf Try.f11) (mkFr (List.map some [.v (.pointer none), .v (.int .i64 i)]) 38) = vc_EntryN π i := by kernel_rfl
theorem ok_EntryN (i : Int) (R : Value → PH → Prop) (s : PH) (h : vc_EntryN (RP Try.prog R) i s) : DCalls Try.prog 11 (List.map AV.val [.v (.pointer none), .v (.int .i64 i)]).toArray s R :=
  calls_vc (c := bodyOf Try.f11) (ann := ann_EntryN) (by kernel_rfl) Try.func11 rfl (by kernel_rfl) [.v (.pointer none), .v (.int .i64 i)] [] (by rw [Try.ntmps11]; exact Nat.le_of_ble_eq_true rfl) (by rw [show Try.f11.ntmps = 38 from Try.ntmps11, eq_EntryN]; exact h)

/-- (*lintel/ballot.Ballot).Snap -/
def vc_SnapN {W : Type} (π : Prims W) : W :=
  π.ite (true) (
    π.ret (Go.Value.string (ByteArray.mk #[]))
  ) (
    π.unSome (none) fun p0 =>
    π.ld [.str] (p0.add (10 : Nat)) fun ((t1 : ByteArray), _) =>
    π.ret (Go.Value.string (t1))
  )

def ann_SnapN : Ann := { draws := [], join := [], loop := [] }
set_option maxRecDepth 100000 in
theorem eq_SnapN {W : Type} (π : Prims W) : bodyW π Try.prog ann_SnapN (mkFr (maskA [] [.v (.pointer none)] 0) 9) Try.f20 (bodyOf Try.f20) (mkFr (List.map some [.v (.pointer none)]) 9) = vc_SnapN π := by kernel_rfl
theorem ok_SnapN (R : Value → PH → Prop) (s : PH) (h : vc_SnapN (RP Try.prog R) s) : DCalls Try.prog 20 (List.map AV.val [.v (.pointer none)]).toArray s R :=
  calls_vc (c := bodyOf Try.f20) (ann := ann_SnapN) (by kernel_rfl) Try.func20 rfl (by kernel_rfl) [.v (.pointer none)] [] (by rw [Try.ntmps20]; exact Nat.le_of_ble_eq_true rfl) (by rw [show Try.f20.ntmps = 9 from Try.ntmps20, eq_SnapN]; exact h)

/-- (*lintel/ballot.Ballot).Stand -/
def vc_StandN {W : Type} (π : Prims W) : W :=
  π.nw (Go.Obj.cells #[(Go.Value.int (IntKind.i64) ((0 : Int))), (Go.Value.int (IntKind.i64) ((0 : Int))), (Go.Value.int (IntKind.i64) ((0 : Int))), (Go.Value.int (IntKind.i64) ((0 : Int))), (Go.Value.int (IntKind.i64) ((0 : Int))), (Go.Value.int (IntKind.i64) ((0 : Int))), (Go.Value.int (IntKind.i64) ((0 : Int)))] (36 : Nat) ((0 : Nat), (0 : Nat))) fun r0 =>
  π.ite (true) (
    π.st (Addr.mk r0 (0 : Nat) none) [(Go.Value.int (IntKind.i64) ((0 : Int))), (Go.Value.int (IntKind.i64) ((0 : Int))), (Go.Value.int (IntKind.i64) ((0 : Int))), (Go.Value.int (IntKind.i64) ((0 : Int))), (Go.Value.int (IntKind.i64) ((0 : Int))), (Go.Value.int (IntKind.i64) ((0 : Int))), (Go.Value.int (IntKind.i64) ((0 : Int)))] <|
    π.ld [.int .i64, .int .i64, .int .i64, .int .i64, .int .i64, .int .i64, .int .i64] (Addr.mk r0 (0 : Nat) none) fun ((x1 : Int), (x2 : Int), (x3 : Int), (x4 : Int), (x5 : Int), (x6 : Int), (x7 : Int), _) =>
    π.ret (Go.Value.agg #[(Go.Value.int (IntKind.i64) (x1)), (Go.Value.int (IntKind.i64) (x2)), (Go.Value.int (IntKind.i64) (x3)), (Go.Value.int (IntKind.i64) (x4)), (Go.Value.int (IntKind.i64) (x5)), (Go.Value.int (IntKind.i64) (x6)), (Go.Value.int (IntKind.i64) (x7))])
  ) (
    π.unSome (none) fun p8 =>
    π.ld [.int .i64, .int .i64, .int .i64, .int .i64, .int .i64, .int .i64, .int .i64] (p8.add (2 : Nat)) fun ((x9 : Int), (x10 : Int), (x11 : Int), (x12 : Int), (x13 : Int), (x14 : Int), (x15 : Int), _) =>
    π.nw (Go.Obj.cells #[(Go.Value.int (IntKind.i64) ((0 : Int))), (Go.Value.int (IntKind.i64) ((0 : Int))), (Go.Value.int (IntKind.i64) ((0 : Int))), (Go.Value.int (IntKind.i64) ((0 : Int))), (Go.Value.int (IntKind.i64) ((0 : Int))), (Go.Value.int (IntKind.i64) ((0 : Int))), (Go.Value.int (IntKind.i64) ((0 : Int)))] (36 : Nat) ((0 : Nat), (0 : Nat))) fun r16 =>
    π.st (Addr.mk r16 (0 : Nat) none) [(Go.Value.int (IntKind.i64) (x9)), (Go.Value.int (IntKind.i64) (x10)), (Go.Value.int (IntKind.i64) (x11)), (Go.Value.int (IntKind.i64) (x12)), (Go.Value.int (IntKind.i64) (x13)), (Go.Value.int (IntKind.i64) (x14)), (Go.Value.int (IntKind.i64) (x15))] <|
    π.call (26 : Nat) #[(Go.Value.pointer (none))] (false, [(false, [.int .i64])]) fun (((x17 : Int), _), _) =>
    π.st ((Addr.mk r16 (0 : Nat) none).add (5 : Nat)) [(Go.Value.int (IntKind.i64) (x17))] <|
    π.ld [.int .i64, .int .i64, .int .i64, .int .i64, .int .i64, .int .i64, .int .i64] (Addr.mk r16 (0 : Nat) none) fun ((x18 : Int), (x19 : Int), (x20 : Int), (x21 : Int), (x22 : Int), (x23 : Int), (x24 : Int), _) =>
    π.st (Addr.mk r0 (0 : Nat) none) [(Go.Value.int (IntKind.i64) (x18)), (Go.Value.int (IntKind.i64) (x19)), (Go.Value.int (IntKind.i64) (x20)), (Go.Value.int (IntKind.i64) (x21)), (Go.Value.int (IntKind.i64) (x22)), (Go.Value.int (IntKind.i64) (x23)), (Go.Value.int (IntKind.i64) (x24))] <|
    π.ld [.int .i64, .int .i64, .int .i64, .int .i64, .int .i64, .int .i64, .int .i64] (Addr.mk r0 (0 : Nat) none) fun ((x25 : Int), (x26 : Int), (x27 : Int), (x28 : Int), (x29 : Int), (x30 : Int), (x31 : Int), _) =>
    π.ret (Go.Value.agg #[(Go.Value.int (IntKind.i64) (x25)), (Go.Value.int (IntKind.i64) (x26)), (Go.Value.int (IntKind.i64) (x27)), (Go.Value.int (IntKind.i64) (x28)), (Go.Value.int (IntKind.i64) (x29)), (Go.Value.int (IntKind.i64) (x30)), (Go.Value.int (IntKind.i64) (x31))])
  )

def ann_StandN : Ann := { draws := [], join := [], loop := [] }
set_option maxRecDepth 100000 in
theorem eq_StandN {W : Type} (π : Prims W) : bodyW π Try.prog ann_StandN (mkFr (maskA [] [.v (.pointer none)] 0) 15) Try.f10 (bodyOf Try.f10) (mkFr (List.map some [.v (.pointer none)]) 15) = vc_StandN π := by kernel_rfl
theorem ok_StandN (R : Value → PH → Prop) (s : PH) (h : vc_StandN (RP Try.prog R) s) : DCalls Try.prog 10 (List.map AV.val [.v (.pointer none)]).toArray s R :=
  calls_vc (c := bodyOf Try.f10) (ann := ann_StandN) (by kernel_rfl) Try.func10 rfl (by kernel_rfl) [.v (.pointer none)] [] (by rw [Try.ntmps10]; exact Nat.le_of_ble_eq_true rfl) (by rw [show Try.f10.ntmps = 15 from Try.ntmps10, eq_StandN]; exact h)

/-- lintel/lintellaw09.copied -/
def vc_copied {W : Type} (π : Prims W) (mk mf mt mm mi mp mc : Int) (mg : Bool) (la : Option Addr) (ln lc : Nat) (ms : ByteArray) : W :=
  π.nw (Go.Obj.cells #[(Go.Value.int (IntKind.i64) (mk)), (Go.Value.int (IntKind.i64) (mf)), (Go.Value.int (IntKind.i64) (mt)), (Go.Value.int (IntKind.i64) (mm)), (Go.Value.int (IntKind.i64) (mi)), (Go.Value.int (IntKind.i64) (mp)), (Go.Value.int (IntKind.i64) (mc)), (Go.Value.bool (mg)), (Go.Value.slice (la) (ln) (lc)), (Go.Value.string (ms))] (32 : Nat) ((0 : Nat), (0 : Nat))) fun r0 =>
  π.nw (Go.Obj.cells #[(Go.Value.int (IntKind.i64) ((0 : Int))), (Go.Value.int (IntKind.i64) ((0 : Int))), (Go.Value.int (IntKind.i64) ((0 : Int))), (Go.Value.int (IntKind.i64) ((0 : Int))), (Go.Value.int (IntKind.i64) ((0 : Int))), (Go.Value.int (IntKind.i64) ((0 : Int))), (Go.Value.int (IntKind.i64) ((0 : Int))), (Go.Value.bool (false)), (Go.Value.slice (none) ((0 : Nat)) ((0 : Nat))), (Go.Value.string (ByteArray.mk #[]))] (32 : Nat) ((0 : Nat), (0 : Nat))) fun r1 =>
  π.nw (Go.Obj.cells #[] (39 : Nat) ((0 : Nat), (0 : Nat))) fun r2 =>
  π.ld [.slice] ((Addr.mk r0 (0 : Nat) none).add (8 : Nat)) fun (((a3 : Option Addr), (n4 : Nat), (c5 : Nat)), _) =>
  π.app (39 : Nat) (4 : Nat) (40 : Nat) [(Go.Value.int (IntKind.i64) ((0 : Int))), (Go.Value.int (IntKind.i64) ((0 : Int))), (Go.Value.int (IntKind.i64) ((0 : Int))), (Go.Value.string (ByteArray.mk #[]))] (some (Addr.mk r2 (0 : Nat) none)) ((0 : Nat)) ((0 : Nat)) (Src.sl a3 n4) fun a6 n7 c8 =>
  π.st ((Addr.mk r0 (0 : Nat) none).add (8 : Nat)) [(Go.Value.slice (a6) (n7) (c8))] <|
  π.ld [.int .i64, .int .i64, .int .i64, .int .i64, .int .i64, .int .i64, .int .i64, .bool, .slice, .str] (Addr.mk r0 (0 : Nat) none) fun ((x9 : Int), (x10 : Int), (x11 : Int), (x12 : Int), (x13 : Int), (x14 : Int), (x15 : Int), (b16 : Bool), ((a17 : Option Addr), (n18 : Nat), (c19 : Nat)), (t20 : ByteArray), _) =>
  π.st (Addr.mk r1 (0 : Nat) none) [(Go.Value.int (IntKind.i64) (x9)), (Go.Value.int (IntKind.i64) (x10)), (Go.Value.int (IntKind.i64) (x11)), (Go.Value.int (IntKind.i64) (x12)), (Go.Value.int (IntKind.i64) (x13)), (Go.Value.int (IntKind.i64) (x14)), (Go.Value.int (IntKind.i64) (x15)), (Go.Value.bool (b16)), (Go.Value.slice (a17) (n18) (c19)), (Go.Value.string (t20))] <|
  π.ld [.int .i64, .int .i64, .int .i64, .int .i64, .int .i64, .int .i64, .int .i64, .bool, .slice, .str] (Addr.mk r1 (0 : Nat) none) fun ((x21 : Int), (x22 : Int), (x23 : Int), (x24 : Int), (x25 : Int), (x26 : Int), (x27 : Int), (b28 : Bool), ((a29 : Option Addr), (n30 : Nat), (c31 : Nat)), (t32 : ByteArray), _) =>
  π.ret (Go.Value.agg #[(Go.Value.int (IntKind.i64) (x21)), (Go.Value.int (IntKind.i64) (x22)), (Go.Value.int (IntKind.i64) (x23)), (Go.Value.int (IntKind.i64) (x24)), (Go.Value.int (IntKind.i64) (x25)), (Go.Value.int (IntKind.i64) (x26)), (Go.Value.int (IntKind.i64) (x27)), (Go.Value.bool (b28)), (Go.Value.slice (a29) (n30) (c31)), (Go.Value.string (t32))])

def ann_copied : Ann := { draws := [], join := [], loop := [] }
set_option maxRecDepth 100000 in
theorem eq_copied {W : Type} (π : Prims W) (mk mf mt mm mi mp mc : Int) (mg : Bool) (la : Option Addr) (ln lc : Nat) (ms : ByteArray) : bodyW π Try.prog ann_copied (mkFr (maskA [] [.v (.agg #[.int .i64 mk, .int .i64 mf, .int .i64 mt, .int .i64 mm, .int .i64 mi, .int .i64 mp, .int .i64 mc, .bool mg, .slice la ln lc, .string ms])] 0) 9) Try.f29 (bodyOf Try.f29) (mkFr (List.map some [.v (.agg #[.int .i64 mk, .int .i64 mf, .int .i64 mt, .int .i64 mm, .int .i64 mi, .int .i64 mp, .int .i64 mc, .bool mg, .slice la ln lc, .string ms])]) 9) = vc_copied π mk mf mt mm mi mp mc mg la ln lc ms := by kernel_rfl
theorem ok_copied (mk mf mt mm mi mp mc : Int) (mg : Bool) (la : Option Addr) (ln lc : Nat) (ms : ByteArray) (R : Value → PH → Prop) (s : PH) (h : vc_copied (RP Try.prog R) mk mf mt mm mi mp mc mg la ln lc ms s) : DCalls Try.prog 29 (List.map AV.val [.v (.agg #[.int .i64 mk, .int .i64 mf, .int .i64 mt, .int .i64 mm, .int .i64 mi, .int .i64 mp, .int .i64 mc, .bool mg, .slice la ln lc, .string ms])]).toArray s R :=
  calls_vc (c := bodyOf Try.f29) (ann := ann_copied) (by kernel_rfl) Try.func29 rfl (by kernel_rfl) [.v (.agg #[.int .i64 mk, .int .i64 mf, .int .i64 mt, .int .i64 mm, .int .i64 mi, .int .i64 mp, .int .i64 mc, .bool mg, .slice la ln lc, .string ms])] [] (by rw [Try.ntmps29]; exact Nat.le_of_ble_eq_true rfl) (by rw [show Try.f29.ntmps = 9 from Try.ntmps29, eq_copied]; exact h)

/-- lintel/lintellaw09.did -/
def vc_did {W : Type} (π : Prims W) (b : Nat) (ok oa ob : Int) (ot : ByteArray) (mk mf mt mm mi mp mc : Int) (mg : Bool) (la : Option Addr) (ln lc : Nat) (ms : ByteArray) : W :=
  π.nw (Go.Obj.cells #[(Go.Value.int (IntKind.i64) (ok)), (Go.Value.int (IntKind.i64) (oa)), (Go.Value.int (IntKind.i64) (ob)), (Go.Value.string (ot)), (Go.Value.int (IntKind.i64) (mk)), (Go.Value.int (IntKind.i64) (mf)), (Go.Value.int (IntKind.i64) (mt)), (Go.Value.int (IntKind.i64) (mm)), (Go.Value.int (IntKind.i64) (mi)), (Go.Value.int (IntKind.i64) (mp)), (Go.Value.int (IntKind.i64) (mc)), (Go.Value.bool (mg)), (Go.Value.slice (la) (ln) (lc)), (Go.Value.string (ms))] (34 : Nat) ((0 : Nat), (0 : Nat))) fun r0 =>
  π.ld [.int .i64] ((Addr.mk r0 (0 : Nat) none).add (0 : Nat)) fun ((x1 : Int), _) =>
  π.ite (x1 == (1 : Int)) (
    π.call (24 : Nat) #[(Go.Value.pointer (some (Addr.mk b (0 : Nat) none)))] (false, [(false, [.slice])]) fun ((((a2 : Option Addr), (n3 : Nat), (c4 : Nat)), _), _) =>
    π.ret (Go.Value.tuple #[(Go.Value.slice (a2) (n3) (c4)), (Go.Value.int (IntKind.i64) ((0 : Int)))])
  ) (
    π.ite (x1 == (2 : Int)) (
      π.call (27 : Nat) #[(Go.Value.pointer (some (Addr.mk b (0 : Nat) none)))] (false, [(false, [.slice])]) fun ((((a5 : Option Addr), (n6 : Nat), (c7 : Nat)), _), _) =>
      π.ret (Go.Value.tuple #[(Go.Value.slice (a5) (n6) (c7)), (Go.Value.int (IntKind.i64) ((0 : Int)))])
    ) (
      π.ite (x1 == (3 : Int)) (
        π.ld [.int .i64] ((Addr.mk r0 (0 : Nat) none).add (1 : Nat)) fun ((x8 : Int), _) =>
        π.ld [.int .i64] ((Addr.mk r0 (0 : Nat) none).add (2 : Nat)) fun ((x9 : Int), _) =>
        π.ld [.str] ((Addr.mk r0 (0 : Nat) none).add (3 : Nat)) fun ((t10 : ByteArray), _) =>
        π.call (28 : Nat) #[(Go.Value.pointer (some (Addr.mk b (0 : Nat) none))), (Go.Value.int (IntKind.i64) (x8)), (Go.Value.int (IntKind.i64) (x9)), (Go.Value.string (t10))] (true, [(false, [.int .i64]), (false, [.slice])]) fun (((x11 : Int), _), (((a12 : Option Addr), (n13 : Nat), (c14 : Nat)), _), _) =>
        π.ret (Go.Value.tuple #[(Go.Value.slice (a12) (n13) (c14)), (Go.Value.int (IntKind.i64) (x11))])
      ) (
        π.ite (x1 == (4 : Int)) (
          π.ld [.int .i64, .int .i64, .int .i64, .int .i64, .int .i64, .int .i64, .int .i64, .bool, .slice, .str] ((Addr.mk r0 (0 : Nat) none).add (4 : Nat)) fun ((x15 : Int), (x16 : Int), (x17 : Int), (x18 : Int), (x19 : Int), (x20 : Int), (x21 : Int), (b22 : Bool), ((a23 : Option Addr), (n24 : Nat), (c25 : Nat)), (t26 : ByteArray), _) =>
          π.call (29 : Nat) #[(Go.Value.agg #[(Go.Value.int (IntKind.i64) (x15)), (Go.Value.int (IntKind.i64) (x16)), (Go.Value.int (IntKind.i64) (x17)), (Go.Value.int (IntKind.i64) (x18)), (Go.Value.int (IntKind.i64) (x19)), (Go.Value.int (IntKind.i64) (x20)), (Go.Value.int (IntKind.i64) (x21)), (Go.Value.bool (b22)), (Go.Value.slice (a23) (n24) (c25)), (Go.Value.string (t26))])] (false, [(true, [.int .i64, .int .i64, .int .i64, .int .i64, .int .i64, .int .i64, .int .i64, .bool, .slice, .str])]) fun (((x27 : Int), (x28 : Int), (x29 : Int), (x30 : Int), (x31 : Int), (x32 : Int), (x33 : Int), (b34 : Bool), ((a35 : Option Addr), (n36 : Nat), (c37 : Nat)), (t38 : ByteArray), _), _) =>
          π.call (25 : Nat) #[(Go.Value.pointer (some (Addr.mk b (0 : Nat) none))), (Go.Value.agg #[(Go.Value.int (IntKind.i64) (x27)), (Go.Value.int (IntKind.i64) (x28)), (Go.Value.int (IntKind.i64) (x29)), (Go.Value.int (IntKind.i64) (x30)), (Go.Value.int (IntKind.i64) (x31)), (Go.Value.int (IntKind.i64) (x32)), (Go.Value.int (IntKind.i64) (x33)), (Go.Value.bool (b34)), (Go.Value.slice (a35) (n36) (c37)), (Go.Value.string (t38))])] (false, [(false, [.slice])]) fun ((((a39 : Option Addr), (n40 : Nat), (c41 : Nat)), _), _) =>
          π.ret (Go.Value.tuple #[(Go.Value.slice (a39) (n40) (c41)), (Go.Value.int (IntKind.i64) ((0 : Int)))])
        ) (
          π.ite (x1 == (5 : Int)) (
            π.ld [.int .i64] ((Addr.mk r0 (0 : Nat) none).add (1 : Nat)) fun ((x42 : Int), _) =>
            π.ld [.str] ((Addr.mk r0 (0 : Nat) none).add (3 : Nat)) fun ((t43 : ByteArray), _) =>
            π.call (30 : Nat) #[(Go.Value.pointer (some (Addr.mk b (0 : Nat) none))), (Go.Value.int (IntKind.i64) (x42)), (Go.Value.string (t43))] (false, [(false, [.bool])]) fun (((b44 : Bool), _), _) =>
            π.ite (b44) (
              π.ret (Go.Value.tuple #[(Go.Value.slice (none) ((0 : Nat)) ((0 : Nat))), (Go.Value.int (IntKind.i64) ((1 : Int)))])
            ) (
              π.ret (Go.Value.tuple #[(Go.Value.slice (none) ((0 : Nat)) ((0 : Nat))), (Go.Value.int (IntKind.i64) ((0 : Int)))])
            )
          ) (
            π.ret (Go.Value.tuple #[(Go.Value.slice (none) ((0 : Nat)) ((0 : Nat))), (Go.Value.int (IntKind.i64) ((0 : Int)))])
          )
        )
      )
    )
  )

def ann_did : Ann := { draws := [], join := [], loop := [] }
set_option maxRecDepth 100000 in
theorem eq_did {W : Type} (π : Prims W) (b : Nat) (ok oa ob : Int) (ot : ByteArray) (mk mf mt mm mi mp mc : Int) (mg : Bool) (la : Option Addr) (ln lc : Nat) (ms : ByteArray) : bodyW π Try.prog ann_did (mkFr (maskA [] [.v (.pointer (some ⟨b, 0, none⟩)), .v (.agg #[.int .i64 ok, .int .i64 oa, .int .i64 ob, .string ot, .int .i64 mk, .int .i64 mf, .int .i64 mt, .int .i64 mm, .int .i64 mi, .int .i64 mp, .int .i64 mc, .bool mg, .slice la ln lc, .string ms])] 0) 48) Try.f12 (bodyOf Try.f12) (mkFr (List.map some [.v (.pointer (some ⟨b, 0, none⟩)), .v (.agg #[.int .i64 ok, .int .i64 oa, .int .i64 ob, .string ot, .int .i64 mk, .int .i64 mf, .int .i64 mt, .int .i64 mm, .int .i64 mi, .int .i64 mp, .int .i64 mc, .bool mg, .slice la ln lc, .string ms])]) 48) = vc_did π b ok oa ob ot mk mf mt mm mi mp mc mg la ln lc ms := by kernel_rfl
theorem ok_did (b : Nat) (ok oa ob : Int) (ot : ByteArray) (mk mf mt mm mi mp mc : Int) (mg : Bool) (la : Option Addr) (ln lc : Nat) (ms : ByteArray) (R : Value → PH → Prop) (s : PH) (h : vc_did (RP Try.prog R) b ok oa ob ot mk mf mt mm mi mp mc mg la ln lc ms s) : DCalls Try.prog 12 (List.map AV.val [.v (.pointer (some ⟨b, 0, none⟩)), .v (.agg #[.int .i64 ok, .int .i64 oa, .int .i64 ob, .string ot, .int .i64 mk, .int .i64 mf, .int .i64 mt, .int .i64 mm, .int .i64 mi, .int .i64 mp, .int .i64 mc, .bool mg, .slice la ln lc, .string ms])]).toArray s R :=
  calls_vc (c := bodyOf Try.f12) (ann := ann_did) (by kernel_rfl) Try.func12 rfl (by kernel_rfl) [.v (.pointer (some ⟨b, 0, none⟩)), .v (.agg #[.int .i64 ok, .int .i64 oa, .int .i64 ob, .string ot, .int .i64 mk, .int .i64 mf, .int .i64 mt, .int .i64 mm, .int .i64 mi, .int .i64 mp, .int .i64 mc, .bool mg, .slice la ln lc, .string ms])] [] (by rw [Try.ntmps12]; exact Nat.le_of_ble_eq_true rfl) (by rw [show Try.f12.ntmps = 48 from Try.ntmps12, eq_did]; exact h)

/-- lintel/lintellaw09.did -/
def vc_didN {W : Type} (π : Prims W) (ok oa ob : Int) (ot : ByteArray) (mk mf mt mm mi mp mc : Int) (mg : Bool) (la : Option Addr) (ln lc : Nat) (ms : ByteArray) : W :=
  π.nw (Go.Obj.cells #[(Go.Value.int (IntKind.i64) (ok)), (Go.Value.int (IntKind.i64) (oa)), (Go.Value.int (IntKind.i64) (ob)), (Go.Value.string (ot)), (Go.Value.int (IntKind.i64) (mk)), (Go.Value.int (IntKind.i64) (mf)), (Go.Value.int (IntKind.i64) (mt)), (Go.Value.int (IntKind.i64) (mm)), (Go.Value.int (IntKind.i64) (mi)), (Go.Value.int (IntKind.i64) (mp)), (Go.Value.int (IntKind.i64) (mc)), (Go.Value.bool (mg)), (Go.Value.slice (la) (ln) (lc)), (Go.Value.string (ms))] (34 : Nat) ((0 : Nat), (0 : Nat))) fun r0 =>
  π.ld [.int .i64] ((Addr.mk r0 (0 : Nat) none).add (0 : Nat)) fun ((x1 : Int), _) =>
  π.ite (x1 == (1 : Int)) (
    π.call (24 : Nat) #[(Go.Value.pointer (none))] (false, [(false, [.slice])]) fun ((((a2 : Option Addr), (n3 : Nat), (c4 : Nat)), _), _) =>
    π.ret (Go.Value.tuple #[(Go.Value.slice (a2) (n3) (c4)), (Go.Value.int (IntKind.i64) ((0 : Int)))])
  ) (
    π.ite (x1 == (2 : Int)) (
      π.call (27 : Nat) #[(Go.Value.pointer (none))] (false, [(false, [.slice])]) fun ((((a5 : Option Addr), (n6 : Nat), (c7 : Nat)), _), _) =>
      π.ret (Go.Value.tuple #[(Go.Value.slice (a5) (n6) (c7)), (Go.Value.int (IntKind.i64) ((0 : Int)))])
    ) (
      π.ite (x1 == (3 : Int)) (
        π.ld [.int .i64] ((Addr.mk r0 (0 : Nat) none).add (1 : Nat)) fun ((x8 : Int), _) =>
        π.ld [.int .i64] ((Addr.mk r0 (0 : Nat) none).add (2 : Nat)) fun ((x9 : Int), _) =>
        π.ld [.str] ((Addr.mk r0 (0 : Nat) none).add (3 : Nat)) fun ((t10 : ByteArray), _) =>
        π.call (28 : Nat) #[(Go.Value.pointer (none)), (Go.Value.int (IntKind.i64) (x8)), (Go.Value.int (IntKind.i64) (x9)), (Go.Value.string (t10))] (true, [(false, [.int .i64]), (false, [.slice])]) fun (((x11 : Int), _), (((a12 : Option Addr), (n13 : Nat), (c14 : Nat)), _), _) =>
        π.ret (Go.Value.tuple #[(Go.Value.slice (a12) (n13) (c14)), (Go.Value.int (IntKind.i64) (x11))])
      ) (
        π.ite (x1 == (4 : Int)) (
          π.ld [.int .i64, .int .i64, .int .i64, .int .i64, .int .i64, .int .i64, .int .i64, .bool, .slice, .str] ((Addr.mk r0 (0 : Nat) none).add (4 : Nat)) fun ((x15 : Int), (x16 : Int), (x17 : Int), (x18 : Int), (x19 : Int), (x20 : Int), (x21 : Int), (b22 : Bool), ((a23 : Option Addr), (n24 : Nat), (c25 : Nat)), (t26 : ByteArray), _) =>
          π.call (29 : Nat) #[(Go.Value.agg #[(Go.Value.int (IntKind.i64) (x15)), (Go.Value.int (IntKind.i64) (x16)), (Go.Value.int (IntKind.i64) (x17)), (Go.Value.int (IntKind.i64) (x18)), (Go.Value.int (IntKind.i64) (x19)), (Go.Value.int (IntKind.i64) (x20)), (Go.Value.int (IntKind.i64) (x21)), (Go.Value.bool (b22)), (Go.Value.slice (a23) (n24) (c25)), (Go.Value.string (t26))])] (false, [(true, [.int .i64, .int .i64, .int .i64, .int .i64, .int .i64, .int .i64, .int .i64, .bool, .slice, .str])]) fun (((x27 : Int), (x28 : Int), (x29 : Int), (x30 : Int), (x31 : Int), (x32 : Int), (x33 : Int), (b34 : Bool), ((a35 : Option Addr), (n36 : Nat), (c37 : Nat)), (t38 : ByteArray), _), _) =>
          π.call (25 : Nat) #[(Go.Value.pointer (none)), (Go.Value.agg #[(Go.Value.int (IntKind.i64) (x27)), (Go.Value.int (IntKind.i64) (x28)), (Go.Value.int (IntKind.i64) (x29)), (Go.Value.int (IntKind.i64) (x30)), (Go.Value.int (IntKind.i64) (x31)), (Go.Value.int (IntKind.i64) (x32)), (Go.Value.int (IntKind.i64) (x33)), (Go.Value.bool (b34)), (Go.Value.slice (a35) (n36) (c37)), (Go.Value.string (t38))])] (false, [(false, [.slice])]) fun ((((a39 : Option Addr), (n40 : Nat), (c41 : Nat)), _), _) =>
          π.ret (Go.Value.tuple #[(Go.Value.slice (a39) (n40) (c41)), (Go.Value.int (IntKind.i64) ((0 : Int)))])
        ) (
          π.ite (x1 == (5 : Int)) (
            π.ld [.int .i64] ((Addr.mk r0 (0 : Nat) none).add (1 : Nat)) fun ((x42 : Int), _) =>
            π.ld [.str] ((Addr.mk r0 (0 : Nat) none).add (3 : Nat)) fun ((t43 : ByteArray), _) =>
            π.call (30 : Nat) #[(Go.Value.pointer (none)), (Go.Value.int (IntKind.i64) (x42)), (Go.Value.string (t43))] (false, [(false, [.bool])]) fun (((b44 : Bool), _), _) =>
            π.ite (b44) (
              π.ret (Go.Value.tuple #[(Go.Value.slice (none) ((0 : Nat)) ((0 : Nat))), (Go.Value.int (IntKind.i64) ((1 : Int)))])
            ) (
              π.ret (Go.Value.tuple #[(Go.Value.slice (none) ((0 : Nat)) ((0 : Nat))), (Go.Value.int (IntKind.i64) ((0 : Int)))])
            )
          ) (
            π.ret (Go.Value.tuple #[(Go.Value.slice (none) ((0 : Nat)) ((0 : Nat))), (Go.Value.int (IntKind.i64) ((0 : Int)))])
          )
        )
      )
    )
  )

def ann_didN : Ann := { draws := [], join := [], loop := [] }
set_option maxRecDepth 100000 in
theorem eq_didN {W : Type} (π : Prims W) (ok oa ob : Int) (ot : ByteArray) (mk mf mt mm mi mp mc : Int) (mg : Bool) (la : Option Addr) (ln lc : Nat) (ms : ByteArray) : bodyW π Try.prog ann_didN (mkFr (maskA [] [.v (.pointer none), .v (.agg #[.int .i64 ok, .int .i64 oa, .int .i64 ob, .string ot, .int .i64 mk, .int .i64 mf, .int .i64 mt, .int .i64 mm, .int .i64 mi, .int .i64 mp, .int .i64 mc, .bool mg, .slice la ln lc, .string ms])] 0) 48) Try.f12 (bodyOf Try.f12) (mkFr (List.map some [.v (.pointer none), .v (.agg #[.int .i64 ok, .int .i64 oa, .int .i64 ob, .string ot, .int .i64 mk, .int .i64 mf, .int .i64 mt, .int .i64 mm, .int .i64 mi, .int .i64 mp, .int .i64 mc, .bool mg, .slice la ln lc, .string ms])]) 48) = vc_didN π ok oa ob ot mk mf mt mm mi mp mc mg la ln lc ms := by kernel_rfl
theorem ok_didN (ok oa ob : Int) (ot : ByteArray) (mk mf mt mm mi mp mc : Int) (mg : Bool) (la : Option Addr) (ln lc : Nat) (ms : ByteArray) (R : Value → PH → Prop) (s : PH) (h : vc_didN (RP Try.prog R) ok oa ob ot mk mf mt mm mi mp mc mg la ln lc ms s) : DCalls Try.prog 12 (List.map AV.val [.v (.pointer none), .v (.agg #[.int .i64 ok, .int .i64 oa, .int .i64 ob, .string ot, .int .i64 mk, .int .i64 mf, .int .i64 mt, .int .i64 mm, .int .i64 mi, .int .i64 mp, .int .i64 mc, .bool mg, .slice la ln lc, .string ms])]).toArray s R :=
  calls_vc (c := bodyOf Try.f12) (ann := ann_didN) (by kernel_rfl) Try.func12 rfl (by kernel_rfl) [.v (.pointer none), .v (.agg #[.int .i64 ok, .int .i64 oa, .int .i64 ob, .string ot, .int .i64 mk, .int .i64 mf, .int .i64 mt, .int .i64 mm, .int .i64 mi, .int .i64 mp, .int .i64 mc, .bool mg, .slice la ln lc, .string ms])] [] (by rw [Try.ntmps12]; exact Nat.le_of_ble_eq_true rfl) (by rw [show Try.f12.ntmps = 48 from Try.ntmps12, eq_didN]; exact h)

/-- lintel/lintellaw09.awake -/
def vc_awake {W : Type} (π : Prims W) : W :=
  π.call (7 : Nat) #[(Go.Value.int (IntKind.i64) ((0 : Int))), (Go.Value.int (IntKind.i64) ((3 : Int)))] (true, [(false, [.ptr]), (false, [.int .i64])]) fun ((p0, _), ((x1 : Int), _), _) =>
  π.call (24 : Nat) #[(Go.Value.pointer (p0))] (false, [(false, [.slice])]) fun ((((a2 : Option Addr), (n3 : Nat), (c4 : Nat)), _), _) =>
  π.call (25 : Nat) #[(Go.Value.pointer (p0)), (Go.Value.agg #[(Go.Value.int (IntKind.i64) ((2 : Int))), (Go.Value.int (IntKind.i64) ((1 : Int))), (Go.Value.int (IntKind.i64) ((0 : Int))), (Go.Value.int (IntKind.i64) ((1 : Int))), (Go.Value.int (IntKind.i64) ((0 : Int))), (Go.Value.int (IntKind.i64) ((0 : Int))), (Go.Value.int (IntKind.i64) ((0 : Int))), (Go.Value.bool (true)), (Go.Value.slice (none) ((0 : Nat)) ((0 : Nat))), (Go.Value.string (ByteArray.mk #[]))])] (false, [(false, [.slice])]) fun ((((a5 : Option Addr), (n6 : Nat), (c7 : Nat)), _), _) =>
  π.call (25 : Nat) #[(Go.Value.pointer (p0)), (Go.Value.agg #[(Go.Value.int (IntKind.i64) ((4 : Int))), (Go.Value.int (IntKind.i64) ((1 : Int))), (Go.Value.int (IntKind.i64) ((0 : Int))), (Go.Value.int (IntKind.i64) ((1 : Int))), (Go.Value.int (IntKind.i64) ((1 : Int))), (Go.Value.int (IntKind.i64) ((0 : Int))), (Go.Value.int (IntKind.i64) ((0 : Int))), (Go.Value.bool (true)), (Go.Value.slice (none) ((0 : Nat)) ((0 : Nat))), (Go.Value.string (ByteArray.mk #[]))])] (false, [(false, [.slice])]) fun ((((a8 : Option Addr), (n9 : Nat), (c10 : Nat)), _), _) =>
  π.call (10 : Nat) #[(Go.Value.pointer (p0))] (false, [(true, [.int .i64, .int .i64, .int .i64, .int .i64, .int .i64, .int .i64, .int .i64])]) fun (((x11 : Int), (x12 : Int), (x13 : Int), (x14 : Int), (x15 : Int), (x16 : Int), (x17 : Int), _), _) =>
  π.nw (Go.Obj.cells #[(Go.Value.int (IntKind.i64) ((0 : Int))), (Go.Value.int (IntKind.i64) ((0 : Int))), (Go.Value.int (IntKind.i64) ((0 : Int))), (Go.Value.int (IntKind.i64) ((0 : Int))), (Go.Value.int (IntKind.i64) ((0 : Int))), (Go.Value.int (IntKind.i64) ((0 : Int))), (Go.Value.int (IntKind.i64) ((0 : Int)))] (36 : Nat) ((0 : Nat), (0 : Nat))) fun r18 =>
  π.st (Addr.mk r18 (0 : Nat) none) [(Go.Value.int (IntKind.i64) (x11)), (Go.Value.int (IntKind.i64) (x12)), (Go.Value.int (IntKind.i64) (x13)), (Go.Value.int (IntKind.i64) (x14)), (Go.Value.int (IntKind.i64) (x15)), (Go.Value.int (IntKind.i64) (x16)), (Go.Value.int (IntKind.i64) (x17))] <|
  π.ite (x1 == (0 : Int)) (
    π.ite ((↑n3 : Int) == (2 : Int)) (
      π.guard ((0 : Int) ≤ (1 : Int) ∧ (1 : Int) < (↑n3 : Int)) <|
      π.unSome (a2) fun p19 =>
      π.ld [.int .i64] ((p19.add (10 : Nat)).add (0 : Nat)) fun ((x20 : Int), _) =>
      π.ite (x20 == (1 : Int)) (
        π.guard ((0 : Int) ≤ (1 : Int) ∧ (1 : Int) < (↑n3 : Int)) <|
        π.unSome (a2) fun p21 =>
        π.ld [.int .i64] ((p21.add (10 : Nat)).add (2 : Nat)) fun ((x22 : Int), _) =>
        π.ite (x22 == (2 : Int)) (
          π.ite ((↑n6 : Int) == (2 : Int)) (
            π.guard ((0 : Int) ≤ (0 : Int) ∧ (0 : Int) < (↑n6 : Int)) <|
            π.unSome (a5) fun p23 =>
            π.ld [.slice] ((p23.add (0 : Nat)).add (8 : Nat)) fun (((a24 : Option Addr), (n25 : Nat), (c26 : Nat)), _) =>
            π.ite ((↑n25 : Int) == (1 : Int)) (
              π.ite ((↑n9 : Int) == (2 : Int)) (
                π.guard ((0 : Int) ≤ (0 : Int) ∧ (0 : Int) < (↑n9 : Int)) <|
                π.unSome (a8) fun p27 =>
                π.ld [.int .i64] ((p27.add (0 : Nat)).add (6 : Nat)) fun ((x28 : Int), _) =>
                π.ite (x28 == (1 : Int)) (
                  π.ld [.int .i64] ((Addr.mk r18 (0 : Nat) none).add (2 : Nat)) fun ((x29 : Int), _) =>
                  π.ite (x29 == (2 : Int)) (
                    π.ld [.int .i64] ((Addr.mk r18 (0 : Nat) none).add (6 : Nat)) fun ((x30 : Int), _) =>
                    π.ite (x30 == (1 : Int)) (
                      π.ret (Go.Value.bool (true))
                    ) (
                      π.ret (Go.Value.bool (false))
                    )
                  ) (
                    π.ret (Go.Value.bool (false))
                  )
                ) (
                  π.ret (Go.Value.bool (false))
                )
              ) (
                π.ret (Go.Value.bool (false))
              )
            ) (
              π.ret (Go.Value.bool (false))
            )
          ) (
            π.ret (Go.Value.bool (false))
          )
        ) (
          π.ret (Go.Value.bool (false))
        )
      ) (
        π.ret (Go.Value.bool (false))
      )
    ) (
      π.ret (Go.Value.bool (false))
    )
  ) (
    π.ret (Go.Value.bool (false))
  )

def ann_awake : Ann := { draws := [], join := [], loop := [] }
set_option maxRecDepth 100000 in
theorem eq_awake {W : Type} (π : Prims W) : bodyW π Try.prog ann_awake (mkFr (maskA [] [] 0) 81) Try.f8 (bodyOf Try.f8) (mkFr (List.map some []) 81) = vc_awake π := by kernel_rfl
theorem ok_awake (R : Value → PH → Prop) (s : PH) (h : vc_awake (RP Try.prog R) s) : DCalls Try.prog 8 (List.map AV.val []).toArray s R :=
  calls_vc (c := bodyOf Try.f8) (ann := ann_awake) (by kernel_rfl) Try.func8 rfl (by kernel_rfl) [] [] (by rw [Try.ntmps8]; exact Nat.le_of_ble_eq_true rfl) (by rw [show Try.f8.ntmps = 81 from Try.ntmps8, eq_awake]; exact h)

/-- lintel/lintellaw09.great -/
def vc_great {W : Type} (π : Prims W) (a : Option Addr) (an ac : Nat) : W :=
  π.loop [(false, [.int .i64]), (false, [.slice]), (false, [.int .i64]), (false, [.int .i64])] (((0 : Int), ()), ((a, an, ac), ()), ((↑an : Int), ()), ((0 : Int), ()), ()) fun (((x1 : Int), _), (((a2 : Option Addr), (n3 : Nat), (c4 : Nat)), _), ((x5 : Int), _), ((x6 : Int), _), _) again0 =>
    π.ite (decide (x6 < x5)) (
      π.guard ((0 : Int) ≤ x6 ∧ x6 < (↑n3 : Int)) <|
      π.unSome (a2) fun p7 =>
      π.ld [.int .i64, .int .i64, .int .i64, .str, .int .i64, .int .i64, .int .i64, .int .i64, .int .i64, .int .i64, .int .i64, .bool, .slice, .str] (p7.add (x6.toNat * (14 : Nat))) fun ((x8 : Int), (x9 : Int), (x10 : Int), (t11 : ByteArray), (x12 : Int), (x13 : Int), (x14 : Int), (x15 : Int), (x16 : Int), (x17 : Int), (x18 : Int), (b19 : Bool), ((a20 : Option Addr), (n21 : Nat), (c22 : Nat)), (t23 : ByteArray), _) =>
      π.nw (Go.Obj.cells #[(Go.Value.int (IntKind.i64) ((0 : Int))), (Go.Value.int (IntKind.i64) ((0 : Int))), (Go.Value.int (IntKind.i64) ((0 : Int))), (Go.Value.string (ByteArray.mk #[])), (Go.Value.int (IntKind.i64) ((0 : Int))), (Go.Value.int (IntKind.i64) ((0 : Int))), (Go.Value.int (IntKind.i64) ((0 : Int))), (Go.Value.int (IntKind.i64) ((0 : Int))), (Go.Value.int (IntKind.i64) ((0 : Int))), (Go.Value.int (IntKind.i64) ((0 : Int))), (Go.Value.int (IntKind.i64) ((0 : Int))), (Go.Value.bool (false)), (Go.Value.slice (none) ((0 : Nat)) ((0 : Nat))), (Go.Value.string (ByteArray.mk #[]))] (34 : Nat) ((0 : Nat), (0 : Nat))) fun r24 =>
      π.st (Addr.mk r24 (0 : Nat) none) [(Go.Value.int (IntKind.i64) (x8)), (Go.Value.int (IntKind.i64) (x9)), (Go.Value.int (IntKind.i64) (x10)), (Go.Value.string (t11)), (Go.Value.int (IntKind.i64) (x12)), (Go.Value.int (IntKind.i64) (x13)), (Go.Value.int (IntKind.i64) (x14)), (Go.Value.int (IntKind.i64) (x15)), (Go.Value.int (IntKind.i64) (x16)), (Go.Value.int (IntKind.i64) (x17)), (Go.Value.int (IntKind.i64) (x18)), (Go.Value.bool (b19)), (Go.Value.slice (a20) (n21) (c22)), (Go.Value.string (t23))] <|
      π.ld [.str] ((Addr.mk r24 (0 : Nat) none).add (3 : Nat)) fun ((t25 : ByteArray), _) =>
      π.ld [.slice] (((Addr.mk r24 (0 : Nat) none).add (4 : Nat)).add (8 : Nat)) fun (((a26 : Option Addr), (n27 : Nat), (c28 : Nat)), _) =>
      π.ld [.str] (((Addr.mk r24 (0 : Nat) none).add (4 : Nat)).add (9 : Nat)) fun ((t29 : ByteArray), _) =>
      π.ite (decide (IntKind.i64.wrap (x1 + IntKind.i64.wrap (IntKind.i64.wrap (IntKind.i64.wrap ((1 : Int) + (↑t25.size : Int)) + (↑n27 : Int)) + (↑t29.size : Int))) > (16384 : Int))) (
        π.ret (Go.Value.bool (true))
      ) (
        again0 ((IntKind.i64.wrap (x1 + IntKind.i64.wrap (IntKind.i64.wrap (IntKind.i64.wrap ((1 : Int) + (↑t25.size : Int)) + (↑n27 : Int)) + (↑t29.size : Int))), ()), ((a2, n3, c4), ()), (x5, ()), (IntKind.i64.wrap (x6 + (1 : Int)), ()), ())
      )
    ) (
      π.ret (Go.Value.bool (decide ((↑an : Int) > (200 : Int))))
    )

def ann_great : Ann := { draws := [], join := [], loop := [(3, [(3, 3), (6, 22), (7, 3), (8, 3)])] }
set_option maxRecDepth 100000 in
theorem eq_great {W : Type} (π : Prims W) (a : Option Addr) (an ac : Nat) : bodyW π Try.prog ann_great (mkFr (maskA [] [.v (.slice a an ac)] 0) 34) Try.f9 (bodyOf Try.f9) (mkFr (List.map some [.v (.slice a an ac)]) 34) = vc_great π a an ac := by kernel_rfl
theorem ok_great (a : Option Addr) (an ac : Nat) (R : Value → PH → Prop) (s : PH) (h : vc_great (RP Try.prog R) a an ac s) : DCalls Try.prog 9 (List.map AV.val [.v (.slice a an ac)]).toArray s R :=
  calls_vc (c := bodyOf Try.f9) (ann := ann_great) (by kernel_rfl) Try.func9 rfl (by kernel_rfl) [.v (.slice a an ac)] [] (by rw [Try.ntmps9]; exact Nat.le_of_ble_eq_true rfl) (by rw [show Try.f9.ntmps = 34 from Try.ntmps9, eq_great]; exact h)

/-- lintel/lintellaw09.BallotNil -/
def vc_BallotNil {W : Type} (π : Prims W) (ok oa ob : Int) (ot : ByteArray) (mk mf mt mm mi mp mc : Int) (mg : Bool) (la : Option Addr) (ln lc : Nat) (ms : ByteArray) : W :=
  π.nw (Go.Obj.cells #[(Go.Value.int (IntKind.i64) (ok)), (Go.Value.int (IntKind.i64) (oa)), (Go.Value.int (IntKind.i64) (ob)), (Go.Value.string (ot)), (Go.Value.int (IntKind.i64) (mk)), (Go.Value.int (IntKind.i64) (mf)), (Go.Value.int (IntKind.i64) (mt)), (Go.Value.int (IntKind.i64) (mm)), (Go.Value.int (IntKind.i64) (mi)), (Go.Value.int (IntKind.i64) (mp)), (Go.Value.int (IntKind.i64) (mc)), (Go.Value.bool (mg)), (Go.Value.slice (la) (ln) (lc)), (Go.Value.string (ms))] (34 : Nat) ((0 : Nat), (0 : Nat))) fun r0 =>
  π.ld [.int .i64, .int .i64, .int .i64, .str, .int .i64, .int .i64, .int .i64, .int .i64, .int .i64, .int .i64, .int .i64, .bool, .slice, .str] (Addr.mk r0 (0 : Nat) none) fun ((x1 : Int), (x2 : Int), (x3 : Int), (t4 : ByteArray), (x5 : Int), (x6 : Int), (x7 : Int), (x8 : Int), (x9 : Int), (x10 : Int), (x11 : Int), (b12 : Bool), ((a13 : Option Addr), (n14 : Nat), (c15 : Nat)), (t16 : ByteArray), _) =>
  π.call (12 : Nat) #[(Go.Value.pointer (none)), (Go.Value.agg #[(Go.Value.int (IntKind.i64) (x1)), (Go.Value.int (IntKind.i64) (x2)), (Go.Value.int (IntKind.i64) (x3)), (Go.Value.string (t4)), (Go.Value.int (IntKind.i64) (x5)), (Go.Value.int (IntKind.i64) (x6)), (Go.Value.int (IntKind.i64) (x7)), (Go.Value.int (IntKind.i64) (x8)), (Go.Value.int (IntKind.i64) (x9)), (Go.Value.int (IntKind.i64) (x10)), (Go.Value.int (IntKind.i64) (x11)), (Go.Value.bool (b12)), (Go.Value.slice (a13) (n14) (c15)), (Go.Value.string (t16))])] (true, [(false, [.slice]), (false, [.int .i64])]) fun ((((a17 : Option Addr), (n18 : Nat), (c19 : Nat)), _), ((x20 : Int), _), _) =>
  π.call (17 : Nat) #[(Go.Value.pointer (none))] (true, [(true, [.int .i64, .int .i64, .bool, .int .i64, .int .i64, .str, .int .i64, .slice]), (false, [.bool])]) fun (((x21 : Int), (x22 : Int), (b23 : Bool), (x24 : Int), (x25 : Int), (t26 : ByteArray), (x27 : Int), ((a28 : Option Addr), (n29 : Nat), (c30 : Nat)), _), ((b31 : Bool), _), _) =>
  π.nw (Go.Obj.cells #[(Go.Value.int (IntKind.i64) ((0 : Int))), (Go.Value.int (IntKind.i64) ((0 : Int))), (Go.Value.bool (false)), (Go.Value.int (IntKind.i64) ((0 : Int))), (Go.Value.int (IntKind.i64) ((0 : Int))), (Go.Value.string (ByteArray.mk #[])), (Go.Value.int (IntKind.i64) ((0 : Int))), (Go.Value.slice (none) ((0 : Nat)) ((0 : Nat)))] (53 : Nat) ((0 : Nat), (0 : Nat))) fun r32 =>
  π.st (Addr.mk r32 (0 : Nat) none) [(Go.Value.int (IntKind.i64) (x21)), (Go.Value.int (IntKind.i64) (x22)), (Go.Value.bool (b23)), (Go.Value.int (IntKind.i64) (x24)), (Go.Value.int (IntKind.i64) (x25)), (Go.Value.string (t26)), (Go.Value.int (IntKind.i64) (x27)), (Go.Value.slice (a28) (n29) (c30))] <|
  π.ld [.int .i64] ((Addr.mk r0 (0 : Nat) none).add (1 : Nat)) fun ((x33 : Int), _) =>
  π.call (11 : Nat) #[(Go.Value.pointer (none)), (Go.Value.int (IntKind.i64) (x33))] (true, [(true, [.int .i64, .int .i64, .int .i64, .str]), (false, [.bool])]) fun (((x34 : Int), (x35 : Int), (x36 : Int), (t37 : ByteArray), _), ((b38 : Bool), _), _) =>
  π.nw (Go.Obj.cells #[(Go.Value.int (IntKind.i64) ((0 : Int))), (Go.Value.int (IntKind.i64) ((0 : Int))), (Go.Value.int (IntKind.i64) ((0 : Int))), (Go.Value.string (ByteArray.mk #[]))] (39 : Nat) ((0 : Nat), (0 : Nat))) fun r39 =>
  π.st (Addr.mk r39 (0 : Nat) none) [(Go.Value.int (IntKind.i64) (x34)), (Go.Value.int (IntKind.i64) (x35)), (Go.Value.int (IntKind.i64) (x36)), (Go.Value.string (t37))] <|
  π.call (8 : Nat) #[] (false, [(false, [.bool])]) fun (((b40 : Bool), _), _) =>
  π.ite (b40) (
    π.ite ((↑n18 : Int) == (0 : Int)) (
      π.ite (x20 == (0 : Int)) (
        π.ite (!b31) (
          π.ite (!b38) (
            π.call (20 : Nat) #[(Go.Value.pointer (none))] (false, [(false, [.str])]) fun (((t41 : ByteArray), _), _) =>
            π.ite (t41.toList == (ByteArray.mk #[]).toList) (
              π.call (10 : Nat) #[(Go.Value.pointer (none))] (false, [(true, [.int .i64, .int .i64, .int .i64, .int .i64, .int .i64, .int .i64, .int .i64])]) fun (((x42 : Int), (x43 : Int), (x44 : Int), (x45 : Int), (x46 : Int), (x47 : Int), (x48 : Int), _), _) =>
              π.ret (Go.Value.bool (x42 == (0 : Int) && (x43 == (0 : Int) && (x44 == (0 : Int) && (x45 == (0 : Int) && (x46 == (0 : Int) && (x47 == (0 : Int) && (x48 == (0 : Int) && true))))))))
            ) (
              π.ret (Go.Value.bool (false))
            )
          ) (
            π.ret (Go.Value.bool (false))
          )
        ) (
          π.ret (Go.Value.bool (false))
        )
      ) (
        π.ret (Go.Value.bool (false))
      )
    ) (
      π.ret (Go.Value.bool (false))
    )
  ) (
    π.ret (Go.Value.bool (false))
  )

def ann_BallotNil : Ann := { draws := [], join := [], loop := [] }
set_option maxRecDepth 100000 in
theorem eq_BallotNil {W : Type} (π : Prims W) (ok oa ob : Int) (ot : ByteArray) (mk mf mt mm mi mp mc : Int) (mg : Bool) (la : Option Addr) (ln lc : Nat) (ms : ByteArray) : bodyW π Try.prog ann_BallotNil (mkFr (maskA [] [.v (.agg #[.int .i64 ok, .int .i64 oa, .int .i64 ob, .string ot, .int .i64 mk, .int .i64 mf, .int .i64 mt, .int .i64 mm, .int .i64 mi, .int .i64 mp, .int .i64 mc, .bool mg, .slice la ln lc, .string ms])] 0) 57) Try.f5 (bodyOf Try.f5) (mkFr (List.map some [.v (.agg #[.int .i64 ok, .int .i64 oa, .int .i64 ob, .string ot, .int .i64 mk, .int .i64 mf, .int .i64 mt, .int .i64 mm, .int .i64 mi, .int .i64 mp, .int .i64 mc, .bool mg, .slice la ln lc, .string ms])]) 57) = vc_BallotNil π ok oa ob ot mk mf mt mm mi mp mc mg la ln lc ms := by kernel_rfl
theorem ok_BallotNil (ok oa ob : Int) (ot : ByteArray) (mk mf mt mm mi mp mc : Int) (mg : Bool) (la : Option Addr) (ln lc : Nat) (ms : ByteArray) (R : Value → PH → Prop) (s : PH) (h : vc_BallotNil (RP Try.prog R) ok oa ob ot mk mf mt mm mi mp mc mg la ln lc ms s) : DCalls Try.prog 5 (List.map AV.val [.v (.agg #[.int .i64 ok, .int .i64 oa, .int .i64 ob, .string ot, .int .i64 mk, .int .i64 mf, .int .i64 mt, .int .i64 mm, .int .i64 mi, .int .i64 mp, .int .i64 mc, .bool mg, .slice la ln lc, .string ms])]).toArray s R :=
  calls_vc (c := bodyOf Try.f5) (ann := ann_BallotNil) (by kernel_rfl) Try.func5 rfl (by kernel_rfl) [.v (.agg #[.int .i64 ok, .int .i64 oa, .int .i64 ob, .string ot, .int .i64 mk, .int .i64 mf, .int .i64 mt, .int .i64 mm, .int .i64 mi, .int .i64 mp, .int .i64 mc, .bool mg, .slice la ln lc, .string ms])] [] (by rw [Try.ntmps5]; exact Nat.le_of_ble_eq_true rfl) (by rw [show Try.f5.ntmps = 57 from Try.ntmps5, eq_BallotNil]; exact h)

end Go.Proofs.Ytfpbiecmobdnnaa
