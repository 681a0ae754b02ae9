/-
  The ballot: deltas, read; loading of deltas, plainly.
  Conditions: none; it proves no statement by itself.
-/
import Derived.Test.YtfpbiecmobdnnaaC15
set_option linter.unusedVariables false
set_option linter.unusedSimpArgs false
set_option maxHeartbeats 1000000
set_option maxRecDepth 100000
namespace Go.Proofs.Ytfpbiecmobdnnaa
open Fw Go

def rdDlF : Rd (Int × Int × Bool × Int × Int × ByteArray × Int × List Ent × Unit) :=
  Rd.pair (Rd.int .i64) (Rd.pair (Rd.int .i64) (Rd.pair Rd.bool (Rd.pair (Rd.int .i64) (Rd.pair (Rd.int .i64) (Rd.pair Rd.str (Rd.pair (Rd.int .i64) (Rd.pair (Rd.sl rdEnt 40) Rd.unit)))))))
def rdDl : Rd Dl := rdDlF.map fun x => ⟨x.1, x.2.1, x.2.2.1, x.2.2.2.1, x.2.2.2.2.1, x.2.2.2.2.2.1, x.2.2.2.2.2.2.1, x.2.2.2.2.2.2.2.1⟩
theorem opens53 : Opens Try.prog 53 rdDl :=
  opens_map _ (opens_struct (.cons rfl (opens_int Try.underlying3 (by kernel_rfl)) (.cons rfl (opens_int Try.underlying3 (by kernel_rfl)) (.cons rfl (opens_bool Try.underlying4 (by kernel_rfl)) (.cons rfl (opens_int Try.underlying3 (by kernel_rfl))
    (.cons rfl (opens_int Try.underlying3 (by kernel_rfl)) (.cons rfl (opens_str Try.underlying9 (by kernel_rfl)) (.cons rfl (opens_int Try.underlying3 (by kernel_rfl)) (.cons rfl (opens_sl opens39 Try.underlying30 (by kernel_rfl) (by kernel_rfl)) (.nil _)))))))))
    Try.underlying53 (by kernel_rfl))
structure DlIs (s : PH) (D : Dl) (t : Tri) : Prop where
  view : View s t.1 t.2.1 t.2.2 D.list
  room : t.2.1 * 40 ≤ 140737488355328
theorem rdDl_is {s : PH} {cs : List Value} {D : Dl} (h : rdDl.is s cs D) : ∃ t : Tri, cs = dlCells D t ∧ DlIs s D t := by
  obtain ⟨x, rfl, c1, c2, rfl, ⟨rfl, h1⟩, d1, d2, rfl, ⟨rfl, h2⟩, e1, e2, rfl, rfl, f1, f2, rfl, ⟨rfl, h4⟩, g1, g2, rfl, ⟨rfl, h5⟩, i1, i2, rfl, ⟨rfl, h6⟩, j1, j2, rfl, ⟨rfl, h7⟩, l1, l2, rfl, ⟨a, n, c, rfl, g3, g4, g5, g6⟩, rfl⟩ := h
  have hr : reachBytes = 140737488351232 := rfl
  refine ⟨(a, n, c), rfl, View.elems g6 g3, ?_⟩
  show n * 40 ≤ _
  rw [hr] at g5; omega
/-- one delta laid on; none: refused -/
def BS.lay (B : BS) (D : Dl) : Option BS :=
  if D.term < 0 ∨ D.term > 2 * FAR ∨ D.vote < -1 ∨ D.vote ≥ B.size then none else
  if D.whole = true then
    if D.base < 0 ∨ D.base > 2 * FAR ∨ D.baseTerm < 0 ∨ D.baseTerm > 2 * FAR then none else some { B with base := D.base, baseTerm := D.baseTerm, snap := D.snap, log := D.list, term := D.term, vote := D.vote }
  else if D.from_ ≤ B.base ∨ D.from_ > B.lst + 1 then none else some { B with log := B.log.take (D.from_ - B.base - 1).toNat ++ D.list, term := D.term, vote := D.vote }
def BS.lays : BS → List Dl → Option BS
  | B, [] => some B
  | B, D :: l => match B.lay D with
    | some B' => B'.lays l
    | none => none
def BS.loaded (id size : Int) (l : List Dl) : Option BS := ((newBS id size).lays l).map fun B => { B with commit := B.base, touched := false, whole := false, from_ := B.lst + 1 }
end Go.Proofs.Ytfpbiecmobdnnaa
