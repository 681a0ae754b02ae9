/-
  No cell of these rows narrows 'for every input' (looked for: loops, veiled, ifaces, maps, wideKeys, modest, calm, conditions, laid).
  DERIVED. THE GIVEN ROWS OF THIS SEAT. 5 by the template 'for every input the law returns true; each argument reads behind the call as it read before'; 0 by the template 'total and deterministic' (their statements: YtdbpockkebabiaaTotals.lean).
  GIVEN WITH THE SEED: the statements are not yours to turn. If you find one false, say at which input.
  Laid BY PROGRAM, IN A SANDBOX (cutbox-rows.mjs): the forced cells as the released guide's own fill.sh prints them over the translation c2703418b2eae577… (all of the seat's roots in one cut). By AI agents, Wed Nov 11 2026. No macro, syntax, notation, axiom, sorry.
-/
import Derived.Test.YtdbpockkebabiaaChecked
import GoSem.Claim
import GoSem.ClaimJoined
import GoSem.ClaimMapViews
import Derived.JoinedTies
import Derived.KernelRfl
namespace Go.Proofs.Ytdbpockkebabiaa
/- THE CELL 'sum', in the pinned program and in every row, IS THE sha256 OF THE DUMP (.gsa) THAT YtdbpockkebabiaaProg.lean LOADS. Nothing in Lean hashes anything: it is a label: what it is worth is what the hold of that sum in a sandbox is worth. -/
noncomputable def Try.pinned : Pinned := { name := "ytdbpockkebabiaa", sum := "c2703418b2eae577c8e4b36bee0d0ce208eb4c1cd73ac0a651308b8921395e3b", checked := Try.checked }
namespace Rows
def none {H : Type} : Left H := { results := [], args := [] }

/-- 'lintellaw05.DriveSafe': WHATEVER THE INPUT: true; the input reads as it did. -/
def driveSafeSpec : ChangeSpec := { name := "driveSafe", fn := fun _ => fun
  | [d1, d2, d3, d4] => { results := [.lit (.bool true)], args := [d1, d2, d3, d4] }
  | _ => none }
def driveSafeRow : OpenClaim := { program := "ytdbpockkebabiaa", sum := "c2703418b2eae577c8e4b36bee0d0ce208eb4c1cd73ac0a651308b8921395e3b", func := "lintel/lintellaw05.DriveSafe", spec := "driveSafe", unfollowed := true, recurses := true, apart := false }
def DriveSafeSaid : Prop := driveSafeRow.holds Try.pinned (OpenSpec.ofChange driveSafeSpec)

/-- ITS FALSE NEIGHBOUR: 'it returns false'. Refute it at one input. -/
def driveSafeWrong : ChangeSpec := { name := "driveSafe", fn := fun _ => fun
  | [d1, d2, d3, d4] => { results := [.lit (.bool false)], args := [d1, d2, d3, d4] }
  | _ => none }
def DriveSafeWrongFalsely : Prop := driveSafeRow.holds Try.pinned (OpenSpec.ofChange driveSafeWrong)

/-- 'lintellaw05.DrivePlays': WHATEVER THE INPUT: true; the input reads as it did. -/
def drivePlaysSpec : ChangeSpec := { name := "drivePlays", fn := fun _ => fun
  | [d] => { results := [.lit (.bool true)], args := [d] }
  | _ => none }
def drivePlaysRow : OpenClaim := { program := "ytdbpockkebabiaa", sum := "c2703418b2eae577c8e4b36bee0d0ce208eb4c1cd73ac0a651308b8921395e3b", func := "lintel/lintellaw05.DrivePlays", spec := "drivePlays", unfollowed := true, recurses := true, apart := false }
def DrivePlaysSaid : Prop := drivePlaysRow.holds Try.pinned (OpenSpec.ofChange drivePlaysSpec)

/-- ITS FALSE NEIGHBOUR: 'it returns false'. Refute it at one input. -/
def drivePlaysWrong : ChangeSpec := { name := "drivePlays", fn := fun _ => fun
  | [d] => { results := [.lit (.bool false)], args := [d] }
  | _ => none }
def DrivePlaysWrongFalsely : Prop := drivePlaysRow.holds Try.pinned (OpenSpec.ofChange drivePlaysWrong)

/-- 'lintellaw05.DriveSwaps': WHATEVER THE INPUT: true; the input reads as it did. -/
def driveSwapsSpec : ChangeSpec := { name := "driveSwaps", fn := fun _ => fun
  | [d1, d2, d3, d4, d5] => { results := [.lit (.bool true)], args := [d1, d2, d3, d4, d5] }
  | _ => none }
def driveSwapsRow : OpenClaim := { program := "ytdbpockkebabiaa", sum := "c2703418b2eae577c8e4b36bee0d0ce208eb4c1cd73ac0a651308b8921395e3b", func := "lintel/lintellaw05.DriveSwaps", spec := "driveSwaps", unfollowed := true, recurses := true, apart := false }
def DriveSwapsSaid : Prop := driveSwapsRow.holds Try.pinned (OpenSpec.ofChange driveSwapsSpec)

/-- ITS FALSE NEIGHBOUR: 'it returns false'. Refute it at one input. -/
def driveSwapsWrong : ChangeSpec := { name := "driveSwaps", fn := fun _ => fun
  | [d1, d2, d3, d4, d5] => { results := [.lit (.bool false)], args := [d1, d2, d3, d4, d5] }
  | _ => none }
def DriveSwapsWrongFalsely : Prop := driveSwapsRow.holds Try.pinned (OpenSpec.ofChange driveSwapsWrong)

/-- 'lintellaw05.DriveAgain': WHATEVER THE INPUT: true; the input reads as it did. -/
def driveAgainSpec : ChangeSpec := { name := "driveAgain", fn := fun _ => fun
  | [d1, d2, d3] => { results := [.lit (.bool true)], args := [d1, d2, d3] }
  | _ => none }
def driveAgainRow : OpenClaim := { program := "ytdbpockkebabiaa", sum := "c2703418b2eae577c8e4b36bee0d0ce208eb4c1cd73ac0a651308b8921395e3b", func := "lintel/lintellaw05.DriveAgain", spec := "driveAgain", unfollowed := true, recurses := true, apart := false }
def DriveAgainSaid : Prop := driveAgainRow.holds Try.pinned (OpenSpec.ofChange driveAgainSpec)

/-- ITS FALSE NEIGHBOUR: 'it returns false'. Refute it at one input. -/
def driveAgainWrong : ChangeSpec := { name := "driveAgain", fn := fun _ => fun
  | [d1, d2, d3] => { results := [.lit (.bool false)], args := [d1, d2, d3] }
  | _ => none }
def DriveAgainWrongFalsely : Prop := driveAgainRow.holds Try.pinned (OpenSpec.ofChange driveAgainWrong)

/-- 'lintellaw05.DriveNil': WHATEVER THE INPUT: true; the input reads as it did. -/
def driveNilSpec : ChangeSpec := { name := "driveNil", fn := fun _ => fun
  | [d1, d2, d3] => { results := [.lit (.bool true)], args := [d1, d2, d3] }
  | _ => none }
def driveNilRow : OpenClaim := { program := "ytdbpockkebabiaa", sum := "c2703418b2eae577c8e4b36bee0d0ce208eb4c1cd73ac0a651308b8921395e3b", func := "lintel/lintellaw05.DriveNil", spec := "driveNil", unfollowed := true, recurses := true, apart := false }
def DriveNilSaid : Prop := driveNilRow.holds Try.pinned (OpenSpec.ofChange driveNilSpec)

/-- ITS FALSE NEIGHBOUR: 'it returns false'. Refute it at one input. -/
def driveNilWrong : ChangeSpec := { name := "driveNil", fn := fun _ => fun
  | [d1, d2, d3] => { results := [.lit (.bool false)], args := [d1, d2, d3] }
  | _ => none }
def DriveNilWrongFalsely : Prop := driveNilRow.holds Try.pinned (OpenSpec.ofChange driveNilWrong)

/- THE SECOND FORM. 'bulk': how many values and letters a reading holds, each counted each time it is reached (what is shared counts as often as it is met; a slice's spare places count too). A statement '..UptoSaid' is the law's where the arguments, and the package variables that the reading takes, are together of bulk at most 1048576: NARROWER than '..Said'. Prove '..Said' where nothing that the law and all that it calls make is longer than what came in: it says more and counts as full. Else prove '..UptoSaid'. A law counts once. -/
mutual
def uptoBulk {H : Type} : DataW H → Nat
  | .lit (.string bytes) => bytes.length + 1
  | .lit _ => 1
  | .nil => 1
  | .ptr d => uptoBulk d + 1
  | .slice elems spare => uptoBulkAll elems + uptoBulkAll spare + 1
  | .agg parts => uptoBulkAll parts + 1
  | .iface _ d => uptoBulk d + 1
  | .map entries => uptoBulkEntries entries + 1
  | .held _ => 1
def uptoBulkAll {H : Type} : List (DataW H) → Nat
  | [] => 0
  | d :: r => uptoBulk d + uptoBulkAll r
def uptoBulkEntries {H : Type} : List (Lit × DataW H) → Nat
  | [] => 0
  | x :: r => uptoBulkEntry x + uptoBulkEntries r
def uptoBulkEntry {H : Type} : Lit × DataW H → Nat
  | (.string bytes, d) => bytes.length + uptoBulk d + 1
  | (_, d) => uptoBulk d + 1
 end
def uptoSmall : (H : Type) → List (DataW H) → Bool := fun _ ds => decide (uptoBulkAll ds ≤ 1048576)
def OpenSpec.upto (s : _root_.Go.ChangeSpec) : _root_.Go.OpenSpec := { _root_.Go.OpenSpec.ofChange s with cond := some uptoSmall }

/-- 'lintellaw05.DriveSafe', WHERE WHAT IT READS IS OF BULK AT MOST 1048576: true; the input reads as it did. -/
def driveSafeUptoRow : OpenClaim := { program := "ytdbpockkebabiaa", sum := "c2703418b2eae577c8e4b36bee0d0ce208eb4c1cd73ac0a651308b8921395e3b", func := "lintel/lintellaw05.DriveSafe", spec := "driveSafe", unfollowed := true, recurses := true, apart := false, narrowed := true }
def DriveSafeUptoSaid : Prop := driveSafeUptoRow.holds Try.pinned (OpenSpec.upto driveSafeSpec)

/-- 'lintellaw05.DrivePlays', WHERE WHAT IT READS IS OF BULK AT MOST 1048576: true; the input reads as it did. -/
def drivePlaysUptoRow : OpenClaim := { program := "ytdbpockkebabiaa", sum := "c2703418b2eae577c8e4b36bee0d0ce208eb4c1cd73ac0a651308b8921395e3b", func := "lintel/lintellaw05.DrivePlays", spec := "drivePlays", unfollowed := true, recurses := true, apart := false, narrowed := true }
def DrivePlaysUptoSaid : Prop := drivePlaysUptoRow.holds Try.pinned (OpenSpec.upto drivePlaysSpec)

/-- 'lintellaw05.DriveSwaps', WHERE WHAT IT READS IS OF BULK AT MOST 1048576: true; the input reads as it did. -/
def driveSwapsUptoRow : OpenClaim := { program := "ytdbpockkebabiaa", sum := "c2703418b2eae577c8e4b36bee0d0ce208eb4c1cd73ac0a651308b8921395e3b", func := "lintel/lintellaw05.DriveSwaps", spec := "driveSwaps", unfollowed := true, recurses := true, apart := false, narrowed := true }
def DriveSwapsUptoSaid : Prop := driveSwapsUptoRow.holds Try.pinned (OpenSpec.upto driveSwapsSpec)

/-- 'lintellaw05.DriveAgain', WHERE WHAT IT READS IS OF BULK AT MOST 1048576: true; the input reads as it did. -/
def driveAgainUptoRow : OpenClaim := { program := "ytdbpockkebabiaa", sum := "c2703418b2eae577c8e4b36bee0d0ce208eb4c1cd73ac0a651308b8921395e3b", func := "lintel/lintellaw05.DriveAgain", spec := "driveAgain", unfollowed := true, recurses := true, apart := false, narrowed := true }
def DriveAgainUptoSaid : Prop := driveAgainUptoRow.holds Try.pinned (OpenSpec.upto driveAgainSpec)

/-- 'lintellaw05.DriveNil', WHERE WHAT IT READS IS OF BULK AT MOST 1048576: true; the input reads as it did. -/
def driveNilUptoRow : OpenClaim := { program := "ytdbpockkebabiaa", sum := "c2703418b2eae577c8e4b36bee0d0ce208eb4c1cd73ac0a651308b8921395e3b", func := "lintel/lintellaw05.DriveNil", spec := "driveNil", unfollowed := true, recurses := true, apart := false, narrowed := true }
def DriveNilUptoSaid : Prop := driveNilUptoRow.holds Try.pinned (OpenSpec.upto driveNilSpec)

end Rows
end Go.Proofs.Ytdbpockkebabiaa
