/-
  The arguments of the laws of the diary, read.
  Conditions: none; it proves no statement by itself.
-/
import Derived.Test.YtcdggocbjnmeaaaDT4
import Derived.Test.YtcdggocbjnmeaaaFwO
import Derived.KernelRfl
set_option linter.unusedVariables false
set_option linter.unusedSimpArgs false
set_option maxHeartbeats 1000000
namespace Go.Proofs.Ytcdggocbjnmeaaa
open Fw Go

theorem opStr : Opens Try.prog 9 Rd.str := opens_str Try.underlying9 (by kernel_rfl)
theorem str_enc {s : PH} {a : Option Addr} {n : Nat} {l : List ByteArray} (h : elems Rd.str s a n l) : elems (Rd.enc strE) s a n l := h.imp rfl fun cs x hx => hx.1
theorem c_DiaryNilR {s : PH} {a : Option Addr} {n c : Nat} {l : List ByteArray} (h : elems Rd.str s a n l) (nm : ByteArray) : DCalls Try.prog 5 #[.slice a n c, .string nm] s fun y s' => y = .bool true ∧ Fw.Mod [] s s' :=
  c_DiaryNil (str_enc h) nm
end Go.Proofs.Ytcdggocbjnmeaaa
