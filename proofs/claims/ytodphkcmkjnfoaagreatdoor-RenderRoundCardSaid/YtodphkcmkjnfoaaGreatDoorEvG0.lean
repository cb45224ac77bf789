/-
  What is known of the program's variables (of this seat): one holds some int, one a table of the powers of ten.
-/
import Derived.Lib.LaidTab
import Derived.Lib.ItoaNum
namespace Go.Ev
/-- The variables of whose cells something is known, by their numbers. -/
def GV : Nat → Option (Array Value → Prop)
  | 0 => some fun cs => ∃ m : Int, cs[0]? = some (.int .i64 m)
  | 1 => some fun cs => cs = (Go.Lib.pow10Tab.map fun z => Value.int .u64 z).toArray
  | _ => none
end Go.Ev
