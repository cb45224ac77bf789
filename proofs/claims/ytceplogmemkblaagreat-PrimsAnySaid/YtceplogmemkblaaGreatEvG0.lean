/-
  What is known of the program's variables (of this seat): nothing.
-/
import GoSem.Core.Sem
namespace Go.Ev
/-- The variables of whose cells something is known, by their numbers. -/
def GV : Nat → Option (Array Value → Prop) := fun _ => none
end Go.Ev
