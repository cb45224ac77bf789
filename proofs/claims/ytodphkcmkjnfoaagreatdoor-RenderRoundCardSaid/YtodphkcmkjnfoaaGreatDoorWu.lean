/-
  The table with the law's world known, too.
-/
import Derived.Test.YtodphkcmkjnfoaaGreatDoorWoS1
import Derived.Test.YtodphkcmkjnfoaaGreatDoorEvW
namespace Go.Ev
noncomputable section
def wv : AV := .pt 6 0
def hWd : H := wzh0
def T1b : Tb := tset T1 8 (.hk (newHk .nil wv hWd))
end
end Go.Ev
