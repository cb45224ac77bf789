/-
  The table with the law's world known, too.
-/
import Derived.Test.YtceplogmemkblaaGreatWoS1
import Derived.Test.YtceplogmemkblaaGreatEvW
namespace Go.Ev
noncomputable section
def wv : AV := .pt 6 0
def hWd : H := wzh0
def T1b : Tb := tset T1 12 (.hk (newHk .nil wv hWd))
end
end Go.Ev
