/-
  The table with kernel.New known at one call.
-/
import Derived.Test.YtceplogmemkblaaGreatNwS1
import Derived.Test.YtceplogmemkblaaGreatEvW
namespace Go.Ev
noncomputable section
def vN : AV := .tu (.cons (.pt 6 0) (.cons (.p 0) .nil))
def T1 : Tb := tset T 40 (.hk (newHk (.cons (.p 30000) .nil) vN zzh59))
end
end Go.Ev
