/-
  The table with kernel.New known at one call.
-/
import Derived.Test.YtodphkcmkjnfoaaGreatDoorNwS2
import Derived.Test.YtodphkcmkjnfoaaGreatDoorEvW
namespace Go.Ev
noncomputable section
def vN : AV := .tu (.cons (.pt 6 0) (.cons (.p 0) .nil))
def T1 : Tb := tset T 19 (.hk (newHk (.cons (.p 60000) .nil) vN zzh199))
end
end Go.Ev
