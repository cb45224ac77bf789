/-
  kernel.New at 60000, and the table that knows it.
-/
import Derived.Test.YtodphkcmkjnfoaaGreatDoorNwZ
import Derived.Test.YtodphkcmkjnfoaaGreatDoorWt
import Derived.KernelRfl
namespace Go.Ev
open Go.Proofs
set_option maxRecDepth 100000
theorem new_sem : CSem Tryz.prog 19 (.cons (.p 60000) .nil) ⟨.nil, 0⟩ vN zzh199 := csem_of c19 zzq206 (.inr rfl) (fun k => by kernel_rfl) (fun k => by kernel_rfl)
theorem tab1 : TRel Tryz.prog T1 := tab.set (by decide) (newHk_rel new_sem)
end Go.Ev
