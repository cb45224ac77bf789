/-
  kernel.New at 30000, and the table that knows it.
-/
import Derived.Test.YtceplogmemkblaaGreatNwZ
import Derived.Test.YtceplogmemkblaaGreatWt
import Derived.KernelRfl
namespace Go.Ev
open Go.Proofs
set_option maxRecDepth 100000
theorem new_sem : CSem Tryz.prog 40 (.cons (.p 30000) .nil) ⟨.nil, 0⟩ vN zzh59 := csem_of c40 zzq66 (.inr rfl) (fun k => by kernel_rfl) (fun k => by kernel_rfl)
theorem tab1 : TRel Tryz.prog T1 := tab.set (by decide) (newHk_rel new_sem)
end Go.Ev
