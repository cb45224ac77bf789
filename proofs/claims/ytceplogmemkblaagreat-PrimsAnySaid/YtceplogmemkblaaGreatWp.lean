/-
  The law's world, and the table that knows it.
-/
import Derived.Test.YtceplogmemkblaaGreatWoZ
import Derived.Test.YtceplogmemkblaaGreatWu
import Derived.KernelRfl
namespace Go.Ev
open Go.Proofs
set_option maxRecDepth 100000
theorem world_sem : CSem Tryz.prog 12 .nil ⟨.nil, 0⟩ wv hWd := csem_of c12 wzq0 (.inr rfl) (fun k => by kernel_rfl) (fun k => by kernel_rfl)
theorem tab1b : TRel Tryz.prog T1b := tab1.set (by decide) (newHk_rel world_sem)
end Go.Ev
