/-
  The pieces of a run, put together.
-/
import Derived.Test.YtceplogmemkblaaGreatWoS1
import Derived.KernelRfl
import Derived.Test.YtceplogmemkblaaGreatTy
import Derived.Test.YtceplogmemkblaaGreatWa
namespace Go.Ev
open Go.Proofs
set_option maxRecDepth 100000
theorem wzr0 (KK : KX) : cK b12 (callX T1 (ev T1 1000000)) (ev T1 1000000) wze wzh (forgetK 0 [0, 1, 2, 3, 4, 5, 6] [] wzl0 KK) = KK .r wze0 wzh0 := by kernel_rfl
theorem wzq0 : SemC Tryz.prog b12 wze wzh .r wze0 wzh0 := semC_run mix tab1 1000000 1000000 0 [0, 1, 2, 3, 4, 5, 6] [] wzl0 wzr0
end Go.Ev
