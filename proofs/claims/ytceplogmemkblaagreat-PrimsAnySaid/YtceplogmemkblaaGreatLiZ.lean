/-
  The pieces of a run, put together.
-/
import Derived.Test.YtceplogmemkblaaGreatLiS1
import Derived.KernelRfl
import Derived.Test.YtceplogmemkblaaGreatTy
import Derived.Test.YtceplogmemkblaaGreatWp
namespace Go.Ev
open Go.Proofs
set_option maxRecDepth 100000
theorem vzr0 (KK : KX) : cK b13 (callX T1b (ev T1b 1000000)) (ev T1b 1000000) vze vzh (forgetK 0 [] [] vzl0 KK) = KK .r vze0 vzh0 := by kernel_rfl
theorem vzq0 : SemC Tryz.prog b13 vze vzh .r vze0 vzh0 := semC_run mix tab1b 1000000 1000000 0 [] [] vzl0 vzr0
end Go.Ev
