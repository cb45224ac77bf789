/-
  The pieces of a run, put together.
-/
import Derived.Test.YtodphkcmkjnfoaaGreatDoorRnS1
import Derived.KernelRfl
import Derived.Test.YtodphkcmkjnfoaaGreatDoorTy
import Derived.Test.YtodphkcmkjnfoaaGreatDoorWb
namespace Go.Ev
open Go.Proofs
set_option maxRecDepth 100000
theorem u1zr0 (KK : KX) : cK b6_61 (callX T2 (ev T2 1000000)) (ev T2 1000000) eA1 hWd (forgetK 26824 [] [0, 1, 2, 3, 4, 5, 6] u1zl0 KK) = KK .r u1ze0 u1zh0 := by kernel_rfl
theorem u2zr0 (KK : KX) : cK b6_61 (callX T2 (ev T2 1000000)) (ev T2 1000000) eA2 hWd (forgetK 26824 [] [0, 1, 2, 3, 4, 5, 6] u2zl0 KK) = KK .r u2ze0 u2zh0 := by kernel_rfl
theorem u3zr0 (KK : KX) : cK b6_61 (callX T2 (ev T2 1000000)) (ev T2 1000000) eA3 hWd (forgetK 26824 [] [0, 1, 2, 3, 4, 5, 6] u3zl0 KK) = KK .r u3ze0 u3zh0 := by kernel_rfl
theorem u4zr0 (KK : KX) : cK b6_61 (callX T2 (ev T2 1000000)) (ev T2 1000000) eA4 hWd (forgetK 26824 [] [0, 1, 2, 3, 4, 5, 6] u4zl0 KK) = KK .r u4ze0 u4zh0 := by kernel_rfl
theorem u5zr0 (KK : KX) : cK b6_61 (callX T2 (ev T2 1000000)) (ev T2 1000000) eA5 hWd (forgetK 26824 [] [0, 1, 2, 3, 4, 5, 6] u5zl0 KK) = KK .r u5ze0 u5zh0 := by kernel_rfl
theorem u6zr0 (KK : KX) : cK b6_61 (callX T2 (ev T2 1000000)) (ev T2 1000000) eA6 hWd (forgetK 26824 [] [0, 1, 2, 3, 4, 5, 6] u6zl0 KK) = KK .r u6ze0 u6zh0 := by kernel_rfl
theorem u7zr0 (KK : KX) : cK b6_61 (callX T2 (ev T2 1000000)) (ev T2 1000000) eA7 hWd (forgetK 26824 [] [0, 1, 2, 3, 4, 5, 6] u7zl0 KK) = KK .r u7ze0 u7zh0 := by kernel_rfl
theorem u8zr0 (KK : KX) : cK b6_61 (callX T2 (ev T2 1000000)) (ev T2 1000000) eA8 hWd (forgetK 26824 [] [0, 1, 2, 3, 4, 5, 6] u8zl0 KK) = KK .r u8ze0 u8zh0 := by kernel_rfl
theorem u9zr0 (KK : KX) : cK b6_61 (callX T2 (ev T2 1000000)) (ev T2 1000000) eA9 hWd (forgetK 26824 [] [0, 1, 2, 3, 4, 5, 6] u9zl0 KK) = KK .r u9ze0 u9zh0 := by kernel_rfl
theorem u10zr0 (KK : KX) : cK b6_61 (callX T2 (ev T2 1000000)) (ev T2 1000000) eA10 hWd (forgetK 26824 [] [0, 1, 2, 3, 4, 5, 6] u10zl0 KK) = KK .r u10ze0 u10zh0 := by kernel_rfl
theorem u1zq0 : SemC Tryz.prog b6_61 eA1 hWd .r u1ze0 u1zh0 := semC_run mix tab2 1000000 1000000 26824 [] [0, 1, 2, 3, 4, 5, 6] u1zl0 u1zr0
theorem u2zq0 : SemC Tryz.prog b6_61 eA2 hWd .r u2ze0 u2zh0 := semC_run mix tab2 1000000 1000000 26824 [] [0, 1, 2, 3, 4, 5, 6] u2zl0 u2zr0
theorem u3zq0 : SemC Tryz.prog b6_61 eA3 hWd .r u3ze0 u3zh0 := semC_run mix tab2 1000000 1000000 26824 [] [0, 1, 2, 3, 4, 5, 6] u3zl0 u3zr0
theorem u4zq0 : SemC Tryz.prog b6_61 eA4 hWd .r u4ze0 u4zh0 := semC_run mix tab2 1000000 1000000 26824 [] [0, 1, 2, 3, 4, 5, 6] u4zl0 u4zr0
theorem u5zq0 : SemC Tryz.prog b6_61 eA5 hWd .r u5ze0 u5zh0 := semC_run mix tab2 1000000 1000000 26824 [] [0, 1, 2, 3, 4, 5, 6] u5zl0 u5zr0
theorem u6zq0 : SemC Tryz.prog b6_61 eA6 hWd .r u6ze0 u6zh0 := semC_run mix tab2 1000000 1000000 26824 [] [0, 1, 2, 3, 4, 5, 6] u6zl0 u6zr0
theorem u7zq0 : SemC Tryz.prog b6_61 eA7 hWd .r u7ze0 u7zh0 := semC_run mix tab2 1000000 1000000 26824 [] [0, 1, 2, 3, 4, 5, 6] u7zl0 u7zr0
theorem u8zq0 : SemC Tryz.prog b6_61 eA8 hWd .r u8ze0 u8zh0 := semC_run mix tab2 1000000 1000000 26824 [] [0, 1, 2, 3, 4, 5, 6] u8zl0 u8zr0
theorem u9zq0 : SemC Tryz.prog b6_61 eA9 hWd .r u9ze0 u9zh0 := semC_run mix tab2 1000000 1000000 26824 [] [0, 1, 2, 3, 4, 5, 6] u9zl0 u9zr0
theorem u10zq0 : SemC Tryz.prog b6_61 eA10 hWd .r u10ze0 u10zh0 := semC_run mix tab2 1000000 1000000 26824 [] [0, 1, 2, 3, 4, 5, 6] u10zl0 u10zr0
end Go.Ev
