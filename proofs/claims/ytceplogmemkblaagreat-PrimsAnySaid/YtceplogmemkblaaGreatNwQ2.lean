/-
  Pieces of a run, by the kernel.
-/
import Derived.Test.YtceplogmemkblaaGreatNwS1
import Derived.KernelRfl
namespace Go.Ev
set_option maxRecDepth 100000
theorem zzr1 (KK : KX) : cK b40_1 (callX T (ev T 1000000)) (ev T 1000000) zze0 zzh0 (forgetK 0 [0, 1, 2] [] zzl1 KK) = KK .n zze1 zzh1 := by kernel_rfl
theorem zzr3 (KK : KX) : cK b40_16 (callX T (ev T 1000000)) (ev T 1000000) zze2 zzh2 (forgetK 3 [3, 4, 5, 6] [] zzl3 KK) = KK .n zze3 zzh3 := by kernel_rfl
theorem zzr5 (KK : KX) : cK b40_33 (callX T (ev T 1000000)) (ev T 1000000) zze4 zzh4 (forgetK 7 [7] [] zzl4 KK) = KK .n zze5 zzh5 := by kernel_rfl
theorem zzr7 (KK : KX) : cK (repC 5 b40_90) (callX T (ev T 1000000)) (ev T 1000000) zze6 zzh6 (forgetK 122 [] [] zzl4 KK) = KK .n zze7 zzh7 := by kernel_rfl
theorem zzr9 (KK : KX) : cK b40_90 (callX T (ev T 1000000)) (ev T 1000000) zze8 zzh8 (forgetK 263 [] [] zzl4 KK) = KK .n zze9 zzh9 := by kernel_rfl
theorem zzr11 (KK : KX) : cK b40_90 (callX T (ev T 1000000)) (ev T 1000000) zze10 zzh10 (forgetK 299 [] [] zzl4 KK) = KK .n zze11 zzh11 := by kernel_rfl
theorem zzr23 (KK : KX) : cK b40_94 (callX T (ev T 1000000)) (ev T 1000000) zze12 zzh12 (forgetK 355 [355, 356, 357, 358, 359, 360, 361, 362, 363, 364, 365, 366, 367, 368, 369, 370, 371, 372, 373, 374, 375, 376, 377, 378, 379, 380, 381, 382, 383, 384, 385, 386, 387, 388, 389, 390, 391, 392, 393, 394, 395, 396, 397, 398, 399, 400, 401, 402, 403, 404, 405, 406, 407, 408, 409, 410, 411, 412, 413, 414, 415, 416, 417, 418, 419, 420, 421, 422, 423, 424, 425, 426, 427, 428, 429, 430] [] zzl6 KK) = KK .n zze23 zzh23 := by kernel_rfl
theorem zzr25 (KK : KX) : cK (repC 5 b40_114) (callX T (ev T 1000000)) (ev T 1000000) zze24 zzh24 (forgetK 2354 [] [] zzl6 KK) = KK .n zze25 zzh25 := by kernel_rfl
theorem zzr27 (KK : KX) : cK (repC 5 b40_114) (callX T (ev T 1000000)) (ev T 1000000) zze26 zzh26 (forgetK 4803 [] [] zzl6 KK) = KK .n zze27 zzh27 := by kernel_rfl
theorem zzr29 (KK : KX) : cK (repC 5 b40_114) (callX T (ev T 1000000)) (ev T 1000000) zze28 zzh28 (forgetK 7729 [] [] zzl6 KK) = KK .n zze29 zzh29 := by kernel_rfl
theorem zzr31 (KK : KX) : cK (repC 5 b40_114) (callX T (ev T 1000000)) (ev T 1000000) zze30 zzh30 (forgetK 11526 [] [] zzl6 KK) = KK .n zze31 zzh31 := by kernel_rfl
theorem zzr33 (KK : KX) : cK (repC 5 b40_114) (callX T (ev T 1000000)) (ev T 1000000) zze32 zzh32 (forgetK 19230 [] [] zzl6 KK) = KK .n zze33 zzh33 := by kernel_rfl
theorem zzr35 (KK : KX) : cK (repC 5 b40_114) (callX T (ev T 1000000)) (ev T 1000000) zze34 zzh34 (forgetK 24397 [] [] zzl6 KK) = KK .n zze35 zzh35 := by kernel_rfl
theorem zzr37 (KK : KX) : cK b40_114 (callX T (ev T 1000000)) (ev T 1000000) zze36 zzh36 (forgetK 26334 [] [] zzl6 KK) = KK .n zze37 zzh37 := by kernel_rfl
theorem zzr39 (KK : KX) : cK b40_114 (callX T (ev T 1000000)) (ev T 1000000) zze38 zzh38 (forgetK 26779 [] [355, 356, 357, 358, 359, 360, 361, 362, 363, 364, 365, 366, 367, 368, 369, 370, 371, 372, 373, 374, 375, 376, 377, 378, 379, 380, 381, 382, 383, 384, 385, 386, 387, 388, 389, 390, 391, 392, 393, 394, 395, 396, 397, 398, 399, 400, 401, 402, 403, 404, 405, 406, 407, 408, 409, 410, 411, 412, 413, 414, 415, 416, 417, 418, 419, 420, 421, 422, 423, 424, 425, 426, 427, 428, 429, 430] zzl5 KK) = KK (.x 7) zze39 zzh39 := by kernel_rfl
end Go.Ev
