/-
  Pieces of a run, by the kernel.
-/
import Derived.Test.YtceplogmemkblaaGreatNwS1
import Derived.KernelRfl
namespace Go.Ev
set_option maxRecDepth 100000
theorem zzr0 (KK : KX) : cK b40_0 (callX T (ev T 1000000)) (ev T 1000000) zze zzh (forgetK 0 [] [] zzl0 KK) = KK .n zze0 zzh0 := by kernel_rfl
theorem zzr2 (KK : KX) : cK b40_15 (callX T (ev T 1000000)) (ev T 1000000) zze1 zzh1 (forgetK 3 [] [] zzl2 KK) = KK .n zze2 zzh2 := by kernel_rfl
theorem zzr4 (KK : KX) : cK b40_32 (callX T (ev T 1000000)) (ev T 1000000) zze3 zzh3 (forgetK 7 [] [] zzl3 KK) = KK .n zze4 zzh4 := by kernel_rfl
theorem zzr6 (KK : KX) : cK (repC 5 b40_90) (callX T (ev T 1000000)) (ev T 1000000) zze5 zzh5 (forgetK 8 [] [] zzl4 KK) = KK .n zze6 zzh6 := by kernel_rfl
theorem zzr8 (KK : KX) : cK b40_90 (callX T (ev T 1000000)) (ev T 1000000) zze7 zzh7 (forgetK 248 [] [] zzl4 KK) = KK .n zze8 zzh8 := by kernel_rfl
theorem zzr10 (KK : KX) : cK b40_90 (callX T (ev T 1000000)) (ev T 1000000) zze9 zzh9 (forgetK 282 [] [] zzl4 KK) = KK .n zze10 zzh10 := by kernel_rfl
theorem zzr12 (KK : KX) : cK b40_90 (callX T (ev T 1000000)) (ev T 1000000) zze11 zzh11 (forgetK 355 [] [7] zzl5 KK) = KK (.x 3) zze12 zzh12 := by kernel_rfl
theorem zzr24 (KK : KX) : cK (repC 5 b40_114) (callX T (ev T 1000000)) (ev T 1000000) zze23 zzh23 (forgetK 431 [] [] zzl6 KK) = KK .n zze24 zzh24 := by kernel_rfl
theorem zzr26 (KK : KX) : cK (repC 5 b40_114) (callX T (ev T 1000000)) (ev T 1000000) zze25 zzh25 (forgetK 3660 [] [] zzl6 KK) = KK .n zze26 zzh26 := by kernel_rfl
theorem zzr28 (KK : KX) : cK (repC 5 b40_114) (callX T (ev T 1000000)) (ev T 1000000) zze27 zzh27 (forgetK 6311 [] [] zzl6 KK) = KK .n zze28 zzh28 := by kernel_rfl
theorem zzr30 (KK : KX) : cK (repC 5 b40_114) (callX T (ev T 1000000)) (ev T 1000000) zze29 zzh29 (forgetK 9436 [] [] zzl6 KK) = KK .n zze30 zzh30 := by kernel_rfl
theorem zzr32 (KK : KX) : cK (repC 5 b40_114) (callX T (ev T 1000000)) (ev T 1000000) zze31 zzh31 (forgetK 15397 [] [] zzl6 KK) = KK .n zze32 zzh32 := by kernel_rfl
theorem zzr34 (KK : KX) : cK (repC 5 b40_114) (callX T (ev T 1000000)) (ev T 1000000) zze33 zzh33 (forgetK 21049 [] [] zzl6 KK) = KK .n zze34 zzh34 := by kernel_rfl
theorem zzr36 (KK : KX) : cK b40_114 (callX T (ev T 1000000)) (ev T 1000000) zze35 zzh35 (forgetK 26147 [] [] zzl6 KK) = KK .n zze36 zzh36 := by kernel_rfl
theorem zzr38 (KK : KX) : cK b40_114 (callX T (ev T 1000000)) (ev T 1000000) zze37 zzh37 (forgetK 26556 [] [] zzl6 KK) = KK .n zze38 zzh38 := by kernel_rfl
theorem zzr59 (KK : KX) : cK b40_120 (callX T (ev T 1000000)) (ev T 1000000) zze39 zzh39 (forgetK 26779 [] [] zzl7 KK) = KK .r zze59 zzh59 := by kernel_rfl
end Go.Ev
