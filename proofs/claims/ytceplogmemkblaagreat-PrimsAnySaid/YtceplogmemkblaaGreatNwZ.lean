/-
  The pieces of a run, put together.
-/
import Derived.Test.YtceplogmemkblaaGreatNwQ1
import Derived.Test.YtceplogmemkblaaGreatNwQ2
import Derived.KernelRfl
import Derived.Test.YtceplogmemkblaaGreatTy
namespace Go.Ev
open Go.Proofs
set_option maxRecDepth 100000
theorem zzq0 : SemC Tryz.prog b40_0 zze zzh .n zze0 zzh0 := semC_run mix tab 1000000 1000000 0 [] [] zzl0 zzr0
theorem zzq1 : SemC Tryz.prog b40_1 zze0 zzh0 .n zze1 zzh1 := semC_run mix tab 1000000 1000000 0 [0, 1, 2] [] zzl1 zzr1
theorem zzq2 : SemC Tryz.prog b40_15 zze1 zzh1 .n zze2 zzh2 := semC_run mix tab 1000000 1000000 3 [] [] zzl2 zzr2
theorem zzq3 : SemC Tryz.prog b40_16 zze2 zzh2 .n zze3 zzh3 := semC_run mix tab 1000000 1000000 3 [3, 4, 5, 6] [] zzl3 zzr3
theorem zzq4 : SemC Tryz.prog b40_32 zze3 zzh3 .n zze4 zzh4 := semC_run mix tab 1000000 1000000 7 [] [] zzl3 zzr4
theorem zzq5 : SemC Tryz.prog b40_33 zze4 zzh4 .n zze5 zzh5 := semC_run mix tab 1000000 1000000 7 [7] [] zzl4 zzr5
theorem zzq8 : SemC Tryz.prog b40_90 zze7 zzh7 .n zze8 zzh8 := semC_run mix tab 1000000 1000000 248 [] [] zzl4 zzr8
theorem zzq9 : SemC Tryz.prog b40_90 zze8 zzh8 .n zze9 zzh9 := semC_run mix tab 1000000 1000000 263 [] [] zzl4 zzr9
theorem zzq10 : SemC Tryz.prog b40_90 zze9 zzh9 .n zze10 zzh10 := semC_run mix tab 1000000 1000000 282 [] [] zzl4 zzr10
theorem zzq11 : SemC Tryz.prog b40_90 zze10 zzh10 .n zze11 zzh11 := semC_run mix tab 1000000 1000000 299 [] [] zzl4 zzr11
theorem zzq12 : SemC Tryz.prog b40_90 zze11 zzh11 (.x 3) zze12 zzh12 := semC_run mix tab 1000000 1000000 355 [] [7] zzl5 zzr12
theorem zzq13 : SemL Tryz.prog b40_90 zze11 zzh11 (.x 3) zze12 zzh12 := SemL.exit (by intro h; cases h) zzq12
theorem zzq14 : SemL Tryz.prog b40_90 zze10 zzh10 (.x 3) zze12 zzh12 := SemL.step zzq11 zzq13
theorem zzq15 : SemL Tryz.prog b40_90 zze9 zzh9 (.x 3) zze12 zzh12 := SemL.step zzq10 zzq14
theorem zzq16 : SemL Tryz.prog b40_90 zze8 zzh8 (.x 3) zze12 zzh12 := SemL.step zzq9 zzq15
theorem zzq17 : SemL Tryz.prog b40_90 zze7 zzh7 (.x 3) zze12 zzh12 := SemL.step zzq8 zzq16
theorem zzq18 : SemL Tryz.prog b40_90 zze6 zzh6 (.x 3) zze12 zzh12 := semL_run mix tab 5 1000000 1000000 122 [] [] zzl4 zzr7 zzq17
theorem zzq19 : SemL Tryz.prog b40_90 zze5 zzh5 (.x 3) zze12 zzh12 := semL_run mix tab 5 1000000 1000000 8 [] [] zzl4 zzr6 zzq18
theorem zzq20 : SemC Tryz.prog b40_91 zze5 zzh5 (.x 3) zze12 zzh12 := SemC.loop zzq19
theorem zzq21 : SemC Tryz.prog b40_92 zze5 zzh5 .n zze12 zzh12 := SemC.blk rfl zzq20
theorem zzq22 : SemC Tryz.prog b40_93 zze4 zzh4 .n zze12 zzh12 := SemC.seq zzq5 zzq21
theorem zzq23 : SemC Tryz.prog b40_94 zze12 zzh12 .n zze23 zzh23 := semC_run mix tab 1000000 1000000 355 [355, 356, 357, 358, 359, 360, 361, 362, 363, 364, 365, 366, 367, 368, 369, 370, 371, 372, 373, 374, 375, 376, 377, 378, 379, 380, 381, 382, 383, 384, 385, 386, 387, 388, 389, 390, 391, 392, 393, 394, 395, 396, 397, 398, 399, 400, 401, 402, 403, 404, 405, 406, 407, 408, 409, 410, 411, 412, 413, 414, 415, 416, 417, 418, 419, 420, 421, 422, 423, 424, 425, 426, 427, 428, 429, 430] [] zzl6 zzr23
theorem zzq36 : SemC Tryz.prog b40_114 zze35 zzh35 .n zze36 zzh36 := semC_run mix tab 1000000 1000000 26147 [] [] zzl6 zzr36
theorem zzq37 : SemC Tryz.prog b40_114 zze36 zzh36 .n zze37 zzh37 := semC_run mix tab 1000000 1000000 26334 [] [] zzl6 zzr37
theorem zzq38 : SemC Tryz.prog b40_114 zze37 zzh37 .n zze38 zzh38 := semC_run mix tab 1000000 1000000 26556 [] [] zzl6 zzr38
theorem zzq39 : SemC Tryz.prog b40_114 zze38 zzh38 (.x 7) zze39 zzh39 := semC_run mix tab 1000000 1000000 26779 [] [355, 356, 357, 358, 359, 360, 361, 362, 363, 364, 365, 366, 367, 368, 369, 370, 371, 372, 373, 374, 375, 376, 377, 378, 379, 380, 381, 382, 383, 384, 385, 386, 387, 388, 389, 390, 391, 392, 393, 394, 395, 396, 397, 398, 399, 400, 401, 402, 403, 404, 405, 406, 407, 408, 409, 410, 411, 412, 413, 414, 415, 416, 417, 418, 419, 420, 421, 422, 423, 424, 425, 426, 427, 428, 429, 430] zzl5 zzr39
theorem zzq40 : SemL Tryz.prog b40_114 zze38 zzh38 (.x 7) zze39 zzh39 := SemL.exit (by intro h; cases h) zzq39
theorem zzq41 : SemL Tryz.prog b40_114 zze37 zzh37 (.x 7) zze39 zzh39 := SemL.step zzq38 zzq40
theorem zzq42 : SemL Tryz.prog b40_114 zze36 zzh36 (.x 7) zze39 zzh39 := SemL.step zzq37 zzq41
theorem zzq43 : SemL Tryz.prog b40_114 zze35 zzh35 (.x 7) zze39 zzh39 := SemL.step zzq36 zzq42
theorem zzq44 : SemL Tryz.prog b40_114 zze34 zzh34 (.x 7) zze39 zzh39 := semL_run mix tab 5 1000000 1000000 24397 [] [] zzl6 zzr35 zzq43
theorem zzq45 : SemL Tryz.prog b40_114 zze33 zzh33 (.x 7) zze39 zzh39 := semL_run mix tab 5 1000000 1000000 21049 [] [] zzl6 zzr34 zzq44
theorem zzq46 : SemL Tryz.prog b40_114 zze32 zzh32 (.x 7) zze39 zzh39 := semL_run mix tab 5 1000000 1000000 19230 [] [] zzl6 zzr33 zzq45
theorem zzq47 : SemL Tryz.prog b40_114 zze31 zzh31 (.x 7) zze39 zzh39 := semL_run mix tab 5 1000000 1000000 15397 [] [] zzl6 zzr32 zzq46
theorem zzq48 : SemL Tryz.prog b40_114 zze30 zzh30 (.x 7) zze39 zzh39 := semL_run mix tab 5 1000000 1000000 11526 [] [] zzl6 zzr31 zzq47
theorem zzq49 : SemL Tryz.prog b40_114 zze29 zzh29 (.x 7) zze39 zzh39 := semL_run mix tab 5 1000000 1000000 9436 [] [] zzl6 zzr30 zzq48
theorem zzq50 : SemL Tryz.prog b40_114 zze28 zzh28 (.x 7) zze39 zzh39 := semL_run mix tab 5 1000000 1000000 7729 [] [] zzl6 zzr29 zzq49
theorem zzq51 : SemL Tryz.prog b40_114 zze27 zzh27 (.x 7) zze39 zzh39 := semL_run mix tab 5 1000000 1000000 6311 [] [] zzl6 zzr28 zzq50
theorem zzq52 : SemL Tryz.prog b40_114 zze26 zzh26 (.x 7) zze39 zzh39 := semL_run mix tab 5 1000000 1000000 4803 [] [] zzl6 zzr27 zzq51
theorem zzq53 : SemL Tryz.prog b40_114 zze25 zzh25 (.x 7) zze39 zzh39 := semL_run mix tab 5 1000000 1000000 3660 [] [] zzl6 zzr26 zzq52
theorem zzq54 : SemL Tryz.prog b40_114 zze24 zzh24 (.x 7) zze39 zzh39 := semL_run mix tab 5 1000000 1000000 2354 [] [] zzl6 zzr25 zzq53
theorem zzq55 : SemL Tryz.prog b40_114 zze23 zzh23 (.x 7) zze39 zzh39 := semL_run mix tab 5 1000000 1000000 431 [] [] zzl6 zzr24 zzq54
theorem zzq56 : SemC Tryz.prog b40_115 zze23 zzh23 (.x 7) zze39 zzh39 := SemC.loop zzq55
theorem zzq57 : SemC Tryz.prog b40_116 zze23 zzh23 .n zze39 zzh39 := SemC.blk rfl zzq56
theorem zzq58 : SemC Tryz.prog b40_117 zze12 zzh12 .n zze39 zzh39 := SemC.seq zzq23 zzq57
theorem zzq59 : SemC Tryz.prog b40_120 zze39 zzh39 .r zze59 zzh59 := semC_run mix tab 1000000 1000000 26779 [] [] zzl7 zzr59
theorem zzq60 : SemC Tryz.prog b40_121 zze12 zzh12 .r zze59 zzh59 := SemC.seq zzq58 zzq59
theorem zzq61 : SemC Tryz.prog b40_122 zze4 zzh4 .r zze59 zzh59 := SemC.seq zzq22 zzq60
theorem zzq62 : SemC Tryz.prog b40_123 zze3 zzh3 .r zze59 zzh59 := SemC.seq zzq4 zzq61
theorem zzq63 : SemC Tryz.prog b40_124 zze2 zzh2 .r zze59 zzh59 := SemC.seq zzq3 zzq62
theorem zzq64 : SemC Tryz.prog b40_125 zze1 zzh1 .r zze59 zzh59 := SemC.seq zzq2 zzq63
theorem zzq65 : SemC Tryz.prog b40_126 zze0 zzh0 .r zze59 zzh59 := SemC.seq zzq1 zzq64
theorem zzq66 : SemC Tryz.prog b40 zze zzh .r zze59 zzh59 := SemC.seq zzq0 zzq65
end Go.Ev
