/-
  Pieces of a run, by the kernel.
-/
import Derived.Test.YtodphkcmkjnfoaaGreatDoorNwS2
import Derived.KernelRfl
namespace Go.Ev
set_option maxRecDepth 100000
theorem zzr0 (KK : KX) : cK b19_0 (callX T (ev T 1000000)) (ev T 1000000) zze zzh (forgetK 0 [] [] zzl0 KK) = KK .n zze0 zzh0 := by kernel_rfl
theorem zzr1 (KK : KX) : cK b19_1 (callX T (ev T 1000000)) (ev T 1000000) zze0 zzh0 (forgetK 0 [0, 1, 2] [] zzl1 KK) = KK .n zze1 zzh1 := by kernel_rfl
theorem zzr2 (KK : KX) : cK b19_15 (callX T (ev T 1000000)) (ev T 1000000) zze1 zzh1 (forgetK 3 [] [] zzl2 KK) = KK .n zze2 zzh2 := by kernel_rfl
theorem zzr3 (KK : KX) : cK b19_16 (callX T (ev T 1000000)) (ev T 1000000) zze2 zzh2 (forgetK 3 [3, 4, 5, 6] [] zzl3 KK) = KK .n zze3 zzh3 := by kernel_rfl
theorem zzr4 (KK : KX) : cK b19_32 (callX T (ev T 1000000)) (ev T 1000000) zze3 zzh3 (forgetK 7 [] [] zzl3 KK) = KK .n zze4 zzh4 := by kernel_rfl
theorem zzr5 (KK : KX) : cK b19_33 (callX T (ev T 1000000)) (ev T 1000000) zze4 zzh4 (forgetK 7 [7] [] zzl4 KK) = KK .n zze5 zzh5 := by kernel_rfl
theorem zzr6 (KK : KX) : cK b19_90 (callX T (ev T 1000000)) (ev T 1000000) zze5 zzh5 (forgetK 8 [] [] zzl4 KK) = KK .n zze6 zzh6 := by kernel_rfl
theorem zzr7 (KK : KX) : cK b19_90 (callX T (ev T 1000000)) (ev T 1000000) zze6 zzh6 (forgetK 25 [] [] zzl4 KK) = KK .n zze7 zzh7 := by kernel_rfl
theorem zzr8 (KK : KX) : cK b19_90 (callX T (ev T 1000000)) (ev T 1000000) zze7 zzh7 (forgetK 40 [] [] zzl4 KK) = KK .n zze8 zzh8 := by kernel_rfl
theorem zzr9 (KK : KX) : cK b19_90 (callX T (ev T 1000000)) (ev T 1000000) zze8 zzh8 (forgetK 75 [] [] zzl4 KK) = KK .n zze9 zzh9 := by kernel_rfl
theorem zzr10 (KK : KX) : cK b19_90 (callX T (ev T 1000000)) (ev T 1000000) zze9 zzh9 (forgetK 94 [] [] zzl4 KK) = KK .n zze10 zzh10 := by kernel_rfl
theorem zzr11 (KK : KX) : cK b19_90 (callX T (ev T 1000000)) (ev T 1000000) zze10 zzh10 (forgetK 107 [] [] zzl4 KK) = KK .n zze11 zzh11 := by kernel_rfl
theorem zzr12 (KK : KX) : cK b19_90 (callX T (ev T 1000000)) (ev T 1000000) zze11 zzh11 (forgetK 122 [] [] zzl4 KK) = KK .n zze12 zzh12 := by kernel_rfl
theorem zzr13 (KK : KX) : cK b19_90 (callX T (ev T 1000000)) (ev T 1000000) zze12 zzh12 (forgetK 141 [] [] zzl4 KK) = KK .n zze13 zzh13 := by kernel_rfl
theorem zzr14 (KK : KX) : cK b19_90 (callX T (ev T 1000000)) (ev T 1000000) zze13 zzh13 (forgetK 170 [] [] zzl4 KK) = KK .n zze14 zzh14 := by kernel_rfl
theorem zzr15 (KK : KX) : cK b19_90 (callX T (ev T 1000000)) (ev T 1000000) zze14 zzh14 (forgetK 199 [] [] zzl4 KK) = KK .n zze15 zzh15 := by kernel_rfl
theorem zzr16 (KK : KX) : cK b19_90 (callX T (ev T 1000000)) (ev T 1000000) zze15 zzh15 (forgetK 214 [] [] zzl4 KK) = KK .n zze16 zzh16 := by kernel_rfl
theorem zzr17 (KK : KX) : cK b19_90 (callX T (ev T 1000000)) (ev T 1000000) zze16 zzh16 (forgetK 231 [] [] zzl4 KK) = KK .n zze17 zzh17 := by kernel_rfl
theorem zzr18 (KK : KX) : cK b19_90 (callX T (ev T 1000000)) (ev T 1000000) zze17 zzh17 (forgetK 248 [] [] zzl4 KK) = KK .n zze18 zzh18 := by kernel_rfl
theorem zzr19 (KK : KX) : cK b19_90 (callX T (ev T 1000000)) (ev T 1000000) zze18 zzh18 (forgetK 263 [] [] zzl4 KK) = KK .n zze19 zzh19 := by kernel_rfl
theorem zzr20 (KK : KX) : cK b19_90 (callX T (ev T 1000000)) (ev T 1000000) zze19 zzh19 (forgetK 282 [] [] zzl4 KK) = KK .n zze20 zzh20 := by kernel_rfl
theorem zzr21 (KK : KX) : cK b19_90 (callX T (ev T 1000000)) (ev T 1000000) zze20 zzh20 (forgetK 299 [] [] zzl4 KK) = KK .n zze21 zzh21 := by kernel_rfl
theorem zzr22 (KK : KX) : cK b19_90 (callX T (ev T 1000000)) (ev T 1000000) zze21 zzh21 (forgetK 355 [] [7] zzl5 KK) = KK (.x 3) zze22 zzh22 := by kernel_rfl
theorem zzr43 (KK : KX) : cK b19_94 (callX T (ev T 1000000)) (ev T 1000000) zze22 zzh22 (forgetK 355 [355, 356, 357, 358, 359, 360, 361, 362, 363, 364, 365, 366, 367, 368, 369, 370, 371, 372, 373, 374, 375, 376, 377, 378, 379, 380, 381, 382, 383, 384, 385, 386, 387, 388, 389, 390, 391, 392, 393, 394, 395, 396, 397, 398, 399, 400, 401, 402, 403, 404, 405, 406, 407, 408, 409, 410, 411, 412, 413, 414, 415, 416, 417, 418, 419, 420, 421, 422, 423, 424, 425, 426, 427, 428, 429, 430] [] zzl6 KK) = KK .n zze43 zzh43 := by kernel_rfl
theorem zzr44 (KK : KX) : cK b19_114 (callX T (ev T 1000000)) (ev T 1000000) zze43 zzh43 (forgetK 431 [] [] zzl6 KK) = KK .n zze44 zzh44 := by kernel_rfl
theorem zzr45 (KK : KX) : cK b19_114 (callX T (ev T 1000000)) (ev T 1000000) zze44 zzh44 (forgetK 750 [] [] zzl6 KK) = KK .n zze45 zzh45 := by kernel_rfl
theorem zzr46 (KK : KX) : cK b19_114 (callX T (ev T 1000000)) (ev T 1000000) zze45 zzh45 (forgetK 934 [] [] zzl6 KK) = KK .n zze46 zzh46 := by kernel_rfl
theorem zzr47 (KK : KX) : cK b19_114 (callX T (ev T 1000000)) (ev T 1000000) zze46 zzh46 (forgetK 1105 [] [] zzl6 KK) = KK .n zze47 zzh47 := by kernel_rfl
theorem zzr48 (KK : KX) : cK b19_114 (callX T (ev T 1000000)) (ev T 1000000) zze47 zzh47 (forgetK 1399 [] [] zzl6 KK) = KK .n zze48 zzh48 := by kernel_rfl
theorem zzr49 (KK : KX) : cK b19_114 (callX T (ev T 1000000)) (ev T 1000000) zze48 zzh48 (forgetK 1862 [] [] zzl6 KK) = KK .n zze49 zzh49 := by kernel_rfl
theorem zzr50 (KK : KX) : cK b19_114 (callX T (ev T 1000000)) (ev T 1000000) zze49 zzh49 (forgetK 2354 [] [] zzl6 KK) = KK .n zze50 zzh50 := by kernel_rfl
theorem zzr51 (KK : KX) : cK b19_114 (callX T (ev T 1000000)) (ev T 1000000) zze50 zzh50 (forgetK 2546 [] [] zzl6 KK) = KK .n zze51 zzh51 := by kernel_rfl
theorem zzr52 (KK : KX) : cK b19_114 (callX T (ev T 1000000)) (ev T 1000000) zze51 zzh51 (forgetK 2754 [] [] zzl6 KK) = KK .n zze52 zzh52 := by kernel_rfl
theorem zzr53 (KK : KX) : cK b19_114 (callX T (ev T 1000000)) (ev T 1000000) zze52 zzh52 (forgetK 3005 [] [] zzl6 KK) = KK .n zze53 zzh53 := by kernel_rfl
theorem zzr54 (KK : KX) : cK b19_114 (callX T (ev T 1000000)) (ev T 1000000) zze53 zzh53 (forgetK 3207 [] [] zzl6 KK) = KK .n zze54 zzh54 := by kernel_rfl
theorem zzr55 (KK : KX) : cK b19_114 (callX T (ev T 1000000)) (ev T 1000000) zze54 zzh54 (forgetK 3411 [] [] zzl6 KK) = KK .n zze55 zzh55 := by kernel_rfl
theorem zzr56 (KK : KX) : cK b19_114 (callX T (ev T 1000000)) (ev T 1000000) zze55 zzh55 (forgetK 3660 [] [] zzl6 KK) = KK .n zze56 zzh56 := by kernel_rfl
theorem zzr57 (KK : KX) : cK b19_114 (callX T (ev T 1000000)) (ev T 1000000) zze56 zzh56 (forgetK 3829 [] [] zzl6 KK) = KK .n zze57 zzh57 := by kernel_rfl
theorem zzr58 (KK : KX) : cK b19_114 (callX T (ev T 1000000)) (ev T 1000000) zze57 zzh57 (forgetK 4029 [] [] zzl6 KK) = KK .n zze58 zzh58 := by kernel_rfl
theorem zzr59 (KK : KX) : cK b19_114 (callX T (ev T 1000000)) (ev T 1000000) zze58 zzh58 (forgetK 4253 [] [] zzl6 KK) = KK .n zze59 zzh59 := by kernel_rfl
theorem zzr60 (KK : KX) : cK b19_114 (callX T (ev T 1000000)) (ev T 1000000) zze59 zzh59 (forgetK 4440 [] [] zzl6 KK) = KK .n zze60 zzh60 := by kernel_rfl
theorem zzr61 (KK : KX) : cK b19_114 (callX T (ev T 1000000)) (ev T 1000000) zze60 zzh60 (forgetK 4607 [] [] zzl6 KK) = KK .n zze61 zzh61 := by kernel_rfl
theorem zzr62 (KK : KX) : cK b19_114 (callX T (ev T 1000000)) (ev T 1000000) zze61 zzh61 (forgetK 4803 [] [] zzl6 KK) = KK .n zze62 zzh62 := by kernel_rfl
theorem zzr63 (KK : KX) : cK b19_114 (callX T (ev T 1000000)) (ev T 1000000) zze62 zzh62 (forgetK 4972 [] [] zzl6 KK) = KK .n zze63 zzh63 := by kernel_rfl
theorem zzr64 (KK : KX) : cK b19_114 (callX T (ev T 1000000)) (ev T 1000000) zze63 zzh63 (forgetK 5153 [] [] zzl6 KK) = KK .n zze64 zzh64 := by kernel_rfl
theorem zzr65 (KK : KX) : cK b19_114 (callX T (ev T 1000000)) (ev T 1000000) zze64 zzh64 (forgetK 5439 [] [] zzl6 KK) = KK .n zze65 zzh65 := by kernel_rfl
theorem zzr66 (KK : KX) : cK b19_114 (callX T (ev T 1000000)) (ev T 1000000) zze65 zzh65 (forgetK 5658 [] [] zzl6 KK) = KK .n zze66 zzh66 := by kernel_rfl
theorem zzr67 (KK : KX) : cK b19_114 (callX T (ev T 1000000)) (ev T 1000000) zze66 zzh66 (forgetK 5984 [] [] zzl6 KK) = KK .n zze67 zzh67 := by kernel_rfl
theorem zzr68 (KK : KX) : cK b19_114 (callX T (ev T 1000000)) (ev T 1000000) zze67 zzh67 (forgetK 6311 [] [] zzl6 KK) = KK .n zze68 zzh68 := by kernel_rfl
theorem zzr69 (KK : KX) : cK b19_114 (callX T (ev T 1000000)) (ev T 1000000) zze68 zzh68 (forgetK 6580 [] [] zzl6 KK) = KK .n zze69 zzh69 := by kernel_rfl
theorem zzr70 (KK : KX) : cK b19_114 (callX T (ev T 1000000)) (ev T 1000000) zze69 zzh69 (forgetK 6789 [] [] zzl6 KK) = KK .n zze70 zzh70 := by kernel_rfl
theorem zzr71 (KK : KX) : cK b19_114 (callX T (ev T 1000000)) (ev T 1000000) zze70 zzh70 (forgetK 6971 [] [] zzl6 KK) = KK .n zze71 zzh71 := by kernel_rfl
theorem zzr72 (KK : KX) : cK b19_114 (callX T (ev T 1000000)) (ev T 1000000) zze71 zzh71 (forgetK 7173 [] [] zzl6 KK) = KK .n zze72 zzh72 := by kernel_rfl
theorem zzr73 (KK : KX) : cK b19_114 (callX T (ev T 1000000)) (ev T 1000000) zze72 zzh72 (forgetK 7433 [] [] zzl6 KK) = KK .n zze73 zzh73 := by kernel_rfl
theorem zzr74 (KK : KX) : cK b19_114 (callX T (ev T 1000000)) (ev T 1000000) zze73 zzh73 (forgetK 7729 [] [] zzl6 KK) = KK .n zze74 zzh74 := by kernel_rfl
theorem zzr75 (KK : KX) : cK b19_114 (callX T (ev T 1000000)) (ev T 1000000) zze74 zzh74 (forgetK 8024 [] [] zzl6 KK) = KK .n zze75 zzh75 := by kernel_rfl
theorem zzr76 (KK : KX) : cK b19_114 (callX T (ev T 1000000)) (ev T 1000000) zze75 zzh75 (forgetK 8226 [] [] zzl6 KK) = KK .n zze76 zzh76 := by kernel_rfl
theorem zzr77 (KK : KX) : cK b19_114 (callX T (ev T 1000000)) (ev T 1000000) zze76 zzh76 (forgetK 8486 [] [] zzl6 KK) = KK .n zze77 zzh77 := by kernel_rfl
theorem zzr78 (KK : KX) : cK b19_114 (callX T (ev T 1000000)) (ev T 1000000) zze77 zzh77 (forgetK 8661 [] [] zzl6 KK) = KK .n zze78 zzh78 := by kernel_rfl
theorem zzr79 (KK : KX) : cK b19_114 (callX T (ev T 1000000)) (ev T 1000000) zze78 zzh78 (forgetK 9055 [] [] zzl6 KK) = KK .n zze79 zzh79 := by kernel_rfl
theorem zzr80 (KK : KX) : cK b19_114 (callX T (ev T 1000000)) (ev T 1000000) zze79 zzh79 (forgetK 9436 [] [] zzl6 KK) = KK .n zze80 zzh80 := by kernel_rfl
theorem zzr81 (KK : KX) : cK b19_114 (callX T (ev T 1000000)) (ev T 1000000) zze80 zzh80 (forgetK 9817 [] [] zzl6 KK) = KK .n zze81 zzh81 := by kernel_rfl
theorem zzr82 (KK : KX) : cK b19_114 (callX T (ev T 1000000)) (ev T 1000000) zze81 zzh81 (forgetK 10200 [] [] zzl6 KK) = KK .n zze82 zzh82 := by kernel_rfl
theorem zzr83 (KK : KX) : cK b19_114 (callX T (ev T 1000000)) (ev T 1000000) zze82 zzh82 (forgetK 10581 [] [] zzl6 KK) = KK .n zze83 zzh83 := by kernel_rfl
theorem zzr84 (KK : KX) : cK b19_114 (callX T (ev T 1000000)) (ev T 1000000) zze83 zzh83 (forgetK 10962 [] [] zzl6 KK) = KK .n zze84 zzh84 := by kernel_rfl
theorem zzr85 (KK : KX) : cK b19_114 (callX T (ev T 1000000)) (ev T 1000000) zze84 zzh84 (forgetK 11212 [] [] zzl6 KK) = KK .n zze85 zzh85 := by kernel_rfl
theorem zzr86 (KK : KX) : cK b19_114 (callX T (ev T 1000000)) (ev T 1000000) zze85 zzh85 (forgetK 11526 [] [] zzl6 KK) = KK .n zze86 zzh86 := by kernel_rfl
theorem zzr87 (KK : KX) : cK b19_114 (callX T (ev T 1000000)) (ev T 1000000) zze86 zzh86 (forgetK 11964 [] [] zzl6 KK) = KK .n zze87 zzh87 := by kernel_rfl
theorem zzr88 (KK : KX) : cK b19_114 (callX T (ev T 1000000)) (ev T 1000000) zze87 zzh87 (forgetK 12402 [] [] zzl6 KK) = KK .n zze88 zzh88 := by kernel_rfl
theorem zzr89 (KK : KX) : cK b19_114 (callX T (ev T 1000000)) (ev T 1000000) zze88 zzh88 (forgetK 12713 [] [] zzl6 KK) = KK .n zze89 zzh89 := by kernel_rfl
theorem zzr90 (KK : KX) : cK b19_114 (callX T (ev T 1000000)) (ev T 1000000) zze89 zzh89 (forgetK 13409 [] [] zzl6 KK) = KK .n zze90 zzh90 := by kernel_rfl
theorem zzr91 (KK : KX) : cK b19_114 (callX T (ev T 1000000)) (ev T 1000000) zze90 zzh90 (forgetK 14068 [] [] zzl6 KK) = KK .n zze91 zzh91 := by kernel_rfl
theorem zzr92 (KK : KX) : cK b19_114 (callX T (ev T 1000000)) (ev T 1000000) zze91 zzh91 (forgetK 15397 [] [] zzl6 KK) = KK .n zze92 zzh92 := by kernel_rfl
theorem zzr93 (KK : KX) : cK b19_114 (callX T (ev T 1000000)) (ev T 1000000) zze92 zzh92 (forgetK 16816 [] [] zzl6 KK) = KK .n zze93 zzh93 := by kernel_rfl
theorem zzr94 (KK : KX) : cK b19_114 (callX T (ev T 1000000)) (ev T 1000000) zze93 zzh93 (forgetK 17215 [] [] zzl6 KK) = KK .n zze94 zzh94 := by kernel_rfl
theorem zzr95 (KK : KX) : cK b19_114 (callX T (ev T 1000000)) (ev T 1000000) zze94 zzh94 (forgetK 17646 [] [] zzl6 KK) = KK .n zze95 zzh95 := by kernel_rfl
theorem zzr96 (KK : KX) : cK b19_114 (callX T (ev T 1000000)) (ev T 1000000) zze95 zzh95 (forgetK 17815 [] [] zzl6 KK) = KK .n zze96 zzh96 := by kernel_rfl
theorem zzr97 (KK : KX) : cK b19_114 (callX T (ev T 1000000)) (ev T 1000000) zze96 zzh96 (forgetK 18849 [] [] zzl6 KK) = KK .n zze97 zzh97 := by kernel_rfl
theorem zzr98 (KK : KX) : cK b19_114 (callX T (ev T 1000000)) (ev T 1000000) zze97 zzh97 (forgetK 19230 [] [] zzl6 KK) = KK .n zze98 zzh98 := by kernel_rfl
theorem zzr99 (KK : KX) : cK b19_114 (callX T (ev T 1000000)) (ev T 1000000) zze98 zzh98 (forgetK 19646 [] [] zzl6 KK) = KK .n zze99 zzh99 := by kernel_rfl
theorem zzr100 (KK : KX) : cK b19_114 (callX T (ev T 1000000)) (ev T 1000000) zze99 zzh99 (forgetK 19806 [] [] zzl6 KK) = KK .n zze100 zzh100 := by kernel_rfl
theorem zzr101 (KK : KX) : cK b19_114 (callX T (ev T 1000000)) (ev T 1000000) zze100 zzh100 (forgetK 20200 [] [] zzl6 KK) = KK .n zze101 zzh101 := by kernel_rfl
theorem zzr102 (KK : KX) : cK b19_114 (callX T (ev T 1000000)) (ev T 1000000) zze101 zzh101 (forgetK 20384 [] [] zzl6 KK) = KK .n zze102 zzh102 := by kernel_rfl
theorem zzr103 (KK : KX) : cK b19_114 (callX T (ev T 1000000)) (ev T 1000000) zze102 zzh102 (forgetK 20695 [] [] zzl6 KK) = KK .n zze103 zzh103 := by kernel_rfl
theorem zzr104 (KK : KX) : cK b19_114 (callX T (ev T 1000000)) (ev T 1000000) zze103 zzh103 (forgetK 21049 [] [] zzl6 KK) = KK .n zze104 zzh104 := by kernel_rfl
theorem zzr105 (KK : KX) : cK b19_114 (callX T (ev T 1000000)) (ev T 1000000) zze104 zzh104 (forgetK 21430 [] [] zzl6 KK) = KK .n zze105 zzh105 := by kernel_rfl
theorem zzr106 (KK : KX) : cK b19_114 (callX T (ev T 1000000)) (ev T 1000000) zze105 zzh105 (forgetK 21871 [] [] zzl6 KK) = KK .n zze106 zzh106 := by kernel_rfl
theorem zzr107 (KK : KX) : cK b19_114 (callX T (ev T 1000000)) (ev T 1000000) zze106 zzh106 (forgetK 22581 [] [] zzl6 KK) = KK .n zze107 zzh107 := by kernel_rfl
theorem zzr108 (KK : KX) : cK b19_114 (callX T (ev T 1000000)) (ev T 1000000) zze107 zzh107 (forgetK 23480 [] [] zzl6 KK) = KK .n zze108 zzh108 := by kernel_rfl
theorem zzr109 (KK : KX) : cK b19_114 (callX T (ev T 1000000)) (ev T 1000000) zze108 zzh108 (forgetK 24224 [] [] zzl6 KK) = KK .n zze109 zzh109 := by kernel_rfl
theorem zzr110 (KK : KX) : cK b19_114 (callX T (ev T 1000000)) (ev T 1000000) zze109 zzh109 (forgetK 24397 [] [] zzl6 KK) = KK .n zze110 zzh110 := by kernel_rfl
theorem zzr111 (KK : KX) : cK b19_114 (callX T (ev T 1000000)) (ev T 1000000) zze110 zzh110 (forgetK 24574 [] [] zzl6 KK) = KK .n zze111 zzh111 := by kernel_rfl
theorem zzr112 (KK : KX) : cK b19_114 (callX T (ev T 1000000)) (ev T 1000000) zze111 zzh111 (forgetK 24734 [] [] zzl6 KK) = KK .n zze112 zzh112 := by kernel_rfl
theorem zzr113 (KK : KX) : cK b19_114 (callX T (ev T 1000000)) (ev T 1000000) zze112 zzh112 (forgetK 24899 [] [] zzl6 KK) = KK .n zze113 zzh113 := by kernel_rfl
theorem zzr114 (KK : KX) : cK b19_114 (callX T (ev T 1000000)) (ev T 1000000) zze113 zzh113 (forgetK 25295 [] [] zzl6 KK) = KK .n zze114 zzh114 := by kernel_rfl
theorem zzr115 (KK : KX) : cK b19_114 (callX T (ev T 1000000)) (ev T 1000000) zze114 zzh114 (forgetK 25734 [] [] zzl6 KK) = KK .n zze115 zzh115 := by kernel_rfl
theorem zzr116 (KK : KX) : cK b19_114 (callX T (ev T 1000000)) (ev T 1000000) zze115 zzh115 (forgetK 26147 [] [] zzl6 KK) = KK .n zze116 zzh116 := by kernel_rfl
theorem zzr117 (KK : KX) : cK b19_114 (callX T (ev T 1000000)) (ev T 1000000) zze116 zzh116 (forgetK 26334 [] [] zzl6 KK) = KK .n zze117 zzh117 := by kernel_rfl
theorem zzr118 (KK : KX) : cK b19_114 (callX T (ev T 1000000)) (ev T 1000000) zze117 zzh117 (forgetK 26556 [] [] zzl6 KK) = KK .n zze118 zzh118 := by kernel_rfl
theorem zzr119 (KK : KX) : cK b19_114 (callX T (ev T 1000000)) (ev T 1000000) zze118 zzh118 (forgetK 26779 [] [355, 356, 357, 358, 359, 360, 361, 362, 363, 364, 365, 366, 367, 368, 369, 370, 371, 372, 373, 374, 375, 376, 377, 378, 379, 380, 381, 382, 383, 384, 385, 386, 387, 388, 389, 390, 391, 392, 393, 394, 395, 396, 397, 398, 399, 400, 401, 402, 403, 404, 405, 406, 407, 408, 409, 410, 411, 412, 413, 414, 415, 416, 417, 418, 419, 420, 421, 422, 423, 424, 425, 426, 427, 428, 429, 430] zzl5 KK) = KK (.x 7) zze119 zzh119 := by kernel_rfl
theorem zzr199 (KK : KX) : cK b19_120 (callX T (ev T 1000000)) (ev T 1000000) zze119 zzh119 (forgetK 26779 [] [] zzl7 KK) = KK .r zze199 zzh199 := by kernel_rfl
end Go.Ev
