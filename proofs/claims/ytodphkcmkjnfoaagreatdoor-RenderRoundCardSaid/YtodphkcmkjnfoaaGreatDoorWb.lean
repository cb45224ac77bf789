/-
  The document's examples hold, wherever they are asked for; the table that knows it.
-/
import Derived.Test.YtodphkcmkjnfoaaGreatDoorLiZ
import Derived.Test.YtodphkcmkjnfoaaGreatDoorWx
import Derived.KernelRfl
namespace Go.Ev
open Go.Proofs
set_option maxRecDepth 100000
theorem lives_sem : CSem Tryz.prog 13 .nil ⟨.nil, 0⟩ (.b true) vzh0 := csem_of c13 vzq0 (.inr rfl) (fun k => by kernel_rfl) (fun k => by kernel_rfl)
theorem lives_rel : FRel Tryz.prog 13 (.hk hkLives) := by
  intro l h k hg
  rcases consK_or (show (consK l (fun _ _ => .fail 125) (k (.b true) h) (.fail 125)).good from hg) with ⟨_, _, _, g⟩ | ⟨rfl, g⟩
  · exact absurd g Res.not_good_fail
  · exact ⟨_, h, CSem.anywhere (l := .nil) (fun μ w nx vs hv => VRL_nil.2 (VRL_nil.1 hv)) lives_sem h, g⟩
theorem tab2 : TRel Tryz.prog T2 := tab1b.set (by decide) lives_rel
end Go.Ev
