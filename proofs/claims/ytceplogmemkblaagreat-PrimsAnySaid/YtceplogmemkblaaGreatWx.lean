/-
  The document's examples hold, wherever they are asked for.
-/
import Derived.Test.YtceplogmemkblaaGreatLiZ
import Derived.KernelRfl
namespace Go.Ev
open Go.Proofs
set_option maxRecDepth 100000
theorem lives_sem : ∃ h', CSem Tryz.prog 13 .nil ⟨.nil, 0⟩ (.b true) h' := ⟨_, csem_of c13 vzq0 (.inr rfl) (fun k => by kernel_rfl) (fun k => by kernel_rfl)⟩
theorem lives_any (h : H) : CSem Tryz.prog 13 .nil h (.b true) h := by
  obtain ⟨h', hs⟩ := lives_sem
  exact CSem.anywhere (l := .nil) (fun μ w nx vs hv => VRL_nil.2 (VRL_nil.1 hv)) hs h
end Go.Ev
