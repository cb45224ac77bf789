/-
  RenderRound (law 15): for every number n, at a start in which the listed variables hold what the program's text lays: the law returns true, and its argument reads as it did.
-/
import Derived.Test.YtodphkcmkjnfoaaGreatDoorRw
import Derived.Test.YtodphkcmkjnfoaaGreatDoorRd
import Derived.Test.YtodphkcmkjnfoaaGreatDoorTie
import Derived.Test.YtodphkcmkjnfoaaGreatDoorCards
namespace Go.Proofs.YtodphkcmkjnfoaaGreatDoor
open Go.ChangeShapes Go.WideShapes Go.ChangeAt Go.RowKit
set_option maxRecDepth 100000

theorem over : Rows.renderRoundRow.holds Tryz.pinned (OpenSpec.ofChange Rows.renderRoundSpec) :=
  OpenClaim.holds_of_wide 6 Tryz.f6 rfl rfl rfl rfl rfl rfl rfl ⟨rfl, rfl, rfl, rfl, rfl⟩ rfl rfl rfl rfl rfl (by kernel_rfl) Tryz.func6 (by kernel_rfl)
    (of_decide_eq_true (by kernel_rfl)) (by unfold Func.isWrapper; first | (rw [if_pos (by decide +kernel)]; kernel_rfl) | (rw [if_neg (by decide +kernel)]; exact ⟨rfl, rfl⟩))
    (fun os started H enc _ => lifted Ev.walk os started H enc)

theorem renderRound_holds : Rows.RenderRoundCardSaid :=
  Claim7.holds_tied_plain_at .later [] [.data, .data, .data, .data, .pinned] true (true, "d9b1b2a1d16ad7710a83a4e0f461f760c51ddb8303a45a50c125305849f9ca41") false
    over (fun _ h => by cases h) (by kernel_rfl) (fun _ h => by cases h) renderRound_row_tie rfl ⟨rfl, rfl⟩ (by kernel_rfl) rfl
    (fun f fn hf hfn => by
      obtain rfl : f = 6 := Option.some.inj ((show Tryz.prog.funcNamed "vivarium/vivariumlaw15.RenderRound" = some 6 by kernel_rfl).symm.trans hf) |>.symm
      obtain rfl : fn = Tryz.f6 := (Option.some.inj (Tryz.func6.symm.trans hfn)).symm
      exact ⟨by kernel_rfl, fun j t ht => by
        rw [Tryz.params6] at ht
        have hm : t ∈ [3] := by simpa using Array.mem_of_getElem? ht
        have hall : ([3].all fun u => !Tryz.prog.wantsStandIn u) = true := by kernel_rfl
        exact (show Tryz.prog.wantsStandIn t = false by simpa using List.all_eq_true.1 hall t hm)⟩)
    (by kernel_rfl)
end Go.Proofs.YtodphkcmkjnfoaaGreatDoor
