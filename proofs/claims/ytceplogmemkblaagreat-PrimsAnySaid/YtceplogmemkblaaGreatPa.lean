/-
  PrimsAny (law 14): whatever the two things: true; the things read as they did.
-/
import Derived.Test.YtceplogmemkblaaGreatRp
import Derived.Test.YtceplogmemkblaaGreatLa
namespace Go.Proofs.YtceplogmemkblaaGreat
open Go.ChangeShapes Go.WideShapes Go.ChangeAt Go.RowKit Go.Joins
set_option maxRecDepth 100000

theorem lifted (os : Os) (started : os.Started) (H : Type) (enc : TypeId × Value → H) :
    ReturnsInHanded {} Tryz.checked os 4 .any (Rows.primsAnySpec.pre6 enc Tryz.prog Tryz.f4 Rows.primsAnyRow.domain false) (Rows.primsAnySpec.post enc Tryz.prog Tryz.f4 false true false false) := by
  refine returnsInHanded_of_change (C := Tryz.checked) own started (by kernel_rfl) Tryz.func4
    (ChangeSpec.witness6 (enc := enc) (C := Tryz.checked) false ⟨#[], #[thV 0 0 ⟨#[]⟩, thV 0 0 ⟨#[]⟩], []⟩ 8 (by kernel_rfl) (by kernel_rfl) (by kernel_rfl) (by kernel_rfl)) ?_
  intro W base args ds gs before hval0 hW _ _
  have hval : ∀ (j : Nat) t v, Tryz.f4.params[j]? = some t → args[j]? = some v → Value.okWide Tryz.prog W .any base t v := hval0
  have hW' := hW
  obtain ⟨p, q, hA0, hV, rfl, _, _⟩ := hW
  have hA : DataW.TrodAll enc Tryz.prog W 0 (fun _ => true) true Tryz.f4.params.toList args.toList ds p := hA0
  rw [Tryz.params4] at hA hval
  obtain ⟨v0, v1, d0, d1, p0, p1, rfl, rfl, rfl, h0, h1⟩ := trodAll_two hA
  obtain ⟨rfl, rfl⟩ := trodVars_none hV
  obtain ⟨a0, b0, s0, rfl, rfl, rfl, u0, w0, z0⟩ := open_th (hval 0 23 v0 rfl rfl) h0
  obtain ⟨a1, b1, s1, rfl, rfl, rfl, u1, w1, z1⟩ := open_th (hval 1 23 v1 rfl rfl) h1
  clear hA0 hval0
  refine (calls2 Tryz.func4 (by kernel_rfl) (by kernel_rfl) Ev.any_sem w0 w1 W).mono fun e W' ⟨he, hg⟩ => ?_
  subst he
  exact ⟨_, rfl, _, _, _, [], [], [], hW', trodAll_mk1 (shut_bool Tryz.underlying4 _), trodAll_mk2 (shut_th u0 w0 z0) (shut_th u1 w1 z1), rfl, hg _, fun h => by cases h⟩

theorem primsAny_holds : Rows.PrimsAnySaid :=
  OpenClaim.holds_of_wide 4 Tryz.f4 rfl rfl rfl rfl rfl rfl rfl ⟨rfl, rfl, rfl, rfl, rfl⟩ rfl rfl rfl rfl rfl (by kernel_rfl) Tryz.func4 (by kernel_rfl)
    (of_decide_eq_true (by kernel_rfl)) (by unfold Func.isWrapper; first | (rw [if_pos (by decide +kernel)]; kernel_rfl) | (rw [if_neg (by decide +kernel)]; exact ⟨rfl, rfl⟩))
    (fun os started H enc _ => lifted os started H enc)
end Go.Proofs.YtceplogmemkblaaGreat
