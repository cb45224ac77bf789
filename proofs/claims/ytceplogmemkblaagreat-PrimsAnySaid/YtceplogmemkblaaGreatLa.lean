/-
  PrimsAny: what its code comes to.
-/
import Derived.Test.YtceplogmemkblaaGreatKc
namespace Go.Ev
open Go.Proofs
set_option maxRecDepth 100000
attribute [local irreducible] zAV
set_option maxHeartbeats 4000000
noncomputable def anyR : ACode := match b4 with | .seq _ (.seq _ r) => r | _ => .skip
theorem any_sem (k1 n1 k2 n2 : Int) (l1 b1 l2 b2 : Nat) (hn1 : gI n1) (hn2 : gI n2) :
    ∃ h', CSem Tryz.prog 4 (.cons (thing k1 n1 l1 b1) (.cons (thing k2 n2 l2 b2) .nil)) ⟨.nil, 0⟩ (.b true) h' := by
  obtain ⟨W1, r1, W2, r2, m1, m2, _, _⟩ := mades2 k1 n1 k2 n2 l1 b1 l2 b2 hn1 hn2
  have s1 : SemC Tryz.prog (.ops (.cons .no (.ye x2) (.W (.bx (.t x0))) (.cons .no (.ye x3) (.W (.bx (.t x1))) (.p x4 (.mv (.c (.b false))) .nil)))) ((env0.set x0 (thing k1 n1 l1 b1)).set x1 (thing k2 n2 l2 b2)) ⟨.nil, 0⟩ .n ((env0.set x2 (.pt 0 0)).set x3 (.pt 1 0))
      (hA2 (tblk k1 n1 l1 b1) (tblk k2 n2 l2 b2)) := semC_d mix fun M _ K hK => by
    repeat' (conv => arg 1; whnf
             first | refine good_cellA ?_ | refine good_force ?_ | refine good_uo (by first | decide | omega) ?_ | refine good_ua (by omega) ?_)
    exact hK _ (drop1 rfl (drop1 rfl (drop0 _)))
  have s2 : SemC Tryz.prog (.ops (.s x13 12 [] (.m x5 x13 .nil))) ((env0.set x2 (.pt 0 0)).set x3 (.pt 1 0)) (hA2 (tblk k1 n1 l1 b1) (tblk k2 n2 l2 b2)) .n (((env0.set x2 (.pt 0 0)).set x3 (.pt 1 0)).set x5 (.pt 8 0))
      (behind (hA2 (tblk k1 n1 l1 b1) (tblk k2 n2 l2 b2)) (hK0 W0)) := semC_d mix fun M _ K hK => by
    repeat' (conv => arg 1; whnf
             first | refine good_call (world_into (h1 := hA2 (tblk k1 n1 l1 b1) (tblk k2 n2 l2 b2)) (Nat.le_of_ble_eq_true rfl)) ?_)
    exact hK _ (drop1 rfl (drop1 rfl (drop1 rfl (drop0 _))))
  have s3 : SemC Tryz.prog anyR (((env0.set x2 (.pt 0 0)).set x3 (.pt 1 0)).set x5 (.pt 8 0)) (behind (hA2 (tblk k1 n1 l1 b1) (tblk k2 n2 l2 b2)) (hK0 W0)) .r _ _ :=
    law_rest (m := 2) (j := x4) (t := tA2 (tblk k1 n1 l1 b1) (tblk k2 n2 l2 b2)) (ec := ((env0.set x2 (.pt 8 0)).set x3 (.pt 9 0)).set x5 (.pt 6 0)) rfl (by decide) (lo_2 _ _) (hiA2 _ _) (th2 k1 n1 k2 n2 l1 b1 l2 b2)
    (vle_set (.inr ⟨rfl, rfl⟩) (vle_set (.inr ⟨rfl, rfl⟩) (vle_set (.inr ⟨rfl, rfl⟩) vle_0)))
    fun M _ K hK => by
      repeat' (conv => arg 1; whnf
               first | refine good23 ok0 (by decide) ?_ | refine good14 m1 inv0 (by decide) ?_ | refine good14 m2 m1.I (by decide) ?_ | refine good23 m2.g.ok (by decide) ?_ | refine good_into mix c16 ?_ | refine good_into mix c39 ?_ | refine good_into mix c54 ?_ | (refine good24 m2.g.ok (by decide) ?_ ?_ <;> intro _) | (refine good52a m2.g.ok (by decide) (same8 (nx := 0)) rfl rfl rfl rfl ?_ ?_ <;> intro _) | refine good52nil ?_ | refine good_into mix c56 ?_ | refine good25 m2.g.ok (by decide) ?_ | refine good13 ?_ | refine good_into mix c17 ?_ | refine good_into mix c95 ?_ | exact hK _ _ rfl | (refine bin_eql ?_ ?_ <;> intro _ <;> try (exfalso; omega)) | (refine bin_neq ?_ ?_ <;> intro _ <;> try (exfalso; omega)) | refine good_go rfl ?_ | refine good_ga rfl ?_ | refine good_idx' ?_ | refine good_f01 ?_ | refine good_f0 ?_ | refine good_cellZ ?_ | refine good_cell1 rfl ?_ | refine good_cellA ?_ | refine good_force ?_ | refine good_uo (by first | decide | omega) ?_ | refine good_ua (by omega) ?_)
      all_goals (exfalso; simp_all)
  have hb : SemC Tryz.prog b4 ((env0.set x0 (thing k1 n1 l1 b1)).set x1 (thing k2 n2 l2 b2)) ⟨.nil, 0⟩ .r _ _ := SemC.seq s1 (SemC.seq s2 s3)
  exact ⟨_, csem_of c4 hb (.inr rfl) (fun k => by kernel_rfl) (fun k => by kernel_rfl)⟩
end Go.Ev
