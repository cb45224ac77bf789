/-
  Strings, numbers, Arrays, symbols: how they are made.
-/
import Derived.Test.YtceplogmemkblaaGreatKa
import Derived.Test.YtceplogmemkblaaGreatEvY
namespace Go.Ev
open Go.Proofs
set_option maxRecDepth 100000
attribute [local irreducible] zAV

section
variable {M : Mac} [hM : IsM Tryz.prog M] {W W' : Wd} {z i v c f : Int} {k : AV → H → Res} {x y : AV} {f1 f2 f3 f4 f5 f6 f7 : PT AO} {nx n : Nat} {t : PT AO}

/-- A world whose known classes are objects. -/
structure Std (W : Wd) : Prop where
  ok : W.ok
  k : ∀ i, 0 ≤ i → i < 16 → W.isO (W.kn i)
theorem Grow.kn (g : Grow W W') (i : Int) : W'.kn i = W.kn i := by
  unfold Wd.kn
  by_cases h : 0 ≤ i ∧ i < 16
  · rw [if_pos h, if_pos h, g.rt _ (by omega)]
  · rw [if_neg h, if_neg h]
theorem Std.grow (s : Std W) (g : Grow W W') : Std W' := ⟨g.ok, fun i h0 h1 => by rw [g.kn]; exact g.isO (s.k i h0 h1)⟩
theorem kn_B (hW : W.ok) (i : Int) : wordB (W.kn i) := by
  unfold Wd.kn wordB
  split
  · exact (hW.r _).2
  · omega
theorem bw83 (n b : Nat) : bd 8 (.cons (.pt 6 0) (.cons (.s n b) .nil)) = true := rfl

theorem good83 (s : Std W) (hx : 8 ≤ nx) [hx' : IsZ x c] (hc : W.isO c) (hcb : wordB c) {b : Nat} (hn : n ≤ 256) (hrm : W.room n) (hk : (k (pr (2 * W.en) 0) (hK (W.mkB c n b) f1 f2 f3 f4 f5 f6 f7 nx)).good) :
    (M.ck 83 (.cons (.pt 6 0) (.cons x (.cons (.s n b) .nil))) (hK W f1 f2 f3 f4 f5 f6 f7 nx) k).good := by
  obtain rfl := hx'.eq
  exact good_onK (cs83 s.ok (.inr hc) hcb n b hn hrm).2 s.ok (bd83 c n b) hx hk

/-! A string. -/
theorem cs43 (s : Std W) (n b : Nat) (hn : n ≤ 250) (hrm : W.room n) : CSem Tryz.prog 43 (.cons (.pt 6 0) (.cons (.s n b) .nil)) (hK0 W) (pr (2 * W.en) 0) (hK0 (W.mkB (W.kn 10) n b)) := by
  have hok := (cs83 s.ok (.inr (s.k 10 (by decide) (by decide))) (kn_B s.ok 10) n b (by omega) hrm).1
  refine csem_u mix c43 fun M _ K hK => ?_
  repeat' (conv => arg 1; whnf
           first | refine good30 s.ok (by decide) ?_ | refine good83 s (by decide) (s.k 10 (by decide) (by decide)) (kn_B s.ok 10) (by omega) hrm ?_ | (refine bin_gtr ?_ ?_ <;> intro _ <;> try (exfalso; omega)))
  exact endK hK hok same8 (pr_eq rfl rfl) (bd_pr _ _ _)

/-! A number. -/
theorem cs42e (hW : W.ok) (z : Int) (h : z < -1152921504606846976 ∨ 1152921504606846976 < z) : CSem Tryz.prog 42 (.cons (.pt 6 0) (.cons (zAV z) .nil)) (hK0 W) (pr 0 2) (hK0 W) := by
  refine csem_u mix c42 fun M _ K hK => ?_
  repeat' (conv => arg 1; whnf
           first | (refine bin_lss ?_ ?_ <;> intro _ <;> try (exfalso; omega)) | (refine bin_gtr ?_ ?_ <;> intro _ <;> try (exfalso; omega)))
  all_goals exact endK hK hW same8 (pr_eq rfl rfl) (bd_pr _ _ _)
theorem cs42s (hW : W.ok) (z : Int) (h : -1073741824 ≤ z ∧ z ≤ 1073741823) : CSem Tryz.prog 42 (.cons (.pt 6 0) (.cons (zAV z) .nil)) (hK0 W) (pr (2 * z + 1) 0) (hK0 W) := by
  refine csem_u mix c42 fun M _ K hK => ?_
  repeat' (conv => arg 1; whnf
           first | (refine good81 ?_ ?_ <;> intros <;> try (exfalso; omega)) | (refine bin_lss ?_ ?_ <;> intro _ <;> try (exfalso; omega)) | (refine bin_gtr ?_ ?_ <;> intro _ <;> try (exfalso; omega)))
  exact endK hK hW same8 (pr_eq rfl rfl) (bd_pr _ _ _)
theorem lo_lit {v : AO} (h : lo W t) (hx : 8 ≤ nx) (hx2 : nx ≤ 100000) : lo W (PT.updF t nx (some v)) := fun b hb => by
  rw [PT.upd_get _ _ (by omega), if_neg (by omega)]; exact h b hb
theorem upd_at {v : AO} (hx2 : nx ≤ 100000) : (PT.updF t nx (some v)).get nx = some v := by rw [PT.upd_get _ _ (by omega), if_pos rfl]
theorem cs42l (s : Std W) (z : Int) (h0 : -1152921504606846976 ≤ z ∧ z ≤ 1152921504606846976) (h : z < -1073741824 ∨ 1073741823 < z) (hrm : W.room 1) : CSem Tryz.prog 42 (.cons (.pt 6 0) (.cons (zAV z) .nil)) (hK0 W) (pr (2 * W.en) 0) (hK0 (W.mkL (W.kn 8) 1 (fun _ => z) 1)) := by
  have hcl := s.k 8 (by decide) (by decide)
  have hL : ∀ i, i < 1 → ((PT.updF .nil 0 (some (zAV z))).get i).getD .u = zAV z ∧ wordB z := fun i hi => by
    rw [PT.upd_get _ _ (by decide), if_pos (by omega)]; exact ⟨rfl, by unfold wordB; omega⟩
  have hlo : lo W (hK0 W).t := fun _ _ => rfl
  refine csem_u mix c42 fun M _ K hK => ?_
  repeat' (conv => arg 1; whnf
           first | (refine good81 ?_ ?_ <;> intros <;> try (exfalso; omega)) | refine good30 s.ok (by decide) ?_ | refine good82 (L := fun _ => z) s.ok (lo_lit hlo (by decide) (by decide)) (by decide) (by decide) (Nat.le_refl _) (by decide) (upd_at (by decide)) hL (.inr hcl) (kn_B s.ok 8) (by decide) hrm fun t2 q1 q2 _ => ?_ | (refine bin_lss ?_ ?_ <;> intro _ <;> try (exfalso; omega)) | (refine bin_gtr ?_ ?_ <;> intro _ <;> try (exfalso; omega)) | refine good_cellZ ?_ | refine good_force ?_ | refine good_uo (by first | decide | omega) ?_ | refine good_ua (by omega) ?_)
  all_goals exact endK hK q2 q1 (pr_eq rfl rfl) (bd_pr _ _ _)

/-! An item of a list. -/
def two (a b : Int) (i : Nat) : Int := if i = 0 then a else b
theorem cs73 (s : Std W) (a b : Int) (ha : wordB a) (hb : wordB b) (hrm : W.room 2) : CSem Tryz.prog 73 (.cons (.pt 6 0) (.cons (zAV a) (.cons (zAV b) .nil))) (hK0 W) (pr (2 * W.en) 0) (hK0 (W.mkL (W.kn 9) 0 (two a b) 2)) := by
  have hcl := s.k 9 (by decide) (by decide)
  have hL : ∀ i, i < 2 → ((PT.updF (PT.updF .nil 0 (some (zAV a))) 1 (some (zAV b))).get i).getD .u = zAV (two a b i) ∧ wordB (two a b i) := fun i hi => by
    rw [PT.upd_get _ _ (by decide), PT.upd_get _ _ (by decide)]
    rcases (by omega : i = 0 ∨ i = 1) with rfl | rfl
    · exact ⟨rfl, ha⟩
    · exact ⟨rfl, hb⟩
  have hlo : lo W (hK0 W).t := fun _ _ => rfl
  refine csem_u mix c73 fun M _ K hK => ?_
  repeat' (conv => arg 1; whnf
           first | refine good30 s.ok (by decide) ?_ | refine good82 (L := two a b) s.ok (lo_lit hlo (by decide) (by decide)) (by decide) (by decide) (Nat.le_refl _) (by decide) (upd_at (by decide)) hL (.inr hcl) (kn_B s.ok 9) (by decide) hrm fun t2 q1 q2 _ => ?_ | refine good_cellZ ?_ | refine good_force ?_ | refine good_uo (by first | decide | omega) ?_ | refine good_ua (by omega) ?_)
  all_goals exact endK hK q2 q1 (pr_eq rfl rfl) (bd_pr _ _ _)
end
end Go.Ev
namespace Go.Ev
open Go.Proofs
set_option maxRecDepth 100000
attribute [local irreducible] zAV

section
variable {M : Mac} [hM : IsM Tryz.prog M] {W W' : Wd} {z i v c f : Int} {k : AV → H → Res} {x y : AV} {f1 f2 f3 f4 f5 f6 f7 : PT AO} {nx n b : Nat} {t : PT AO} {S : List (Nat × Nat × Nat × Nat)}

theorem bd_syB (m : Nat) (w : AV) (hu : bd m w = true) : ∀ S, bd m (syB S w) = true
  | [] => hu
  | (l, b, v, c) :: r => by
    show ((true && (true && (true && true))) && bd m (syB r w)) = true
    rw [bd_syB m w hu r]; rfl
/-- The symbol of a text is what is found, or it is made. -/
noncomputable def Wd.mkS (W : Wd) (S : List (Nat × Nat × Nat × Nat)) (n b : Nat) : Wd :=
  let W1 := W.mkB (W.kn 11) n b
  let W2 := W1.mkL (W1.kn 9) 0 (two (2 * W.en) (W1.ro 0)) 2
  { W2 with rt := PT.updF W2.rt 0 (some (zAV (2 * W1.en))), sy := syA (S ++ [(n, b, 2 * W.en, W.sc)]), sc := W.sc + 1 }
theorem bw44 (n b : Nat) : bd 8 (.cons (.pt 6 0) (.cons (.s n b) .nil)) = true := rfl
theorem cs44e (hW : W.ok) (h : n < 1 ∨ 60 < n) : CSem Tryz.prog 44 (.cons (.pt 6 0) (.cons (.s n b) .nil)) (hK0 W) (pr 0 1) (hK0 W) := by
  refine csem_u mix c44 fun M _ K hK => ?_
  repeat' (conv => arg 1; whnf
           first | (refine bin_lss ?_ ?_ <;> intro _ <;> try (exfalso; omega)) | (refine bin_gtr ?_ ?_ <;> intro _ <;> try (exfalso; omega)))
  all_goals exact endK hK hW same8 (pr_eq rfl rfl) (bd_pr _ _ _)
theorem cs44h (hW : W.ok) (hS : W.sy = syA S) (h0 : 1 ≤ n) (h1 : n ≤ 60) {v c : Nat} (hf : sfind n b S = some (v, c)) (hv : v ≠ 0) : CSem Tryz.prog 44 (.cons (.pt 6 0) (.cons (.s n b) .nil)) (hK0 W) (pr v 0) (hK0 W) := by
  have hr : (hK0 W).t.get 4 = some (.sm (syA S) W.sc) := by rw [← hS]; rfl
  refine csem_u mix c44 fun M _ K hK => ?_
  repeat' (conv => arg 1; whnf
           first | refine good_go hr ?_ | refine good_smH hf ?_ | (refine bin_neq ?_ ?_ <;> intro _ <;> try (exfalso; omega)) | (refine bin_lss ?_ ?_ <;> intro _ <;> try (exfalso; omega)) | (refine bin_gtr ?_ ?_ <;> intro _ <;> try (exfalso; omega)) | refine good_go rfl ?_ | refine good_ga rfl ?_ | refine good_f0 ?_)
  exact endK hK hW same8 (pr_eq rfl rfl) (bd_pr _ _ _)

/-! A symbol that there was not. -/
/-- The pieces of a symbol's making. -/
structure SymStep (W : Wd) (n b : Nat) (W1 W2 : Wd) : Prop where
  m1 : Made W W1 (2 * W.en) (W.kn 11) 2 (fun i => byteAt b i) n
  s1 : Std W1
  m2 : Made W1 W2 (2 * W1.en) (W1.kn 9) 0 (two (2 * W.en) (W1.ro 0)) 2
  sy : W2.sy = W.sy ∧ W2.sc = W.sc ∧ W1.sy = W.sy ∧ W1.sc = W.sc
theorem mkL_sy (hW : W.ok) (hcb : wordB c) (hf : 0 ≤ f ∧ f ≤ 2) (hn : n ≤ 256) (hr : W.room n) {L : Nat → Int} (hL : ∀ i, wordB (L i)) : (W.mkL c f L n).sy = W.sy ∧ (W.mkL c f L n).sc = W.sc ∧ (W.mkL c f L n).rt = W.rt := by
  have hp := putL_R (z := 2 * W.en) hL n 0 (W.mk' c f n) (mk_ok hW hcb hf hn hr.1 hr.2)
  exact ⟨hp.rest.2.2.2.2.1, hp.rest.2.2.2.2.2.1, hp.rest.2.2.2.2.2.2.1⟩
theorem byteB (b i : Nat) : wordB ((byteAt b i : Nat) : Int) := by
  have := byteAt_lt b i; unfold wordB; omega
theorem mkB_made (s : Std W) (i : Int) (hn : n ≤ 256) (hr : W.room n) : Made W (W.mkB (W.kn i) n b) (2 * W.en) (W.kn i) 2 (fun i => byteAt b i) n :=
  mkL_made s.ok (kn_B s.ok i) (by decide) hn hr (fun i => byteB b i) fun i _ => ⟨fun h => absurd h (by decide), fun _ => by have := byteAt_lt b i; omega⟩
theorem two_B (hW : W.ok) {a : Int} (ha : wordB a) (i : Nat) : wordB (two a (W.ro 0) i) := by
  unfold two; split
  · exact ha
  · exact (hW.r 0).2
/-- The head of the list of symbols is a word that may stand. -/
theorem sym_step (s : Std W) (hn : n ≤ 60) (hr : W.en + n + 20 ≤ W.sz ∧ W.md + 2 < 1000000) (hro : W.may (W.ro 0)) : SymStep W n b (W.mkB (W.kn 11) n b) ((W.mkB (W.kn 11) n b).mkL ((W.mkB (W.kn 11) n b).kn 9) 0 (two (2 * W.en) ((W.mkB (W.kn 11) n b).ro 0)) 2) := by
  have r1 : W.room n := ⟨by omega, by omega⟩
  have m1 := mkB_made (b := b) s 11 (by omega) r1
  have s1 := s.grow m1.g
  have he := s.ok.e
  have r2 : (W.mkB (W.kn 11) n b).room 2 := ⟨by rw [m1.en, m1.g.sz]; omega, by rw [m1.md]; omega⟩
  have hB : wordB (2 * (W.en : Int)) := by unfold wordB; omega
  have y1 := mkL_sy (f := 2) s.ok (kn_B s.ok 11) (by decide) (show n ≤ 256 by omega) r1 (fun i => byteB b i)
  have hro' : (W.mkB (W.kn 11) n b).ro 0 = W.ro 0 := by unfold Wd.ro; rw [show (W.mkB (W.kn 11) n b).rt = W.rt from y1.2.2]
  have m2 := mkL_made (f := 0) (L := two (2 * W.en) ((W.mkB (W.kn 11) n b).ro 0)) s1.ok (kn_B s1.ok 9) (by decide) (show 2 ≤ 256 by decide) r2 (two_B s1.ok hB) fun i hi => ⟨fun _ => by
    have hg : Grow (W.mkB (W.kn 11) n b) ((W.mkB (W.kn 11) n b).mk' ((W.mkB (W.kn 11) n b).kn 9) 0 2) := mk_grow s1.ok (kn_B s1.ok 9) (by decide) (by decide) r2.1 r2.2
    unfold two
    split
    · exact hg.may (.inr (.inr (.inr (.inr m1.isO))))
    · rw [hro']; exact hg.may (m1.g.may hro), fun h => absurd h (by decide)⟩
  have y2 := mkL_sy (f := 0) (L := two (2 * W.en) ((W.mkB (W.kn 11) n b).ro 0)) s1.ok (kn_B s1.ok 9) (by decide) (show 2 ≤ 256 by decide) r2 (two_B s1.ok hB)
  exact ⟨m1, s1, m2, y2.1.trans y1.1, y2.2.1.trans y1.2.1, y1.1, y1.2.1⟩
theorem mkS_ro (W : Wd) (S : List (Nat × Nat × Nat × Nat)) (n b j : Nat) : (W.mkS S n b).ro j = if j = 0 then 2 * ((W.mkB (W.kn 11) n b).en : Int) else ((W.mkB (W.kn 11) n b).mkL ((W.mkB (W.kn 11) n b).kn 9) 0 (two (2 * W.en) ((W.mkB (W.kn 11) n b).ro 0)) 2).ro j := by
  show valZ (((PT.updF _ 0 (some (zAV _))).get j).getD (.p 0)) = _
  rw [PT.upd_get _ _ (by decide)]
  by_cases h : j = 0
  · rw [if_pos h, if_pos h]; exact valZ_z _
  · rw [if_neg h, if_neg h]; rfl
theorem mkS_ok {W1 W2 : Wd} (q : SymStep W n b W1 W2) (h1 : W1 = W.mkB (W.kn 11) n b) (h2 : W2 = W1.mkL (W1.kn 9) 0 (two (2 * W.en) (W1.ro 0)) 2) : (W.mkS S n b).ok ∧ Grow W (W.mkS S n b) := by
  subst h1; subst h2
  have ok2 := q.m2.g.ok
  have g2 := q.m1.g.trans q.m2.g
  have e1 := q.s1.ok.e
  have hok : (W.mkS S n b).ok := by
    refine { ok2 with r := fun j => ?_, s := bd_syB 8 .nil rfl _ }
    rw [mkS_ro]
    by_cases h : j = 0
    · rw [if_pos h]
      refine ⟨?_, by omega, by omega⟩
      show ((PT.updF _ 0 (some (zAV _))).get j).getD (.p 0) = _
      rw [PT.upd_get _ _ (by decide), if_pos h]; rfl
    · rw [if_neg h]
      refine ⟨?_, (ok2.r j).2⟩
      show ((PT.updF _ 0 (some (zAV _))).get j).getD (.p 0) = _
      rw [PT.upd_get _ _ (by decide), if_neg h]; exact (ok2.r j).1
  exact ⟨hok, hok, g2.has, g2.new, g2.wd, g2.en, g2.sz, fun j hj => by rw [mkS_ro, if_neg (by omega)]; exact g2.rt j hj, g2.cl, g2.md⟩
theorem good73 (s : Std W) (hx : 8 ≤ nx) {a d : Int} [hx' : IsZ x a] [hy' : IsZ y d] (ha : wordB a) (hd : wordB d) (hrm : W.room 2) (hk : (k (pr (2 * W.en) 0) (hK (W.mkL (W.kn 9) 0 (two a d) 2) f1 f2 f3 f4 f5 f6 f7 nx)).good) :
    (M.ck 73 (.cons (.pt 6 0) (.cons x (.cons y .nil))) (hK W f1 f2 f3 f4 f5 f6 f7 nx) k).good := by
  obtain rfl := hx'.eq; obtain rfl := hy'.eq
  exact good_onK (cs73 s a d ha hd hrm) s.ok (bw3 a d) hx hk
theorem cs44m (s : Std W) (hS : W.sy = syA S) (hc : ∀ e ∈ S, e.2.2.2 < W.sc) (h0 : 1 ≤ n) (h1 : n ≤ 60) (hr : W.en + n + 20 ≤ W.sz ∧ W.md + 2 < 1000000) (hro : W.may (W.ro 0)) (hf : sfind n b S = none) :
    CSem Tryz.prog 44 (.cons (.pt 6 0) (.cons (.s n b) .nil)) (hK0 W) (pr (2 * W.en) 0) (hK0 (W.mkS S n b)) := by
  have q := sym_step (b := b) s h1 hr hro
  have hr4 : (hK0 W).t.get 4 = some (.sm (syA S) W.sc) := by rw [← hS]; rfl
  have hok := (mkS_ok (S := S) q rfl rfl).1
  have he := s.ok.e
  have hen := q.m1.en
  have hsz := q.m1.g.sz
  have hmd := q.m1.md
  have zz : zAV (2 * (W.en : Int)) = .p (2 * W.en) := (p_zAV (by omega)).symm
  refine csem_u mix c44 fun M _ K hK => ?_
  repeat' (conv => arg 1; whnf
           first | refine good_go hr4 ?_ | refine good_smM hf ?_ | refine good_onK (cs84 s.ok) s.ok rfl (by decide) ?_ | refine good30 s.ok (by decide) ?_ | refine good83 s (by decide) (s.k 11 (by decide) (by decide)) (kn_B s.ok 11) (by omega) ⟨by omega, by omega⟩ ?_ | refine good_root q.s1.ok ?_ | refine good73 q.s1 (by decide) (by unfold wordB; omega) (q.s1.ok.r 0).2 ⟨by omega, by omega⟩ ?_ | refine good_mes (S := S) (c := W.sc) (fun _ => rfl) (fun _ => rfl) (by rw [PT.upd_get _ _ (by decide), if_neg (by decide)]; show some (AO.sm _ _) = _; rw [q.sy.1, q.sy.2.1, hS]) hf (by decide) ?_ | refine good_ess (S := S) (a := .p 0) (c := W.sc) (n := n) (b := b) (v := .p (2 * W.en)) (fun _ => rfl) (fun _ => rfl) (fun k => congrArg k zz) (by rw [PT.upd_get _ _ (by decide), if_pos rfl]) hc (by decide) ?_ | (refine bin_neq ?_ ?_ <;> intro _ <;> try (exfalso; omega)) | (refine bin_lss ?_ ?_ <;> intro _ <;> try (exfalso; omega)) | (refine bin_gtr ?_ ?_ <;> intro _ <;> try (exfalso; omega)) | refine bin_add (by omega) (by omega) ?_ | refine good_go rfl ?_ | refine good_ga rfl ?_ | refine good_idx' ?_ | refine good_f01 ?_ | refine good_f0 ?_ | refine good_cellZ ?_ | refine good_force ?_ | refine good_uo (by first | decide | omega) ?_ | refine good_ua (by omega) ?_)
  refine endK hK hok (all8 (by kernel_rfl) (by kernel_rfl) (by kernel_rfl) (by kernel_rfl) ?_ (by kernel_rfl) (by kernel_rfl) (by kernel_rfl)) (pr_eq rfl rfl) (bd_pr _ _ _)
  show some (AO.sm (syB S (.cons (ent n b (.p (2 * W.en)) W.sc) .nil)) (W.sc + 1)) = _
  rw [syB_app]; rfl
end
end Go.Ev
namespace Go.Ev
open Go.Proofs
set_option maxRecDepth 100000
attribute [local irreducible] zAV

section
variable {M : Mac} [hM : IsM Tryz.prog M] {W W' : Wd} {z i v c f : Int} {k : AV → H → Res} {x y C : AV} {f1 f2 f3 f4 f5 f6 f7 : PT AO} {nx n q m cap st F : Nat} {t : PT AO} {L : Nat → Int} {df : AV} {lt : PT AV}

noncomputable def eI (F : Nat) (C : AV) (n i q cap st : Nat) : Env := (((env0.set x0 (.sl q 0 n cap st)).set x1 (.fn F .nil (.cons C .nil))).set x7 (.p n)).set x8 (zAV (i : Int))
noncomputable def eIr (i : Nat) : Env := env0.set x4 (zAV (i : Int))
theorem idx_step (hn : n ≤ 1000) (i : Nat) (hi : i < n) (hm : n ≤ m) (hr : t.get q = some (.row m lt df)) (hL : (lt.get i).getD df = zAV (L i)) (hF : CSem Tryz.prog F (.cons (zAV (L i)) (.cons C .nil)) ⟨t, nx⟩ (.b false) ⟨t, nx⟩) :
    SemC Tryz.prog b89_19 (eI F C n i q cap st) ⟨t, nx⟩ .n (eI F C n (i + 1) q cap st) ⟨t, nx⟩ := semC_d mix fun M _ K hK => by
  repeat' (conv => arg 1; whnf
           first | refine good_go hr ?_ | refine good_cellG hL ?_ | refine good_call hF ?_ | (refine bin_lss ?_ ?_ <;> intro _ <;> try (exfalso; omega)) | refine bin_add (by omega) (by omega) ?_ | refine good_idx (by omega) ?_ | refine good_f01 ?_ | refine good_lt (by omega) ?_)
  exact hK _ (drop1 (z_zAV (by omega)) (drop1 rfl (drop1 rfl (drop1 rfl (drop0 _)))))
theorem idx_out (i : Nat) (hi : n ≤ i) : SemC Tryz.prog b89_19 (eI F C n i q cap st) ⟨t, nx⟩ (.x 0) (eI F C n i q cap st) ⟨t, nx⟩ := semC_d mix fun M _ K hK => by
  repeat' (conv => arg 1; whnf
           first | (refine bin_lss ?_ ?_ <;> intro _ <;> try (exfalso; omega)))
  exact hK _ (drop1 rfl (drop1 rfl (drop1 rfl (drop1 rfl (drop0 _)))))
theorem idx_hit (i : Nat) (hi : i < n) (_ : n ≤ 1000) (hm : n ≤ m) (hr : t.get q = some (.row m lt df)) (hL : (lt.get i).getD df = zAV (L i)) (hF : CSem Tryz.prog F (.cons (zAV (L i)) (.cons C .nil)) ⟨t, nx⟩ (.b true) ⟨t, nx⟩) :
    SemC Tryz.prog b89_19 (eI F C n i q cap st) ⟨t, nx⟩ .r (eIr i) ⟨t, nx⟩ := semC_d mix fun M _ K hK => by
  repeat' (conv => arg 1; whnf
           first | refine good_go hr ?_ | refine good_cellG hL ?_ | refine good_call hF ?_ | (refine bin_lss ?_ ?_ <;> intro _ <;> try (exfalso; omega)) | refine good_idx (by omega) ?_ | refine good_f01 ?_ | refine good_lt (by omega) ?_)
  exact hK _ (drop1 rfl (drop0 _))
theorem idx_none (hn : n ≤ 1000) (hm : n ≤ m) (hr : t.get q = some (.row m lt df)) (hL : ∀ i, i < n → (lt.get i).getD df = zAV (L i)) (hF : ∀ i, i < n → CSem Tryz.prog F (.cons (zAV (L i)) (.cons C .nil)) ⟨t, nx⟩ (.b false) ⟨t, nx⟩) :
    ∀ d i, i + d = n → SemL Tryz.prog b89_19 (eI F C n i q cap st) ⟨t, nx⟩ (.x 0) (eI F C n n q cap st) ⟨t, nx⟩
  | 0, i, h => by obtain rfl : i = n := by omega
                  exact SemL.exit (by simp) (idx_out _ (Nat.le_refl _))
  | d + 1, i, h => SemL.step (idx_step hn i (by omega) hm hr (hL i (by omega)) (hF i (by omega))) (idx_none hn hm hr hL hF d (i + 1) (by omega))
theorem idx_some (hn : n ≤ 1000) (hm : n ≤ m) (hr : t.get q = some (.row m lt df)) (hL : ∀ i, i < n → (lt.get i).getD df = zAV (L i)) (j : Nat) (hj : j < n) (hF : ∀ i, i < j → CSem Tryz.prog F (.cons (zAV (L i)) (.cons C .nil)) ⟨t, nx⟩ (.b false) ⟨t, nx⟩)
    (hT : CSem Tryz.prog F (.cons (zAV (L j)) (.cons C .nil)) ⟨t, nx⟩ (.b true) ⟨t, nx⟩) : ∀ d i, i + d = j → SemL Tryz.prog b89_19 (eI F C n i q cap st) ⟨t, nx⟩ .r (eIr j) ⟨t, nx⟩
  | 0, i, h => by obtain rfl : i = j := by omega
                  exact SemL.exit (by simp) (idx_hit _ hj hn hm hr (hL _ hj) hT)
  | d + 1, i, h => SemL.step (idx_step hn i (by omega) hm hr (hL i (by omega)) (hF i (by omega))) (idx_some hn hm hr hL j hj hF hT d (i + 1) (by omega))

/-- No element of a list is so. -/
theorem good52n (hn : n ≤ 1000) (hm : n ≤ m) (hr : t.get q = some (.row m lt df)) (hL : ∀ i, i < n → (lt.get i).getD df = zAV (L i)) (hF : ∀ i, i < n → CSem Tryz.prog F (.cons (zAV (L i)) (.cons C .nil)) ⟨t, nx⟩ (.b false) ⟨t, nx⟩) (hk : (k (.b false) ⟨t, nx⟩).good) :
    (M.ck 52 (.cons (.sl q 0 n cap st) (.cons (.fn F .nil (.cons C .nil)) .nil)) ⟨t, nx⟩ k).good := by
  have s := idx_none (cap := cap) (st := st) hn hm hr hL hF n 0 (by omega)
  refine good_into mix c52 ?_
  repeat' (conv => arg 1; whnf
           first | refine good_into mix c89 ?_ | refine good_loopE s (drop1 (zAV_nat 0) (drop1 rfl (drop1 rfl (drop1 rfl (drop0 _))))) ?_ | (refine bin_geq ?_ ?_ <;> intro _ <;> try (exfalso; omega)))
  all_goals exact hk
theorem good52nil (hk : (k (.b false) ⟨t, nx⟩).good) : (M.ck 52 (.cons .ns (.cons (.fn F .nil (.cons C .nil)) .nil)) ⟨t, nx⟩ k).good := by
  refine good_into mix c52 ?_
  repeat' (conv => arg 1; whnf
           first | refine good_into mix c89 ?_ | refine good_round mix ?_ | (refine bin_lss ?_ ?_ <;> intro _ <;> try (exfalso; omega)) | (refine bin_geq ?_ ?_ <;> intro _ <;> try (exfalso; omega)))
  all_goals exact hk
/-- Some element is so. -/
theorem good52y (hn : n ≤ 1000) (hm : n ≤ m) (hr : t.get q = some (.row m lt df)) (hL : ∀ i, i < n → (lt.get i).getD df = zAV (L i)) (j : Nat) (hj : j < n) (hF : ∀ i, i < j → CSem Tryz.prog F (.cons (zAV (L i)) (.cons C .nil)) ⟨t, nx⟩ (.b false) ⟨t, nx⟩)
    (hT : CSem Tryz.prog F (.cons (zAV (L j)) (.cons C .nil)) ⟨t, nx⟩ (.b true) ⟨t, nx⟩) (hk : (k (.b true) ⟨t, nx⟩).good) :
    (M.ck 52 (.cons (.sl q 0 n cap st) (.cons (.fn F .nil (.cons C .nil)) .nil)) ⟨t, nx⟩ k).good := by
  have s := idx_some (cap := cap) (st := st) hn hm hr hL j hj hF hT j 0 (by omega)
  refine good_into mix c52 ?_
  repeat' (conv => arg 1; whnf
           first | refine good_into mix c89 ?_ | refine good_loopE s (drop1 (zAV_nat 0) (drop1 rfl (drop1 rfl (drop1 rfl (drop0 _))))) ?_ | (refine bin_geq ?_ ?_ <;> intro _ <;> try (exfalso; omega)))
  all_goals exact hk
end
end Go.Ev
namespace Go.Ev
open Go.Proofs
set_option maxRecDepth 100000
attribute [local irreducible] zAV

section
variable {M : Mac} [hM : IsM Tryz.prog M] {W W' : Wd} {z i v c f : Int} {k : AV → H → Res} {x y : AV} {nx n q m cap st pb : Nat} {t : PT AO} {L : Nat → Int} {df : AV} {lt : PT AV}

theorem good31H (hW : W.ok) (hn : 8 ≤ nx) (hlo : lo W t) [hx : IsZ x z] (h1 : W.isO z → (k (.b true) ⟨t, nx⟩).good) (h0 : ¬ W.isO z → (k (.b false) ⟨t, nx⟩).good) : (M.ck 31 (.cons (.pt 2 0) (.cons x .nil)) ⟨t, nx⟩ k).good := by
  obtain rfl := hx.eq
  by_cases q : W.isO z
  · exact good_onH (cs31 hW z true (by simp [q])) hW (bd2 z) hn hlo (h1 q)
  · exact good_onH (cs31 hW z false (by simp [q])) hW (bd2 z) hn hlo (h0 q)
theorem good24H (hW : W.ok) (hn : 8 ≤ nx) (hlo : lo W t) [hx : IsZ x z] (h1 : W.may z → (k (.b true) ⟨t, nx⟩).good) (h0 : ¬ W.may z → (k (.b false) ⟨t, nx⟩).good) : (M.ck 24 (.cons (.pt 2 0) (.cons x .nil)) ⟨t, nx⟩ k).good := by
  obtain rfl := hx.eq
  by_cases q : W.may z
  · exact good_onH (cs24 hW z true (by simp [q])) hW (bd2 z) hn hlo (h1 q)
  · exact good_onH (cs24 hW z false (by simp [q])) hW (bd2 z) hn hlo (h0 q)
theorem good30H (hW : W.ok) (hn : 8 ≤ nx) (hlo : lo W t) [hx : IsZ x i] (h1 : (k (zAV (W.kn i)) ⟨t, nx⟩).good) : (M.ck 30 (.cons (.pt 6 0) (.cons x .nil)) ⟨t, nx⟩ k).good := by
  obtain rfl := hx.eq
  exact good_onH (cs30 hW i) hW (bw2 i) hn hlo h1

/-- Array's look at each word. -/
theorem cs85 (hW : W.ok) (hn : 8 ≤ nx) (hlo : lo W t) {tb : PT AV} (hb : t.get pb = some (.row 1 tb .u)) (h0 : tb.get 0 = some (.pt 6 0)) (v : Int) (t' : Bool) (ht : t' = !decide (W.may v)) :
    CSem Tryz.prog 85 (.cons (zAV v) (.cons (.pt pb 0) .nil)) ⟨t, nx⟩ (.b t') ⟨t, nx⟩ := by
  have hp := hlo 6 (by decide)
  refine csem_e mix c85 fun M _ K hK => ?_
  repeat' (conv => arg 1; whnf
           first | refine good_go hb ?_ | refine good_ga h0 ?_ | refine good_go hp ?_ | (refine good24H hW hn hlo ?_ ?_ <;> intro q) | refine good_ga rfl ?_ | refine good_f0 ?_)
  · rw [ht, decide_eq_true q] at hK; exact hK
  · rw [ht, decide_eq_false q] at hK; exact hK
theorem lit0 {v : AV} : (PT.updF .nil 0 (some v)).get 0 = some v := by rw [PT.upd_get _ _ (by decide), if_pos rfl]
/-- An Array of a list. -/
theorem good46 (s : Std W) (hlo : lo W t) (hx : 8 ≤ nx) (hx2 : nx ≤ 90000) (hn : n ≤ 250) (hm : n ≤ m) (hq : 8 ≤ q) (hqn : q < nx) (hr : t.get q = some (.row m lt df)) (hL : ∀ i, i < n → (lt.get i).getD df = zAV (L i) ∧ wordB (L i)) (hy : ∀ i, i < n → W.may (L i)) (hrm : W.room n)
    (hk : ∀ t', lo (W.mkL (W.kn 9) 0 L n) t' → (W.mkL (W.kn 9) 0 L n).ok → (∀ b, 8 ≤ b → b < nx → t'.get b = t.get b) → (k (pr (2 * W.en) 0) ⟨t', nx + 1⟩).good) :
    (M.ck 46 (.cons (.pt 6 0) (.cons (.sl q 0 n cap st) .nil)) ⟨t, nx⟩ k).good := by
  have hb := upd_at (t := t) (nx := nx) (v := .row 1 (PT.updF .nil 0 (some (.pt 6 0))) .u) (by omega)
  have hlo1 := lo_lit (v := .row 1 (PT.updF .nil 0 (some (.pt 6 0))) .u) hlo hx (by omega)
  have hr1 : (PT.updF t nx (some (.row 1 (PT.updF .nil 0 (some (.pt 6 0))) .u))).get q = some (.row m lt df) := by rw [PT.upd_get _ _ (by omega), if_neg (by omega)]; exact hr
  have h85 : ∀ i, i < n → CSem Tryz.prog 85 (.cons (zAV (L i)) (.cons (.pt nx 0) .nil)) ⟨PT.updF t nx (some (.row 1 (PT.updF .nil 0 (some (.pt 6 0))) .u)), nx + 1⟩ (.b false) ⟨PT.updF t nx (some (.row 1 (PT.updF .nil 0 (some (.pt 6 0))) .u)), nx + 1⟩ :=
    fun i hi => cs85 s.ok (by omega) hlo1 hb lit0 (L i) false (by rw [decide_eq_true (hy i hi)]; rfl)
  have e : AV.tu (.cons (zAV (2 * W.en)) (.cons (zAV 0) .nil)) = pr (2 * W.en) 0 := rfl
  refine good_into mix c46 ?_
  repeat' (conv => arg 1; whnf
           first | refine good_go hb ?_ | refine good_ga lit0 ?_ | refine good52n (by omega) hm hr1 (fun i hi => (hL i hi).1) h85 ?_ | refine good30H s.ok (by omega) hlo1 ?_ | refine good82 s.ok hlo1 (by omega) (by omega) hm hq hr1 hL (.inr (s.k 9 (by decide) (by decide))) (kn_B s.ok 9) (by decide) hrm fun t2 q1 q2 q3 => ?_ | (refine bin_gtr ?_ ?_ <;> intro _ <;> try (exfalso; omega)) | refine good_same ?_ | refine good_cell1 rfl ?_ | refine good_force ?_ | refine good_uo (by first | decide | omega) ?_ | refine good_ua (by omega) ?_)
  all_goals exact hk t2 q1 q2 fun b h1 h2 => by rw [q3 b h1, PT.upd_get _ _ (by omega), if_neg (by omega)]
/-- An Array of nothing. -/
theorem good46n (s : Std W) (hlo : lo W t) (hx : 8 ≤ nx) (hx2 : nx ≤ 90000) (hrm : W.room 0)
    (hk : ∀ t', lo (W.mkL (W.kn 9) 0 L 0) t' → (W.mkL (W.kn 9) 0 L 0).ok → (k (pr (2 * W.en) 0) ⟨t', nx + 1⟩).good) :
    (M.ck 46 (.cons (.pt 6 0) (.cons .ns .nil)) ⟨t, nx⟩ k).good := by
  have hb := upd_at (t := t) (nx := nx) (v := .row 1 (PT.updF .nil 0 (some (.pt 6 0))) .u) (by omega)
  have hlo1 := lo_lit (v := .row 1 (PT.updF .nil 0 (some (.pt 6 0))) .u) hlo hx (by omega)
  refine good_into mix c46 ?_
  repeat' (conv => arg 1; whnf
           first | refine good_go hb ?_ | refine good_ga lit0 ?_ | refine good52nil ?_ | refine good30H s.ok (by omega) hlo1 ?_ | refine good82n (L := L) s.ok hlo1 (by omega) (.inr (s.k 9 (by decide) (by decide))) (kn_B s.ok 9) (by decide) hrm fun t2 q1 q2 q3 => ?_ | (refine bin_gtr ?_ ?_ <;> intro _ <;> try (exfalso; omega)) | refine good_same ?_ | refine good_cell1 rfl ?_ | refine good_force ?_ | refine good_uo (by first | decide | omega) ?_ | refine good_ua (by omega) ?_)
  all_goals exact hk t2 q1 q2
end
end Go.Ev
namespace Go.Ev
open Go.Proofs
set_option maxRecDepth 100000
attribute [local irreducible] zAV

section
variable {M : Mac} [hM : IsM Tryz.prog M] {W W' : Wd} {z i v c f : Int} {k : AV → H → Res} {x y : AV} {nx n q m cap st pb : Nat} {t : PT AO} {L : Nat → Int} {df : AV} {lt : PT AV}

def odd (i : Nat) : Int := 2 * i + 1
noncomputable def eO (nn : Int) (i q : Nat) : Env := (((env0.set x0 (.pt 6 0)).set x12 (zAV nn)).set x13 (slv q i)).set x14 (zAV (i : Int))
theorem odd_round (nn : Int) (d : Nat) (hd : nn.tmod ((10 : Nat) : Int) = d) (hd10 : d < 10) (i q : Nat) (hi : i < d) (hb : nx ≤ 100000) (hq : Lst W (fun i => zAV (odd i)) t nx q i) :
    ∃ t' q', Lst W (fun i => zAV (odd i)) t' (nx + 2) q' (i + 1) ∧ SemC Tryz.prog b14_50 (eO nn i q) ⟨t, nx⟩ .n (eO nn (i + 1) q') ⟨t', nx + 2⟩ := by
  cases i with
  | zero =>
    refine ⟨_, _, hq.app0 (o := .row 1 (PT.updF .nil 0 (some (zAV (odd 0)))) .u) hb, semC_d mix fun M _ K hK => ?_⟩
    repeat' (conv => arg 1; whnf
             first | refine bin_rem (by decide) (by rw [hd]; omega) ?_ | refine bin_mul (by omega) (by omega) ?_ | refine good_app0 (L := fun i => zAV (odd i)) (lit_get (by omega)) (by rw [PT.upd_get _ _ (by omega), if_pos rfl]; rfl) (by omega) (by omega) ?_ | (refine bin_lss ?_ ?_ <;> intro _ <;> try (exfalso; omega)) | refine bin_add (by omega) (by omega) ?_ | refine good_cellZ ?_ | refine good_force ?_ | refine good_uo (by first | decide | omega) ?_ | refine good_ua (by omega) ?_)
    exact hK _ (drop1 (z_zAV (by omega)) (drop1 rfl (drop1 rfl (drop1 rfl (drop0 _)))))
  | succ i =>
    have h2 := hq.at' (by omega)
    refine ⟨_, _, hq.app (o := .row 1 (PT.updF .nil 0 (some (zAV (odd (i + 1))))) .u) hb, semC_d mix fun M _ K hK => ?_⟩
    repeat' (conv => arg 1; whnf
             first | refine bin_rem (by decide) (by rw [hd]; omega) ?_ | refine bin_mul (by omega) (by omega) ?_ | refine good_app (L := fun i => zAV (odd i)) (app_old hq hb) (lit_get (by omega)) (by rw [PT.upd_get _ _ (by omega), if_pos rfl]; rfl) (by omega) (by omega) (by omega) (by omega) ?_ | (refine bin_lss ?_ ?_ <;> intro _ <;> try (exfalso; omega)) | refine bin_add (by omega) (by omega) ?_ | refine good_cellZ ?_ | refine good_force ?_ | refine good_uo (by first | decide | omega) ?_ | refine good_ua (by omega) ?_)
    exact hK _ (drop1 (z_zAV (by omega)) (drop1 rfl (drop1 rfl (drop1 rfl (drop0 _)))))
theorem odd_loop (nn : Int) (n : Nat) (hd : nn.tmod ((10 : Nat) : Int) = n) (hn : n < 10) : ∀ (d i q nx : Nat) (t : PT AO), i + d = n → nx + 2 * d ≤ 80000 → Lst W (fun i => zAV (odd i)) t nx q i →
    ∃ t' nx' q', Lst W (fun i => zAV (odd i)) t' nx' q' n ∧ nx' ≤ nx + 2 * d ∧ SemL Tryz.prog b14_50 (eO nn i q) ⟨t, nx⟩ (.x 1) (eO nn n q') ⟨t', nx'⟩
  | 0, i, q, nx, t, hi, hb, h => by
    obtain rfl : i = n := by omega
    refine ⟨t, nx, q, h, by omega, SemL.exit (by simp) (semC_d mix fun M _ K hK => ?_)⟩
    repeat' (conv => arg 1; whnf
             first | refine bin_rem (by decide) (by rw [hd]; omega) ?_ | (refine bin_lss ?_ ?_ <;> intro _ <;> try (exfalso; omega)))
    exact hK _ (drop1 rfl (drop1 rfl (drop1 rfl (drop1 rfl (drop0 _)))))
  | d + 1, i, q, nx, t, hi, hb, h => by
    obtain ⟨t1, q1, h1, s1⟩ := odd_round nn n hd hn i q (by omega) (by omega) h
    obtain ⟨t2, nx2, q2, h2, e2, s2⟩ := odd_loop nn n hd hn d (i + 1) q1 (nx + 2) t1 (by omega) (by omega) h1
    exact ⟨t2, nx2, q2, h2, by omega, SemL.step s1 s2⟩
end
end Go.Ev
namespace Go.Ev
open Go.Proofs
set_option maxRecDepth 100000
attribute [local irreducible] zAV

section
variable {W W' : Wd} {z i v c f : Int} {n : Nat} {L : Nat → Int}

/-- The class Point. -/
def pcl : Int := 8714
/-- A symbol's object. -/
structure SymO (W : Wd) (e : Nat × Nat × Nat × Nat) : Prop where
  o : W.isO e.2.2.1
  c : W.cls e.2.2.1 = W.kn 11
  f : W.fmt e.2.2.1 = 2
  l : W.fds e.2.2.1 = e.1
  b : ∀ i : Nat, i < e.1 → W.fld e.2.2.1 i = byteAt e.2.1 i
/-- Objects of the known classes 8 to 11: what they hold. -/
structure ObF (W : Wd) (z i : Int) : Prop where
  s8 : i = 8 → W.fmt z = 1 ∧ W.fds z = 1 ∧ -1152921504606846976 ≤ W.fld z 0 ∧ W.fld z 0 ≤ 1152921504606846976
  s9 : i = 9 → W.fmt z = 0
  s10 : 10 ≤ i → W.fmt z = 2 ∧ ∀ j, 0 ≤ j → j < W.fds z → 0 ≤ W.fld z j ∧ W.fld z j ≤ 255
structure Inv (W : Wd) : Prop where
  s : Std W
  sy : ∃ S, W.sy = syA S ∧ (∀ e ∈ S, e.2.2.2 < W.sc) ∧ ∀ e ∈ S, SymO W e
  ro : W.may (W.ro 0)
  cl : ∃ bo, ∀ (k : AV → Nat → Res) z, smGetK W.cl 5 500068609872 k z = k (.p 8714) bo
  pt : W.isC pcl
  ck : ∀ z, W.isC z → 0 ≤ W.siz z ∧ W.siz z ≤ 16
  pl : ∀ z, W.isO z → W.knd (W.clsOf z) = 0 → W.cls z = pcl ∧ W.fmt z = 0 ∧ ∀ i, 0 ≤ i → i < W.fds z → W.fld z i = 0
  k1 : ∀ i, 8 ≤ i → i ≤ 11 → W.kn i ≠ W.kn 1 ∧ W.knd (W.kn i) ≠ 0
  p1 : pcl ≠ W.kn 1
  kd : ∀ i j, 0 ≤ i → i < 16 → 0 ≤ j → j < 16 → W.kn i = W.kn j → i = j
  pk : ∀ i, 0 ≤ i → i < 16 → pcl ≠ W.kn i
  ob : ∀ z i, W.isO z → W.cls z = W.kn i → 8 ≤ i → i ≤ 11 → ObF W z i
  cn : ∀ z, W.isC z → 0 ≤ W.knd z ∧ W.isO (W.get z 0) ∧ W.cls (W.get z 0) = W.kn 11 ∧ 1 ≤ W.fds (W.get z 0) ∧ W.fds (W.get z 0) ≤ 60
theorem SymO.grow {e : Nat × Nat × Nat × Nat} (h : SymO W e) (hW : W.ok) (g : Grow W W') : SymO W' e :=
  ⟨g.isO h.o, (g.cls hW h.o).trans (h.c.trans (g.kn 11).symm), (g.fmt hW h.o).trans h.f, (g.fds hW h.o).trans h.l, fun i hi => (g.fld hW h.o (by omega) (by rw [h.l]; omega)).trans (h.b i hi)⟩
theorem Grow.isC (g : Grow W W') (hW : W.ok) (q : W.isO z) : W'.isC z ↔ W.isC z := by
  unfold Wd.isC
  rw [g.cls hW q, g.fds hW q, g.kn]
  exact ⟨fun h => ⟨q, h.2⟩, fun h => ⟨g.isO q, h.2⟩⟩
theorem Grow.get (g : Grow W W') (hW : W.ok) (q : W.isO z) (i : Int) : W'.get z i = W.get z i := by
  unfold Wd.get
  rw [g.fds hW q]
  by_cases h : 0 ≤ i ∧ i < W.fds z
  · rw [if_pos ⟨g.isO q, h⟩, if_pos ⟨q, h⟩]; exact g.fld hW q h.1 h.2
  · rw [if_neg (fun x => h x.2), if_neg (fun x => h x.2)]
theorem Grow.siz (g : Grow W W') (hW : W.ok) (q : W.isO z) : W'.siz z = W.siz z := by
  unfold Wd.siz
  by_cases h : W.isC z
  · rw [if_pos h, if_pos ((g.isC hW q).2 h), g.get hW q]
  · rw [if_neg h, if_neg fun x => h ((g.isC hW q).1 x)]
theorem Grow.knd (g : Grow W W') (hW : W.ok) (q : W.isO z) : W'.knd z = W.knd z := by
  unfold Wd.knd
  by_cases h : W.isC z
  · rw [if_pos h, if_pos ((g.isC hW q).2 h), g.get hW q]
  · rw [if_neg h, if_neg fun x => h ((g.isC hW q).1 x)]
/-- What may be new. -/
def NewOk (W W' : Wd) : Prop := ∀ z, W'.isO z → W.isO z ∨ (∃ i, 8 ≤ i ∧ i ≤ 11 ∧ W'.cls z = W.kn i ∧ ObF W' z i) ∨ (W'.cls z = pcl ∧ W'.fmt z = 0 ∧ ∀ i, 0 ≤ i → i < W'.fds z → W'.fld z i = 0)
theorem ObF.grow {j : Int} (h : ObF W z j) (hW : W.ok) (g : Grow W W') (q : W.isO z) : ObF W' z j := by
  refine ⟨fun e => ?_, fun e => ?_, fun e => ?_⟩
  · obtain ⟨h1, h2, h3⟩ := h.s8 e
    rw [g.fmt hW q, g.fds hW q, g.fld hW q (by omega) (by omega)]; exact ⟨h1, h2, h3⟩
  · rw [g.fmt hW q]; exact h.s9 e
  · obtain ⟨h1, h2⟩ := h.s10 e
    rw [g.fmt hW q, g.fds hW q]
    exact ⟨h1, fun i i0 i1 => by rw [g.fld hW q i0 i1]; exact h2 i i0 i1⟩
theorem clsOf_O (h : W.isO z) : W.clsOf z = W.cls z := if_pos h
theorem Inv.grow (I : Inv W) (g : Grow W W') (h : NewOk W W') (hs : ∃ S, W'.sy = syA S ∧ (∀ e ∈ S, e.2.2.2 < W'.sc) ∧ ∀ e ∈ S, SymO W' e) (hr : W'.may (W'.ro 0)) : Inv W' := by
  have hW := I.s.ok
  refine ⟨I.s.grow g, hs, hr, by rw [g.cl]; exact I.cl, (g.isC hW I.pt.1).2 I.pt, fun z hz => ?_, fun z hz hk => ?_, fun i h0 h1 => ?_, by rw [g.kn]; exact I.p1, fun i j i0 i1 j0 j1 e => I.kd i j i0 i1 j0 j1 (by rw [← g.kn, ← g.kn]; exact e), fun i i0 i1 => by rw [g.kn]; exact I.pk i i0 i1, fun z i hz hc i0 i1 => ?_, fun z hz => ?_⟩
  · rcases h z hz.1 with q | ⟨j, j0, j1, q, _⟩ | ⟨q, _⟩
    · rw [g.siz hW q]; exact I.ck z ((g.isC hW q).1 hz)
    · exact absurd (q.symm.trans (hz.2.1.trans (g.kn 1))) (I.k1 j j0 j1).1
    · exact absurd (q.symm.trans (hz.2.1.trans (g.kn 1))) I.p1
  · rw [clsOf_O hz] at hk
    rcases h z hz with q | ⟨j, j0, j1, q, _⟩ | q
    · rw [g.cls hW q] at hk
      suffices hp : W.knd (W.clsOf z) = 0 by
        obtain ⟨p0, p1, p2⟩ := I.pl z q hp
        rw [g.cls hW q, g.fmt hW q, g.fds hW q]
        exact ⟨p0, p1, fun i h0 h1 => by rw [g.fld hW q h0 h1]; exact p2 i h0 h1⟩
      rw [clsOf_O q]
      by_cases o : W.isO (W.cls z)
      · rw [← g.knd hW o]; exact hk
      · exfalso
        unfold Wd.knd at hk
        split at hk
        · rename_i c
          rcases h _ c.1 with o2 | ⟨j, j0, j1, o2, _⟩ | ⟨o2, _⟩
          · exact o o2
          · exact absurd (o2.symm.trans (c.2.1.trans (g.kn 1))) (I.k1 j j0 j1).1
          · exact absurd (o2.symm.trans (c.2.1.trans (g.kn 1))) I.p1
        · omega
    · rw [q, g.knd hW (I.s.k j (by omega) (by omega))] at hk
      exact absurd hk (I.k1 j j0 j1).2
    · exact q
  · rw [g.kn, g.kn, g.knd hW (I.s.k i (by omega) (by omega))]; exact I.k1 i h0 h1
  · rcases h z hz with q | ⟨j, j0, j1, q, q2⟩ | ⟨q, _⟩
    · rw [g.cls hW q, g.kn] at hc
      exact (I.ob z i q hc i0 i1).grow hW g q
    · have e := I.kd j i (by omega) (by omega) (by omega) (by omega) (q.symm.trans (hc.trans (g.kn i)))
      rw [← e]; exact q2
    · exact absurd (q.symm.trans (hc.trans (g.kn i))) (I.pk i (by omega) (by omega))
  · rcases h z hz.1 with q | ⟨j, j0, j1, q, _⟩ | ⟨q, _⟩
    · obtain ⟨c1, c2, c3, c4⟩ := I.cn z ((g.isC hW q).1 hz)
      rw [g.knd hW q, g.get hW q, g.kn, g.cls hW c2, g.fds hW c2]
      exact ⟨c1, g.isO c2, c3, c4⟩
    · exact absurd (q.symm.trans (hz.2.1.trans (g.kn 1))) (I.k1 j j0 j1).1
    · exact absurd (q.symm.trans (hz.2.1.trans (g.kn 1))) I.p1
/-- What a new object of such a class has to be. -/
structure NewF (f : Int) (L : Nat → Int) (n : Nat) (i : Int) : Prop where
  s8 : i = 8 → f = 1 ∧ n = 1 ∧ -1152921504606846976 ≤ L 0 ∧ L 0 ≤ 1152921504606846976
  s9 : i = 9 → f = 0
  s10 : 10 ≤ i → f = 2 ∧ ∀ j : Nat, j < n → 0 ≤ L j ∧ L j ≤ 255
/-- One object was made. -/
theorem Made.newOk {z0 : Int} (m : Made W W' z0 c f L n) (h : (∃ i, 8 ≤ i ∧ i ≤ 11 ∧ c = W.kn i ∧ NewF f L n i) ∨ (c = pcl ∧ f = 0 ∧ ∀ i : Nat, i < n → L i = 0)) : NewOk W W' := by
  intro z hz
  rcases (m.new _).1 hz.2 with e | e
  · have : z = z0 := by have := hz.1; have := m.ptr; unfold isPtr at *; omega
    subst this
    rcases h with ⟨j, j0, j1, q, q2⟩ | ⟨q, q1, q2⟩
    · refine .inr (.inl ⟨j, j0, j1, m.cls.trans q, ⟨fun e => ?_, fun e => m.fmt.trans (q2.s9 e), fun e => ⟨m.fmt.trans (q2.s10 e).1, fun i h0 h1 => ?_⟩⟩⟩)
      · obtain ⟨e1, e2, e3⟩ := q2.s8 e
        have := m.fld 0 (by omega)
        rw [show ((0 : Nat) : Int) = 0 from rfl] at this
        rw [m.fmt, m.fds, this, e2]; exact ⟨e1, rfl, e3⟩
      · rw [m.fds] at h1
        obtain ⟨j, rfl⟩ := Int.eq_ofNat_of_zero_le h0
        have hj : j < n := by omega
        rw [m.fld j hj]; exact (q2.s10 e).2 j hj
    · refine .inr (.inr ⟨m.cls.trans q, m.fmt.trans q1, fun i h0 h1 => ?_⟩)
      rw [m.fds] at h1
      obtain ⟨j, rfl⟩ := Int.eq_ofNat_of_zero_le h0
      exact (m.fld j (by omega)).trans (q2 j (by omega))
  · exact .inl ⟨hz.1, e⟩
theorem newB (b n : Nat) (i : Int) (hi : 10 ≤ i) : NewF 2 (fun i => (byteAt b i : Nat)) n i :=
  ⟨fun e => by omega, fun e => by omega, fun _ => ⟨rfl, fun j _ => by
    have : byteAt b j < 256 := Nat.mod_lt _ (by decide)
    show (0 : Int) ≤ (byteAt b j : Nat) ∧ ((byteAt b j : Nat) : Int) ≤ 255
    omega⟩⟩
theorem newA (L : Nat → Int) (n : Nat) : NewF 0 L n 9 := ⟨fun e => by omega, fun _ => rfl, fun e => by omega⟩
theorem Inv.sameSy (I : Inv W) (g : Grow W W') (h1 : W'.sy = W.sy) (h2 : W'.sc = W.sc) : ∃ S, W'.sy = syA S ∧ (∀ e ∈ S, e.2.2.2 < W'.sc) ∧ ∀ e ∈ S, SymO W' e := by
  obtain ⟨S, q1, q2, q3⟩ := I.sy
  exact ⟨S, h1.trans q1, by rw [h2]; exact q2, fun e he => (q3 e he).grow I.s.ok g⟩
theorem Inv.made {z0 : Int} (I : Inv W) (m : Made W W' z0 c f L n) (h : (∃ i, 8 ≤ i ∧ i ≤ 11 ∧ c = W.kn i ∧ NewF f L n i) ∨ (c = pcl ∧ f = 0 ∧ ∀ i : Nat, i < n → L i = 0)) (h1 : W'.sy = W.sy) (h2 : W'.sc = W.sc) (h3 : W'.rt = W.rt) : Inv W' :=
  I.grow m.g (m.newOk h) (I.sameSy m.g h1 h2) (by rw [show W'.ro 0 = W.ro 0 by unfold Wd.ro; rw [h3]]; exact m.g.may I.ro)
end
end Go.Ev
namespace Go.Ev
open Go.Proofs
set_option maxRecDepth 100000
attribute [local irreducible] zAV
set_option exponentiation.threshold 3000

section
variable {M : Mac} [hM : IsM Tryz.prog M] {W W' : Wd} {z i v c f : Int} {k : AV → H → Res} {x y : AV} {nx n b : Nat} {t : PT AO} {S : List (Nat × Nat × Nat × Nat)} {L : Nat → Int}

/-- A thing, as it is handed in. -/
def thing (kd nn : Int) (l b : Nat) : AV := .ag (.cons (zAV kd) (.cons (zAV nn) (.cons (.s l b) .nil)))
/-- Its block. -/
noncomputable def tblk (kd nn : Int) (l b : Nat) : AO := .row 3 (PT.updF (PT.updF (PT.updF .nil 0 (some (zAV kd))) 1 (some (zAV nn))) 2 (some (.s l b))) .u
noncomputable def hTh (W : Wd) (kd nn : Int) (l b : Nat) : PT AO := PT.updF (hK0 W).t 8 (some (tblk kd nn l b))
theorem hTh_lo (W : Wd) (kd nn : Int) (l b : Nat) : lo W (hTh W kd nn l b) := lo_lit (nx := 8) (fun _ _ => rfl) (by decide) (by decide)
theorem hTh_b (W : Wd) (kd nn : Int) (l b : Nat) : (hTh W kd nn l b).get 8 = some (tblk kd nn l b) := upd_at (by decide)

/-- A string that is cut. -/
def cutL (m l : Nat) : Nat := if m < l then m else l
def cutB (m l b : Nat) : Nat := if m < l then b % 256 ^ m else b

theorem made_word (I : Inv W) (kd nn : Int) (l b : Nat) (hk : kd < 0 ∨ 6 ≤ kd) : ∃ r, CSem Tryz.prog 14 (.cons (.pt 6 0) (.cons (thing kd nn l b) .nil)) (hK0 W) (zAV r) (hK0 W) := by
  refine ⟨if kd = 6 then 0 else if kd = 7 then 2 else if kd = 8 then 4 else nn, csem_u mix c14 fun M _ K hK => ?_⟩
  repeat' (conv => arg 1; whnf
           first | refine good_fbits ?_ | refine good_fs0 ?_ | (refine bin_eql ?_ ?_ <;> intro _ <;> try (exfalso; omega)) | (refine bin_gtr ?_ ?_ <;> intro _ <;> try (exfalso; omega)) | refine good_go rfl ?_ | refine good_ga rfl ?_ | refine good_idx' ?_ | refine good_lt (by omega) ?_ | refine good_cellA ?_ | refine good_uo (by first | decide | omega) ?_ | refine good_ua (by omega) ?_)
  all_goals first
    | exact endK hK I.s.ok (hTh_lo W kd nn l b) (p_zAV (by simp [*]; try omega)) (bd_z _ _)
    | exact endK hK I.s.ok (hTh_lo W kd nn l b) (z_zAV (by rw [if_neg (by omega), if_neg (by omega), if_neg (by omega)])) (bd_z _ _)
/-- What is said of a thing that was made. -/
structure MadeT (W : Wd) (kd nn : Int) (l b : Nat) (W' : Wd) (r : Int) : Prop where
  I : Inv W'
  g : Grow W W'
  en : W'.en ≤ W.en + 270
  md : W'.md ≤ W.md + 2
  c : CSem Tryz.prog 14 (.cons (.pt 6 0) (.cons (thing kd nn l b) .nil)) (hK0 W) (zAV r) (hK0 W')
theorem MadeT.same (I : Inv W) {kd nn r : Int} {l b : Nat} (c : CSem Tryz.prog 14 (.cons (.pt 6 0) (.cons (thing kd nn l b) .nil)) (hK0 W) (zAV r) (hK0 W)) : ∃ W' r, MadeT W kd nn l b W' r := ⟨W, r, I, Grow.refl I.s.ok, by omega, by omega, c⟩

theorem made_num (I : Inv W) (hrm : W.room 1) (nn : Int) (l b : Nat) : ∃ W' r, MadeT W 0 nn l b W' r := by
  have hlo := hTh_lo W 0 nn l b
  by_cases h1 : nn < -1152921504606846976 ∨ 1152921504606846976 < nn
  · refine MadeT.same I (r := 0) (csem_u mix c14 fun M _ K hK => ?_)
    repeat' (conv => arg 1; whnf
             first | refine good_fbits ?_ | refine good_fs0 ?_ | refine good_onH (cs42e I.s.ok nn h1) I.s.ok (bw2 nn) (by decide) hlo ?_ | (refine bin_eql ?_ ?_ <;> intro _ <;> try (exfalso; omega)) | (refine bin_gtr ?_ ?_ <;> intro _ <;> try (exfalso; omega)) | refine good_go rfl ?_ | refine good_ga rfl ?_ | refine good_idx' ?_ | refine good_lt (by omega) ?_ | refine good_cellA ?_ | refine good_uo (by first | decide | omega) ?_ | refine good_ua (by omega) ?_)
    all_goals exact endK hK I.s.ok hlo rfl (bd_z _ _)
  · by_cases h2 : -1073741824 ≤ nn ∧ nn ≤ 1073741823
    · refine MadeT.same I (r := 2 * nn + 1) (csem_u mix c14 fun M _ K hK => ?_)
      repeat' (conv => arg 1; whnf
               first | refine good_fbits ?_ | refine good_fs0 ?_ | refine good_onH (cs42s I.s.ok nn h2) I.s.ok (bw2 nn) (by decide) hlo ?_ | (refine bin_eql ?_ ?_ <;> intro _ <;> try (exfalso; omega)) | (refine bin_gtr ?_ ?_ <;> intro _ <;> try (exfalso; omega)) | refine good_go rfl ?_ | refine good_ga rfl ?_ | refine good_idx' ?_ | refine good_lt (by omega) ?_ | refine good_cellA ?_ | refine good_uo (by first | decide | omega) ?_ | refine good_ua (by omega) ?_)
      all_goals exact endK hK I.s.ok hlo rfl (bd_z _ _)
    · have m := mkL_made (f := 1) (n := 1) (L := fun _ => nn) I.s.ok (kn_B I.s.ok 8) (by decide) (by decide) hrm (fun _ => by unfold wordB; omega) fun _ _ => ⟨fun h => absurd h (by decide), fun h => absurd h (by decide)⟩
      have y := mkL_sy (f := 1) (n := 1) (L := fun _ => nn) I.s.ok (kn_B I.s.ok 8) (by decide) (by decide) hrm (fun _ => by unfold wordB; omega)
      refine ⟨W.mkL (W.kn 8) 1 (fun _ => nn) 1, 2 * W.en, I.made m (.inl ⟨8, by decide, by decide, rfl, ⟨fun _ => ⟨rfl, rfl, by omega, by omega⟩, fun e => by omega, fun e => by omega⟩⟩) y.1 y.2.1 y.2.2, m.g, by rw [m.en]; omega, by rw [m.md]; omega, csem_u mix c14 fun M _ K hK => ?_⟩
      repeat' (conv => arg 1; whnf
               first | refine good_fbits ?_ | refine good_fs0 ?_ | refine good_onG (cs42l I.s nn (by omega) (by omega) hrm) I.s.ok (bw2 nn) (by decide) hlo ?_ | (refine bin_eql ?_ ?_ <;> intro _ <;> try (exfalso; omega)) | (refine bin_gtr ?_ ?_ <;> intro _ <;> try (exfalso; omega)) | refine good_go rfl ?_ | refine good_ga rfl ?_ | refine good_idx' ?_ | refine good_lt (by omega) ?_ | refine good_cellA ?_ | refine good_uo (by first | decide | omega) ?_ | refine good_ua (by omega) ?_)
      all_goals exact endK hK m.g.ok (setB_lo hlo) rfl (bd_z _ _)


theorem made_str (I : Inv W) (hrm : W.room 250) (nn : Int) (l b : Nat) : ∃ W' r, MadeT W 1 nn l b W' r := by
  have hlo := hTh_lo W 1 nn l b
  have key : ∀ n b', n ≤ 250 → (CSem Tryz.prog 43 (.cons (.pt 6 0) (.cons (.s n b') .nil)) (hK0 W) (pr (2 * W.en) 0) (hK0 (W.mkB (W.kn 10) n b')) → CSem Tryz.prog 14 (.cons (.pt 6 0) (.cons (thing 1 nn l b) .nil)) (hK0 W) (zAV (2 * W.en)) (hK0 (W.mkB (W.kn 10) n b'))) → ∃ W' r, MadeT W 1 nn l b W' r := fun n b' hn h => by
    have r1 : W.room n := ⟨by have := hrm.1; omega, hrm.2⟩
    have m := mkB_made (b := b') I.s 10 (by omega) r1
    have y := mkL_sy (f := 2) (n := n) I.s.ok (kn_B I.s.ok 10) (by decide) (by omega) r1 (fun i => byteB b' i)
    exact ⟨_, _, I.made m (.inl ⟨10, by decide, by decide, rfl, newB _ _ 10 (by decide)⟩) y.1 y.2.1 y.2.2, m.g, by rw [m.en]; omega, by rw [m.md]; omega, h (cs43 I.s n b' hn r1)⟩
  by_cases hl : 250 < l
  · refine key 250 (b % 256 ^ 250) (Nat.le_refl _) fun h43 => ?_
    have hok := (mkB_made (b := b % 256 ^ 250) I.s 10 (show 250 ≤ 256 by decide) hrm).g.ok
    refine csem_u mix c14 fun M _ K hK => ?_
    repeat' (conv => arg 1; whnf
             first | refine good_fbits ?_ | refine good_fs0 ?_ | refine good_onG h43 I.s.ok (bw83 _ _) (by decide) hlo ?_ | (refine bin_eql ?_ ?_ <;> intro _ <;> try (exfalso; omega)) | (refine bin_gtr ?_ ?_ <;> intro _ <;> try (exfalso; omega)) | refine good_go rfl ?_ | refine good_ga rfl ?_ | refine good_idx' ?_ | refine good_lt (by omega) ?_ | refine good_cellA ?_ | refine good_uo (by first | decide | omega) ?_ | refine good_ua (by omega) ?_)
    all_goals exact endK hK hok (setB_lo hlo) rfl (bd_z _ _)
  · refine key l b (by omega) fun h43 => ?_
    have hok := (mkB_made (b := b) (n := l) I.s 10 (by omega) ⟨by have := hrm.1; omega, hrm.2⟩).g.ok
    refine csem_u mix c14 fun M _ K hK => ?_
    repeat' (conv => arg 1; whnf
             first | refine good_fs0 ?_ | refine good_onG h43 I.s.ok (bw83 _ _) (by decide) hlo ?_ | (refine bin_eql ?_ ?_ <;> intro _ <;> try (exfalso; omega)) | (refine bin_gtr ?_ ?_ <;> intro _ <;> try (exfalso; omega)) | refine good_go rfl ?_ | refine good_ga rfl ?_ | refine good_cellA ?_ | refine good_uo (by first | decide | omega) ?_ | refine good_ua (by omega) ?_)
    all_goals exact endK hK hok (setB_lo hlo) rfl (bd_z _ _)

theorem made_obj (I : Inv W) (hrm : W.room 2) (nn : Int) (l b : Nat) : ∃ W' r, MadeT W 4 nn l b W' r := by
  have hlo := hTh_lo W 4 nn l b
  have hcB : wordB pcl := by unfold wordB pcl; decide
  have m : Made W (W.mk' pcl 0 2) (2 * W.en) pcl 0 (fun _ => 0) 2 := mkL_made (f := 0) (n := 0) (L := fun _ => 0) I.s.ok hcB (by decide) (by decide) ⟨by have := hrm.1; omega, hrm.2⟩ (fun _ => by unfold wordB; decide) (fun _ h => absurd h (Nat.not_lt_zero _)) |> fun _ => by
    obtain ⟨n1, n2, n3, n4, n5, n6⟩ := mk_new (W := W) (c := pcl) (f := 0) (n := 2) I.s.ok (by decide) hrm.1
    exact ⟨mk_grow I.s.ok hcB (by decide) (by decide) hrm.1 hrm.2, rfl, n1, n3, n4, n5, fun i hi => n6 i (by omega) (by omega), rfl, rfl, fun a => mk_has (by have := I.s.ok.e; omega) a⟩
  obtain ⟨bo, hcl⟩ := I.cl
  have h5 : (hTh W 4 nn l b).get 5 = some (.sm W.cl W.cc) := hlo 5 (by decide)
  have h6 := hlo 6 (by decide)
  have h47 := cs47p (n := 2) I.s.ok (.inr I.pt.1) hcB (show (0 : Int) ≤ 0 ∧ (0 : Int) ≤ 2 by decide) (by decide) hrm
  rw [show zAV pcl = .p 8714 from (p_zAV (m := 8714) (r := pcl) rfl).symm, show zAV 0 = .p 0 from zAV_nat 0] at h47
  refine ⟨W.mk' pcl 0 2, 2 * W.en, I.made m (.inr ⟨rfl, rfl, fun _ _ => rfl⟩) rfl rfl rfl, m.g, by rw [m.en]; omega, by rw [m.md]; omega, csem_u mix c14 fun M _ K hK => ?_⟩
  repeat' (conv => arg 1; whnf
           first | refine good_fbits ?_ | refine good_fs0 ?_ | refine good_onH (cs23 I.s.ok) I.s.ok rfl (by decide) hlo ?_ | refine good_into mix c45 ?_ | refine good_go h5 ?_ | refine good_cl hcl ?_ | refine good_onG h47 I.s.ok rfl (by decide) hlo ?_ | (refine bin_eql ?_ ?_ <;> intro _ <;> try (exfalso; omega)) | (refine bin_gtr ?_ ?_ <;> intro _ <;> try (exfalso; omega)) | refine good_go rfl ?_ | refine good_ga rfl ?_ | refine good_idx' ?_ | refine good_lt (by omega) ?_ | refine good_cellA ?_ | refine good_uo (by first | decide | omega) ?_ | refine good_ua (by omega) ?_)
  all_goals exact endK hK m.g.ok (setB_lo hlo) rfl (bd_z _ _)

theorem made_cls (I : Inv W) (nn : Int) (l b : Nat) : ∃ W' r, MadeT W 5 nn l b W' r := by
  have hlo := hTh_lo W 5 nn l b
  obtain ⟨bo, hcl⟩ := I.cl
  have h5 : (hTh W 5 nn l b).get 5 = some (.sm W.cl W.cc) := hlo 5 (by decide)
  refine MadeT.same I (r := if nn = 16 then pcl else W.kn nn) (csem_u mix c14 fun M _ K hK => ?_)
  repeat' (conv => arg 1; whnf
           first | refine good_fbits ?_ | refine good_fs0 ?_ | refine good_into mix c45 ?_ | refine good_go h5 ?_ | refine good_cl hcl ?_ | refine good30H I.s.ok (by decide) hlo ?_ | (refine bin_eql ?_ ?_ <;> intro _ <;> try (exfalso; omega)) | (refine bin_gtr ?_ ?_ <;> intro _ <;> try (exfalso; omega)) | refine good_go rfl ?_ | refine good_ga rfl ?_ | refine good_idx' ?_ | refine good_lt (by omega) ?_ | refine good_cellA ?_ | refine good_uo (by first | decide | omega) ?_ | refine good_ua (by omega) ?_)
  all_goals first
    | exact endK hK I.s.ok hlo (p_zAV (by rw [if_pos (by omega)]; rfl)) (bd_z _ _)
    | exact endK hK I.s.ok hlo (z_zAV (by rw [if_neg (by omega)])) (bd_z _ _)

theorem made_arr (I : Inv W) (hrm : W.room 10) (nn : Int) (hn : -9223372036854775808 ≤ nn ∧ nn ≤ 9223372036854775807) (l b : Nat) : ∃ W' r, MadeT W 3 nn l b W' r := by
  have hlo := hTh_lo W 3 nn l b
  obtain ⟨nm, hnm, hnm0, hnm1⟩ : ∃ nm : Int, (nm = if nn < 0 then 0 - (nn + 1) else nn) ∧ 0 ≤ nm ∧ nm ≤ 9223372036854775807 := ⟨_, rfl, by split <;> omega, by split <;> omega⟩
  obtain ⟨n, hd, hn10⟩ : ∃ n : Nat, nm.tmod ((10 : Nat) : Int) = n ∧ n < 10 := by
    obtain ⟨q, rfl⟩ := Int.eq_ofNat_of_zero_le hnm0
    exact ⟨q % 10, rfl, Nat.mod_lt _ (by decide)⟩
  have hr1 : W.room n := ⟨by have := hrm.1; omega, hrm.2⟩
  have hB : ∀ i, wordB (if i < n then odd i else 0) := fun i => by unfold wordB odd; split <;> omega
  have hsm : ∀ i, i < n → isSm (odd i) := fun i hi => by unfold isSm odd; omega
  have m := mkL_made (f := 0) (L := fun i => if i < n then odd i else 0) I.s.ok (kn_B I.s.ok 9) (by decide) (show n ≤ 256 by omega) hr1 hB fun i hi => ⟨fun _ => .inr (.inr (.inr (.inl (by show isSm (if i < n then odd i else 0); rw [if_pos hi]; exact hsm i hi)))), fun h => absurd h (by decide)⟩
  have y := mkL_sy (f := 0) (L := fun i => if i < n then odd i else 0) I.s.ok (kn_B I.s.ok 9) (by decide) (show n ≤ 256 by omega) hr1 hB
  have h0 : Lst W (fun i => zAV (odd i)) (hTh W 3 nn l b) 9 0 0 := ⟨hlo, by decide, fun h => absurd rfl h⟩
  obtain ⟨t', nx', q', hL, hx, s⟩ := odd_loop nm n hd hn10 n 0 0 9 _ (by omega) (by omega) h0
  refine ⟨_, 2 * W.en, I.made m (.inl ⟨9, by decide, by decide, rfl, newA _ _⟩) y.1 y.2.1 y.2.2, m.g, by rw [m.en]; omega, by rw [m.md]; omega, csem_u mix c14 fun M _ K hK => ?_⟩
  have hd1 : nn < 0 → 0 - (nn + ((1 : Nat) : Int)) = nm := fun h => by rw [hnm, if_pos h]; omega
  have hd0 : 0 ≤ nn → nn = nm := fun h => by rw [hnm, if_neg (by omega)]
  cases n with
  | zero =>
    repeat' (conv => arg 1; whnf
             first | refine good_fbits ?_ | refine good_fs0 ?_ | refine good_ng (fun _ => rfl) (by omega) (by omega) ?_ | refine good_loopE s (drop1 (zAV_nat 0) (drop1 rfl (drop1 (z_zAV (by first | exact (hd1 (by omega)).symm | exact (hd0 (by omega)).symm)) (drop1 rfl (drop0 _))))) ?_ | refine good46n (L := fun i => if i < 0 then odd i else 0) I.s hL.lo hL.n (by omega) hr1 fun t2 q1 q2 => ?_ | (refine bin_eql ?_ ?_ <;> intro _ <;> try (exfalso; omega)) | (refine bin_lss ?_ ?_ <;> intro _ <;> try (exfalso; omega)) | (refine bin_gtr ?_ ?_ <;> intro _ <;> try (exfalso; omega)) | refine bin_add (by omega) (by omega) ?_ | refine good_go rfl ?_ | refine good_ga rfl ?_ | refine good_idx' ?_ | refine good_lt (by omega) ?_ | refine good_cellA ?_ | refine good_uo (by first | decide | omega) ?_ | refine good_ua (by omega) ?_)
    all_goals exact endK hK q2 q1 rfl (bd_z _ _)
  | succ n =>
    have h2 := hL.at' (by omega)
    have hLL : ∀ i, i < n + 1 → ((rowOf (fun i => zAV (odd i)) (n + 1)).get i).getD .u = zAV (if i < n + 1 then odd i else 0) ∧ wordB (if i < n + 1 then odd i else 0) := fun i hi => by
      rw [rowOf_get _ _ i (by omega), if_pos hi, if_pos hi]
      exact ⟨rfl, by unfold wordB odd; omega⟩
    repeat' (conv => arg 1; whnf
             first | refine good_fbits ?_ | refine good_fs0 ?_ | refine good_ng (fun _ => rfl) (by omega) (by omega) ?_ | refine good_loopE s (drop1 (zAV_nat 0) (drop1 rfl (drop1 (z_zAV (by first | exact (hd1 (by omega)).symm | exact (hd0 (by omega)).symm)) (drop1 rfl (drop0 _))))) ?_ | refine good46 I.s hL.lo hL.n (by omega) (by omega) (Nat.le_refl _) h2.1 h2.2.1 h2.2.2 hLL (fun i hi => .inr (.inr (.inr (.inl (by show isSm (if i < n + 1 then odd i else 0); rw [if_pos hi]; exact hsm i hi))))) hr1 fun t2 q1 q2 _ => ?_ | (refine bin_eql ?_ ?_ <;> intro _ <;> try (exfalso; omega)) | (refine bin_lss ?_ ?_ <;> intro _ <;> try (exfalso; omega)) | (refine bin_gtr ?_ ?_ <;> intro _ <;> try (exfalso; omega)) | refine bin_add (by omega) (by omega) ?_ | refine good_go rfl ?_ | refine good_ga rfl ?_ | refine good_idx' ?_ | refine good_lt (by omega) ?_ | refine good_cellA ?_ | refine good_uo (by first | decide | omega) ?_ | refine good_ua (by omega) ?_)
    all_goals exact endK hK q2 q1 rfl (bd_z _ _)
/-- A symbol, found or made. -/
theorem sym_any (I : Inv W) (hr : W.en + n + 20 ≤ W.sz ∧ W.md + 2 < 1000000) (h0 : 1 ≤ n) (h1 : n ≤ 60) (b : Nat) : ∃ W' r c, Inv W' ∧ Grow W W' ∧ W'.en ≤ W.en + 80 ∧ W'.md ≤ W.md + 2 ∧ SymO W' (n, b, r, c) ∧ CSem Tryz.prog 44 (.cons (.pt 6 0) (.cons (.s n b) .nil)) (hK0 W) (pr r 0) (hK0 W') := by
  obtain ⟨S, q1, q2, q3⟩ := I.sy
  cases hf : sfind n b S with
  | some p =>
    have o := q3 _ (sfind_mem (v := p.1) (c := p.2) hf)
    have := o.o.in I.s.ok
    exact ⟨W, p.1, p.2, I, Grow.refl I.s.ok, by omega, by omega, o, cs44h I.s.ok q1 h0 h1 (v := p.1) (c := p.2) hf fun e => by
      have h2 := o.o.1
      unfold isPtr at h2
      simp only [e] at h2
      omega⟩
  | none =>
    have q := sym_step (b := b) I.s h1 hr I.ro
    obtain ⟨hok, hg⟩ := mkS_ok (S := S) q rfl rfl
    have he := I.s.ok.e
    have hen := q.m1.en
    have hen2 := q.m2.en
    have hmd := q.m1.md
    have hmd2 := q.m2.md
    have o1 : SymO (W.mkB (W.kn 11) n b) (n, b, 2 * W.en, W.sc) := by
      have e2 : ((2 * W.en : Nat) : Int) = 2 * (W.en : Int) := by omega
      refine ⟨?_, ?_, ?_, ?_, fun i hi => ?_⟩ <;> simp only [e2]
      · exact q.m1.isO
      · exact q.m1.cls.trans (q.m1.g.kn 11).symm
      · exact q.m1.fmt
      · exact q.m1.fds
      · exact q.m1.fld i hi
    have g2 : Grow (W.mkB (W.kn 11) n b) (W.mkS S n b) := ⟨hok, q.m2.g.has, q.m2.g.new, q.m2.g.wd, q.m2.g.en, q.m2.g.sz, fun j hj => by rw [mkS_ro, if_neg (by omega)]; exact q.m2.g.rt j hj, q.m2.g.cl, q.m2.g.md⟩
    have oS : SymO (W.mkS S n b) (n, b, 2 * W.en, W.sc) := o1.grow q.s1.ok g2
    refine ⟨W.mkS S n b, 2 * W.en, W.sc, I.grow hg (fun z hz => ?_) ⟨S ++ [(n, b, 2 * W.en, W.sc)], rfl, fun e he => ?_, fun e he => ?_⟩ ?_, hg, ?_, ?_, oS, ?_⟩
    · have c2 : (W.mkS S n b).isO z → NewOk (W.mkB (W.kn 11) n b) ((W.mkB (W.kn 11) n b).mkL ((W.mkB (W.kn 11) n b).kn 9) 0 (two (2 * W.en) ((W.mkB (W.kn 11) n b).ro 0)) 2) := fun _ => q.m2.newOk (.inl ⟨9, by decide, by decide, rfl, newA _ _⟩)
      rcases c2 hz z hz with h | ⟨j, j0, j1, h, h4⟩ | h
      · rcases q.m1.newOk (.inl ⟨11, by decide, by decide, rfl, newB _ _ 11 (by decide)⟩) z h with h2 | ⟨j, j0, j1, h2, h3⟩ | h2
        · exact .inl h2
        · exact .inr (.inl ⟨j, j0, j1, (g2.cls q.s1.ok h).trans h2, h3.grow q.s1.ok g2 h⟩)
        · refine .inr (.inr ⟨(g2.cls q.s1.ok h).trans h2.1, (g2.fmt q.s1.ok h).trans h2.2.1, fun i h0 h1 => ?_⟩)
          rw [g2.fds q.s1.ok h] at h1
          rw [g2.fld q.s1.ok h h0 h1]; exact h2.2.2 i h0 h1
      · exact .inr (.inl ⟨j, j0, j1, h.trans (q.m1.g.kn j), ⟨h4.s8, h4.s9, h4.s10⟩⟩)
      · exact .inr (.inr h)
    · rcases List.mem_append.1 he with h | h
      · have := q2 e h; show e.2.2.2 < W.sc + 1; omega
      · obtain rfl := List.mem_singleton.1 h; show W.sc < W.sc + 1; omega
    · rcases List.mem_append.1 he with h | h
      · exact (q3 e h).grow I.s.ok hg
      · obtain rfl := List.mem_singleton.1 h; exact oS
    · rw [mkS_ro, if_pos rfl]
      exact .inr (.inr (.inr (.inr q.m2.isO)))
    · show ((W.mkB (W.kn 11) n b).mkL ((W.mkB (W.kn 11) n b).kn 9) 0 (two (2 * W.en) ((W.mkB (W.kn 11) n b).ro 0)) 2).en ≤ _
      rw [hen2, hen]; omega
    · show ((W.mkB (W.kn 11) n b).mkL ((W.mkB (W.kn 11) n b).kn 9) 0 (two (2 * W.en) ((W.mkB (W.kn 11) n b).ro 0)) 2).md ≤ _
      rw [hmd2, hmd]; omega
    · have := cs44m (b := b) I.s q1 q2 h0 h1 hr I.ro hf
      rw [show ((2 * W.en : Nat) : Int) = 2 * (W.en : Int) by omega]; exact this


theorem made_sym (I : Inv W) (hrm : W.en + 100 ≤ W.sz ∧ W.md + 2 < 1000000) (nn : Int) (l b : Nat) : ∃ W' r, MadeT W 2 nn l b W' r := by
  have hlo := hTh_lo W 2 nn l b
  have key : ∀ n b', 1 ≤ n → n ≤ 60 → (∀ W' (r : Int), W'.ok → CSem Tryz.prog 44 (.cons (.pt 6 0) (.cons (.s n b') .nil)) (hK0 W) (pr r 0) (hK0 W') → CSem Tryz.prog 14 (.cons (.pt 6 0) (.cons (thing 2 nn l b) .nil)) (hK0 W) (zAV r) (hK0 W')) → ∃ W' r, MadeT W 2 nn l b W' r := fun n b' h0 h1 h => by
    obtain ⟨W', r, c, q1, q2, q3, q4, _, q6⟩ := sym_any I ⟨by omega, hrm.2⟩ h0 h1 b'
    exact ⟨W', r, q1, q2, by omega, q4, h W' r q1.s.ok q6⟩
  by_cases h250 : 250 < l
  · refine key (1 + 60 / 2) (115 + (b % 256 ^ 250 % 256 ^ 60 % 256 ^ (60 / 2)) * 256 ^ 1) (by omega) (by omega) fun W' r hok h44 => csem_u mix c14 fun M _ K hK => ?_
    repeat' (conv => arg 1; whnf
             first | refine good_fbits ?_ | refine good_fs0 ?_ | refine bin_half (by omega) ?_ | refine bin_cat (by omega) ?_ | refine good_onG h44 I.s.ok (bw83 _ _) (by decide) hlo ?_ | (refine bin_eql ?_ ?_ <;> intro _ <;> try (exfalso; omega)) | (refine bin_gtr ?_ ?_ <;> intro _ <;> try (exfalso; omega)) | refine good_go rfl ?_ | refine good_ga rfl ?_ | refine good_idx' ?_ | refine good_lt (by omega) ?_ | refine good_cellA ?_ | refine good_uo (by first | decide | omega) ?_ | refine good_ua (by omega) ?_)
    all_goals exact endK hK hok (setB_lo hlo) rfl (bd_z _ _)
  · by_cases h60 : 60 < l
    · refine key (1 + 60 / 2) (115 + (b % 256 ^ 60 % 256 ^ (60 / 2)) * 256 ^ 1) (by omega) (by omega) fun W' r hok h44 => csem_u mix c14 fun M _ K hK => ?_
      repeat' (conv => arg 1; whnf
               first | refine good_fbits ?_ | refine good_fs0 ?_ | refine bin_half (by omega) ?_ | refine bin_cat (by omega) ?_ | refine good_onG h44 I.s.ok (bw83 _ _) (by decide) hlo ?_ | (refine bin_eql ?_ ?_ <;> intro _ <;> try (exfalso; omega)) | (refine bin_gtr ?_ ?_ <;> intro _ <;> try (exfalso; omega)) | refine good_go rfl ?_ | refine good_ga rfl ?_ | refine good_idx' ?_ | refine good_lt (by omega) ?_ | refine good_cellA ?_ | refine good_uo (by first | decide | omega) ?_ | refine good_ua (by omega) ?_)
      all_goals exact endK hK hok (setB_lo hlo) rfl (bd_z _ _)
    · refine key (1 + l / 2) (115 + (b % 256 ^ (l / 2)) * 256 ^ 1) (by omega) (by omega) fun W' r hok h44 => csem_u mix c14 fun M _ K hK => ?_
      repeat' (conv => arg 1; whnf
               first | refine good_fbits ?_ | refine good_fs0 ?_ | refine bin_half (by omega) ?_ | refine bin_cat (by omega) ?_ | refine good_onG h44 I.s.ok (bw83 _ _) (by decide) hlo ?_ | (refine bin_eql ?_ ?_ <;> intro _ <;> try (exfalso; omega)) | (refine bin_gtr ?_ ?_ <;> intro _ <;> try (exfalso; omega)) | refine good_go rfl ?_ | refine good_ga rfl ?_ | refine good_idx' ?_ | refine good_le (by omega) ?_ | refine good_cellA ?_ | refine good_uo (by first | decide | omega) ?_ | refine good_ua (by omega) ?_)
      all_goals exact endK hK hok (setB_lo hlo) rfl (bd_z _ _)

/-- Whatever thing is made. -/
theorem made_any (I : Inv W) (hrm : W.en + 300 ≤ W.sz ∧ W.md + 5 < 1000000) (kd nn : Int) (hn : -9223372036854775808 ≤ nn ∧ nn ≤ 9223372036854775807) (l b : Nat) : ∃ W' r, MadeT W kd nn l b W' r := by
  rcases (by omega : kd < 0 ∨ 6 ≤ kd ∨ kd = 0 ∨ kd = 1 ∨ kd = 2 ∨ kd = 3 ∨ kd = 4 ∨ kd = 5) with h | h | rfl | rfl | rfl | rfl | rfl | rfl
  · obtain ⟨r, h⟩ := made_word I kd nn l b (.inl h); exact MadeT.same I h
  · obtain ⟨r, h⟩ := made_word I kd nn l b (.inr h); exact MadeT.same I h
  · exact made_num I ⟨by omega, by omega⟩ nn l b
  · exact made_str I ⟨by omega, by omega⟩ nn l b
  · exact made_sym I ⟨by omega, by omega⟩ nn l b
  · exact made_arr I ⟨by omega, by omega⟩ nn hn l b
  · exact made_obj I ⟨by omega, by omega⟩ nn l b
  · exact made_cls I nn l b
end
end Go.Ev
