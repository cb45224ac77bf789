/-
  A world of objects, as the evaluator's heap knows it: its memory, its roots, its symbols and classes under names; what it needs.
-/
import Derived.Test.YtceplogmemkblaaGreatEvY
import Derived.Test.YtceplogmemkblaaGreatTy
import Derived.KernelRfl
namespace Go.Ev
noncomputable section

/-- What is known of a world of objects. -/
structure Wd where
  wt : PT AV
  sz : Nat
  en : Nat
  md : Nat
  pt : PT AV
  pc : Nat
  ph : Nat
  rt : PT AV
  sy : AV
  sc : Nat
  cl : AV
  cc : Nat

def mrow (sz en md : Nat) : PT AV := .s1 (.lf (.sl 0 0 sz sz 0)) (.lf (.p en)) (.lf (.p md)) (.lf (.mp 1)) .nil .nil .nil .nil
def wrow : PT AV := .s1 (.lf (.pt 2 0)) (.lf (.sl 3 0 18 18 0)) (.lf (.mp 4)) (.lf (.mp 5)) .nil .nil .nil .nil
/-- Its blocks, and no others. -/
def kN (W : Wd) : PT AO :=
  .nd (.lf (.row W.sz W.wt (.p 0))) (.lf (.im W.pt W.pc W.ph)) (.lf (.row 4 (mrow W.sz W.en W.md) .u)) (.lf (.row 18 W.rt (.p 0))) (.lf (.sm W.sy W.sc)) (.lf (.sm W.cl W.cc)) (.lf (.row 4 wrow .u)) .nil
def hT (a f1 f2 f3 f4 f5 f6 f7 : PT AO) : PT AO := PT.n1 (PT.n1 (PT.n1 (PT.n1 (.nd a f1 f2 f3 f4 f5 f6 f7))))
/-- A heap that holds the world, and further blocks from 8 on. -/
def hK (W : Wd) (f1 f2 f3 f4 f5 f6 f7 : PT AO) (nx : Nat) : H := ⟨hT (kN W) f1 f2 f3 f4 f5 f6 f7, nx⟩
def hK0 (W : Wd) : H := hK W .nil .nil .nil .nil .nil .nil .nil 8

def valZ : AV → Int
  | .p m => m
  | .n m => Int.negSucc m
  | _ => 0
theorem valZ_z (z : Int) : valZ (zAV z) = z := by cases z <;> rfl
/-- A word of its memory. -/
def Wd.wd (W : Wd) (i : Nat) : Int := valZ ((W.wt.get i).getD (.p 0))
/-- A root. -/
def Wd.ro (W : Wd) (i : Nat) : Int := valZ ((W.rt.get i).getD (.p 0))
/-- Does an object begin there? -/
def Wd.has (W : Wd) (a : Nat) : Bool := (W.pt.get a).isSome

structure Wd.ok (W : Wd) : Prop where
  w : ∀ i, (W.wt.get i).getD (.p 0) = zAV (W.wd i) ∧ -4611686018427387904 ≤ W.wd i ∧ W.wd i ≤ 4611686018427387904
  r : ∀ i, (W.rt.get i).getD (.p 0) = zAV (W.ro i) ∧ -4611686018427387904 ≤ W.ro i ∧ W.ro i ≤ 4611686018427387904
  p : ∀ a x, W.pt.get a = some x → (∃ c, x = .tu (.cons (.b true) (.cons (.p c) .nil))) ∧ 3 ≤ a ∧ 0 ≤ W.wd a / 4 ∧ a + 3 + W.wd a / 4 ≤ W.en
  s : bd 8 W.sy = true
  c : bd 8 W.cl = true
  e : 3 ≤ W.en ∧ W.en ≤ W.sz ∧ W.sz ≤ 131072
  m : W.md ≤ 1000000
  z : W.wd 0 = 0
  q : ∀ a, W.has a = true → W.wd a / 4 ≤ 256
  d : ∀ a b, W.has a = true → W.has b = true → a < b → a + 3 + W.wd a / 4 ≤ b

theorem bd_z (n : Nat) (z : Int) : bd n (zAV z) = true := by cases z <;> rfl
theorem kN_bd {W : Wd} (h : W.ok) (b : Nat) (o : AO) (hb : (hK0 W).t.get b = some o) : b < 8 ∧ OBd 8 o := by
  have h0 : b < 8 := by
    rcases Nat.lt_or_ge b 8 with h1 | h1
    · exact h1
    · exfalso
      have : (hK0 W).t.get b = none := by
        show (if b < 262144 then PT.getL 6 (hT (kN W) .nil .nil .nil .nil .nil .nil .nil) b else none) = none
        by_cases hb : b < 262144
        · rw [if_pos hb]
          unfold hT
          rw [PT.getL_n1, PT.getL_n1, PT.getL_n1, PT.getL_n1]
          repeat' split
          all_goals first
            | rfl
            | (rename_i q2 q3 q4 q5
               rw [PT.getL]
               cases hd : dg 1 b <;> first
                 | (exact PT.getL_nil 1 b)
                 | (exfalso
                    refine absurd ((lt8 hb).2 fun l hl hl' => ?_) (by omega)
                    match l, hl, hl' with
                    | 1, _, _ => exact hd
                    | 2, _, _ => exact q5
                    | 3, _, _ => exact q4
                    | 4, _, _ => exact q3
                    | 5, _, _ => exact q2))
        · rw [if_neg hb]
      rw [this] at hb; cases hb
  refine ⟨h0, ?_⟩
  match b, h0 with
  | 0, _ => cases (show some _ = some o from hb); exact fun i _ => by rw [(h.w i).1]; exact bd_z 8 _
  | 1, _ => cases (show some _ = some o from hb); exact fun k x hx => by obtain ⟨⟨c, rfl⟩, _⟩ := h.p k x hx; rfl
  | 2, _ =>
    cases (show some _ = some o from hb)
    intro i hi
    match i, hi with
    | 0, _ => rfl
    | 1, _ => rfl
    | 2, _ => rfl
    | 3, _ => rfl
  | 3, _ => cases (show some _ = some o from hb); exact fun i _ => by rw [(h.r i).1]; exact bd_z 8 _
  | 4, _ => cases (show some _ = some o from hb); exact h.s
  | 5, _ => cases (show some _ = some o from hb); exact h.c
  | 6, _ =>
    cases (show some _ = some o from hb)
    intro i hi
    match i, hi with
    | 0, _ => rfl
    | 1, _ => rfl
    | 2, _ => rfl
    | 3, _ => rfl
  | 7, _ => cases (show Option.none = some o from hb)

theorem hT_hi (a a' f1 f2 f3 f4 f5 f6 f7 : PT AO) (b : Nat) (hb : 8 ≤ b) : (hT a f1 f2 f3 f4 f5 f6 f7).get b = (hT a' f1 f2 f3 f4 f5 f6 f7).get b := by
  show (if b < 262144 then PT.getL 6 (hT a f1 f2 f3 f4 f5 f6 f7) b else none) = (if b < 262144 then PT.getL 6 (hT a' f1 f2 f3 f4 f5 f6 f7) b else none)
  by_cases h2 : b < 262144
  · rw [if_pos h2, if_pos h2]
    unfold hT
    rw [PT.getL_n1, PT.getL_n1, PT.getL_n1, PT.getL_n1, PT.getL_n1, PT.getL_n1, PT.getL_n1, PT.getL_n1]
    split
    · split
      · split
        · split
          · rename_i q2 q3 q4 q5
            rw [PT.getL, PT.getL]
            cases hd : dg 1 b <;> first
              | rfl
              | (exfalso
                 refine absurd ((lt8 h2).2 fun l hl hl' => ?_) (by omega)
                 match l, hl, hl' with
                 | 1, _, _ => exact hd
                 | 2, _, _ => exact q5
                 | 3, _, _ => exact q4
                 | 4, _, _ => exact q3
                 | 5, _, _ => exact q2)
          · rfl
        · rfl
      · rfl
    · rfl
  · rw [if_neg h2, if_neg h2]
theorem hT_lo (a f1 f2 f3 f4 f5 f6 f7 g1 g2 g3 g4 g5 g6 g7 : PT AO) (b : Nat) (hb : b < 8) : (hT a f1 f2 f3 f4 f5 f6 f7).get b = (hT a g1 g2 g3 g4 g5 g6 g7).get b := by
  match b, hb with
  | 0, _ => rfl
  | 1, _ => rfl
  | 2, _ => rfl
  | 3, _ => rfl
  | 4, _ => rfl
  | 5, _ => rfl
  | 6, _ => rfl
  | 7, _ => rfl

section
variable {P : Program}

/-- What a call comes to in the world alone, it comes to where more is known. -/
theorem CSem.onK {f : Nat} {l v : AV} {W W' : Wd} (c : CSem P f l (hK0 W) v (hK0 W')) (h : W.ok) (hl : bd 8 l = true) (f1 f2 f3 f4 f5 f6 f7 : PT AO) (nx : Nat) (hn : 8 ≤ nx) :
    CSem P f l (hK W f1 f2 f3 f4 f5 f6 f7 nx) v (hK W' f1 f2 f3 f4 f5 f6 f7 nx) :=
  CSem.frame c rfl hn rfl hl (fun b hb => hT_lo _ _ _ _ _ _ _ _ _ _ _ _ _ _ _ b hb) (fun b hb => hT_lo _ _ _ _ _ _ _ _ _ _ _ _ _ _ _ b hb) (fun b hb => hT_hi _ _ _ _ _ _ _ _ _ b hb) (kN_bd h)
/-- The end of a walk from the world alone. -/
theorem ren_K {W : Wd} {h1 : H} (h : W.ok) (hg : ∀ b, b < 8 → h1.t.get b = (hK0 W).t.get b) : Ren 8 (fun b => b) h1 (hK0 W) :=
  ⟨Nat.le_refl _, fun _ _ => rfl, fun b o hb => (kN_bd h b o hb).1, fun b o hb => ⟨o, by rw [hg b (kN_bd h b o hb).1]; exact hb, (kN_bd h b o hb).2.orn⟩, fun _ _ _ _ _ _ e => e⟩
theorem good_onK {M : Mac} [hM : IsM P M] {f : Nat} {l v : AV} {W W' : Wd} {f1 f2 f3 f4 f5 f6 f7 : PT AO} {nx : Nat} {k : AV → H → Res} (c : CSem P f l (hK0 W) v (hK0 W')) (h : W.ok) (hl : bd 8 l = true) (hn : 8 ≤ nx)
    (hk : (k v (hK W' f1 f2 f3 f4 f5 f6 f7 nx)).good) : (M.ck f l (hK W f1 f2 f3 f4 f5 f6 f7 nx) k).good := good_call (c.onK h hl _ _ _ _ _ _ _ _ hn) hk
theorem all8 {p : Nat → Prop} (h0 : p 0) (h1 : p 1) (h2 : p 2) (h3 : p 3) (h4 : p 4) (h5 : p 5) (h6 : p 6) (h7 : p 7) : ∀ b, b < 8 → p b := fun b hb => by
  match b, hb with
  | 0, _ => exact h0
  | 1, _ => exact h1
  | 2, _ => exact h2
  | 3, _ => exact h3
  | 4, _ => exact h4
  | 5, _ => exact h5
  | 6, _ => exact h6
  | 7, _ => exact h7

theorem nil_get (b : Nat) : (H.mk PT.nil 0).t.get b = none := PT.get_nil b
/-- What a call comes to where nothing is known, and nothing of the heap is asked. -/
theorem CSem.pure {f : Nat} {l v : AV} (c : CSem P f l ⟨.nil, 0⟩ v ⟨.nil, 0⟩) (hl : bd 0 l = true) (h : H) : CSem P f l h v h :=
  CSem.frame c rfl (Nat.zero_le _) rfl hl (fun b hb => absurd hb (Nat.not_lt_zero b)) (fun b hb => absurd hb (Nat.not_lt_zero b)) (fun _ _ => rfl) (fun b o hb => by rw [nil_get] at hb; cases hb)
theorem ren_0 (ρ : Nat → Nat) (h1 : H) : Ren 0 ρ h1 ⟨.nil, 0⟩ :=
  ⟨Nat.le_refl _, fun b hb => absurd hb (Nat.not_lt_zero b), fun b o hb => (by rw [nil_get] at hb; cases hb),
    fun b o hb => (by rw [nil_get] at hb; cases hb), fun b o b' o' hb => (by rw [nil_get] at hb; cases hb)⟩
end
end
end Go.Ev
namespace Go.Ev
open Go.Proofs
set_option maxRecDepth 100000
attribute [local irreducible] zAV

section
variable {M : Mac} [hM : IsM Tryz.prog M] {h : H} {k : AV → H → Res} {x y x2 : AV} {z a b : Int}

theorem bdz (x : AV) {z : Int} [hx : IsZ x z] (n : Nat) : bd n x = true := by rw [hx.eq]; exact bd_z n z
theorem and3 {a b c : Bool} (h1 : a = true) (h2 : b = true) (h3 : c = true) : (a && (b && (c && true))) = true := by rw [h1, h2, h3]; rfl
theorem and2 {a b : Bool} (h1 : a = true) (h2 : b = true) : (a && (b && true)) = true := by rw [h1, h2]; rfl
theorem and1 {a : Bool} (h1 : a = true) : (a && true) = true := by rw [h1]; rfl
theorem end0 {v v1 : AV} {h1 : H} {K : AV → H → Res} (hK : ∀ ρ v1 h1, Ren (H.mk .nil 0).nx ρ h1 ⟨.nil, 0⟩ → VLe ρ (H.mk .nil 0).nx v v1 → (K v1 h1).good) (hv : v1 = v) (hb : bd 0 v = true) : (K v1 h1).good := hK (fun b => b) v1 h1 (ren_0 _ _) (.inr ⟨by rw [rn_id]; exact hv, hb⟩)

theorem cs88 (z a b : Int) (t : Bool) (ht : t = decide (a ≤ z ∧ z ≤ b)) : CSem Tryz.prog 88 (.cons (zAV z) (.cons (zAV a) (.cons (zAV b) .nil))) ⟨.nil, 0⟩ (.b t) ⟨.nil, 0⟩ := by
  refine csem_u mix c88 fun M _ K hK => ?_
  repeat' (conv => arg 1; whnf
           first | (refine bin_leq ?_ ?_ <;> intro _ <;> try (exfalso; omega)) | (refine bin_geq ?_ ?_ <;> intro _ <;> try (exfalso; omega)))
  all_goals refine end0 hK ?_ rfl
  all_goals (subst ht; congr 1; symm; first | (apply decide_eq_true; omega) | (apply decide_eq_false; omega))
theorem good88 [hx : IsZ x z] [ha : IsZ y a] [hb : IsZ x2 b] (h1 : a ≤ z → z ≤ b → (k (.b true) h).good) (h0 : (z < a ∨ b < z) → (k (.b false) h).good) : (M.ck 88 (.cons x (.cons y (.cons x2 .nil))) h k).good := by
  obtain rfl := hx.eq; obtain rfl := ha.eq; obtain rfl := hb.eq
  by_cases q : a ≤ z ∧ z ≤ b
  · exact good_call ((cs88 z a b true (by simp [q])).pure (and3 (bd_z _ _) (bd_z _ _) (bd_z _ _)) h) (h1 q.1 q.2)
  · exact good_call ((cs88 z a b false (by simp [q])).pure (and3 (bd_z _ _) (bd_z _ _) (bd_z _ _)) h) (h0 (by omega))

/-- Is a word a pointer? A small integer? -/
def isPtr (z : Int) : Prop := z % 2 = 0 ∧ 3 ≤ z / 2 ∧ z / 2 ≤ 131072
def isSm (z : Int) : Prop := z % 2 = 1 ∧ -1073741824 ≤ z / 2 ∧ z / 2 ≤ 1073741823
instance (z : Int) : Decidable (isPtr z) := inferInstanceAs (Decidable (_ ∧ _))
instance (z : Int) : Decidable (isSm z) := inferInstanceAs (Decidable (_ ∧ _))
/-- Within a word of the machine. -/
def i64 (z : Int) : Prop := -9223372036854775808 ≤ z ∧ z ≤ 9223372036854775807

theorem p_zAV {m : Nat} {r : Int} (h : r = m) : AV.p m = zAV r := by rw [h]; exact (zAV_nat m).symm
theorem z_zAV {a b : Int} (h : a = b) : zAV a = zAV b := by rw [h]

theorem cs65 (z : Int) (t : Bool) (ht : t = decide (isPtr z)) : CSem Tryz.prog 65 (.cons (zAV z) .nil) ⟨.nil, 0⟩ (.b t) ⟨.nil, 0⟩ := by
  refine csem_u mix c65 fun M _ K hK => ?_
  repeat' (conv => arg 1; whnf
           first | refine bin_and 1 (by omega) rfl ?_ | refine bin_shr 1 (by omega) rfl ?_ | (refine good88 ?_ ?_ <;> intros <;> try (exfalso; omega)) | (refine bin_eql ?_ ?_ <;> intro _ <;> try (exfalso; omega)))
  all_goals refine end0 hK ?_ rfl
  all_goals (subst ht; congr 1; unfold isPtr; symm; first | (apply decide_eq_true; omega) | (apply decide_eq_false; omega))
theorem good65 [hx : IsZ x z] (h1 : z % 2 = 0 → 3 ≤ z / 2 → z / 2 ≤ 131072 → (k (.b true) h).good) (h0 : ¬ isPtr z → (k (.b false) h).good) : (M.ck 65 (.cons x .nil) h k).good := by
  obtain rfl := hx.eq
  by_cases q : isPtr z
  · exact good_call ((cs65 z true (by simp [q])).pure (and1 (bd_z _ _)) h) (h1 q.1 q.2.1 q.2.2)
  · exact good_call ((cs65 z false (by simp [q])).pure (and1 (bd_z _ _)) h) (h0 q)

theorem cs48 (z : Int) (t : Bool) (ht : t = decide (isSm z)) : CSem Tryz.prog 48 (.cons (zAV z) .nil) ⟨.nil, 0⟩ (.b t) ⟨.nil, 0⟩ := by
  refine csem_u mix c48 fun M _ K hK => ?_
  repeat' (conv => arg 1; whnf
           first | refine bin_and 1 (by omega) rfl ?_ | refine bin_shr 1 (by omega) rfl ?_ | (refine good88 ?_ ?_ <;> intros <;> try (exfalso; omega)) | (refine bin_eql ?_ ?_ <;> intro _ <;> try (exfalso; omega)))
  all_goals refine end0 hK ?_ rfl
  all_goals (subst ht; congr 1; unfold isSm; symm; first | (apply decide_eq_true; omega) | (apply decide_eq_false; omega))
theorem good48 [hx : IsZ x z] (h1 : isSm z → (k (.b true) h).good) (h0 : ¬ isSm z → (k (.b false) h).good) : (M.ck 48 (.cons x .nil) h k).good := by
  obtain rfl := hx.eq
  by_cases q : isSm z
  · exact good_call ((cs48 z true (by simp [q])).pure (and1 (bd_z _ _)) h) (h1 q)
  · exact good_call ((cs48 z false (by simp [q])).pure (and1 (bd_z _ _)) h) (h0 q)

/-- A word's small integer. -/
def smv (z : Int) : Int := if isSm z then z / 2 else 0
theorem cs49 (z : Int) : CSem Tryz.prog 49 (.cons (zAV z) .nil) ⟨.nil, 0⟩ (zAV (smv z)) ⟨.nil, 0⟩ := by
  refine csem_u mix c49 fun M _ K hK => ?_
  repeat' (conv => arg 1; whnf
           first | refine bin_shr 1 (by omega) rfl ?_ | (refine good48 ?_ ?_ <;> intros))
  · rename_i q; exact end0 hK (z_zAV (by unfold smv; rw [if_pos q]; omega)) (bd_z _ _)
  · rename_i q; exact end0 hK (p_zAV (by unfold smv; rw [if_neg q]; rfl)) (bd_z _ _)
theorem good49 [hx : IsZ x z] (h1 : (k (zAV (smv z)) h).good) : (M.ck 49 (.cons x .nil) h k).good := by
  obtain rfl := hx.eq
  exact good_call ((cs49 z).pure (and1 (bd_z _ _)) h) h1

/-- A pointer's address. -/
def adr (z : Int) : Int := if isPtr z then z / 2 else 0
theorem cs66 (z : Int) : CSem Tryz.prog 66 (.cons (zAV z) .nil) ⟨.nil, 0⟩ (zAV (adr z)) ⟨.nil, 0⟩ := by
  refine csem_u mix c66 fun M _ K hK => ?_
  repeat' (conv => arg 1; whnf
           first | refine bin_shr 1 (by omega) rfl ?_ | (refine good65 ?_ ?_ <;> intros))
  · exact end0 hK (z_zAV (by unfold adr; rw [if_pos ⟨by omega, by omega, by omega⟩]; omega)) (bd_z _ _)
  · rename_i q; exact end0 hK (p_zAV (by unfold adr; rw [if_neg q]; rfl)) (bd_z _ _)
theorem good66 [hx : IsZ x z] (h1 : (k (zAV (adr z)) h).good) : (M.ck 66 (.cons x .nil) h k).good := by
  obtain rfl := hx.eq
  exact good_call ((cs66 z).pure (and1 (bd_z _ _)) h) h1

theorem good66p [hx : IsZ x z] (q0 : z % 2 = 0) (q1 : 3 ≤ z / 2) (q2 : z / 2 ≤ 131072) (h1 : (k (zAV (z / 2)) h).good) : (M.ck 66 (.cons x .nil) h k).good := by
  refine good66 ?_
  rw [show adr z = z / 2 from if_pos ⟨q0, q1, q2⟩]
  exact h1

theorem cs81y (z : Int) (h0 : -1073741824 ≤ z) (h1 : z ≤ 1073741823) : CSem Tryz.prog 81 (.cons (zAV z) .nil) ⟨.nil, 0⟩ (.tu (.cons (zAV (2 * z + 1)) (.cons (.b true) .nil))) ⟨.nil, 0⟩ := by
  refine csem_u mix c81 fun M _ K hK => ?_
  repeat' (conv => arg 1; whnf
           first | refine bin_shl 1 (by omega) rfl (by omega) (by omega) ?_ | refine bin_or 1 (by omega) (by omega) (by omega) (by omega) (by omega) (by omega) ?_ | (refine good88 ?_ ?_ <;> intros <;> try (exfalso; omega)))
  exact end0 hK (by rw [show z * 2 ^ 1 + ((1 : Nat) : Int) = 2 * z + 1 by omega]) (Bool.and_eq_true_iff.2 ⟨bd_z _ _, rfl⟩)
theorem cs81n (z : Int) (h0 : z < -1073741824 ∨ 1073741823 < z) : CSem Tryz.prog 81 (.cons (zAV z) .nil) ⟨.nil, 0⟩ (.tu (.cons (.p 0) (.cons (.b false) .nil))) ⟨.nil, 0⟩ := by
  refine csem_u mix c81 fun M _ K hK => ?_
  repeat' (conv => arg 1; whnf
           first | (refine good88 ?_ ?_ <;> intros <;> try (exfalso; omega)))
  exact end0 hK rfl rfl
theorem good81 [hx : IsZ x z] (h1 : -1073741824 ≤ z → z ≤ 1073741823 → (k (.tu (.cons (zAV (2 * z + 1)) (.cons (.b true) .nil))) h).good)
    (h0 : (z < -1073741824 ∨ 1073741823 < z) → (k (.tu (.cons (.p 0) (.cons (.b false) .nil))) h).good) : (M.ck 81 (.cons x .nil) h k).good := by
  obtain rfl := hx.eq
  by_cases q : -1073741824 ≤ z ∧ z ≤ 1073741823
  · exact good_call ((cs81y z q.1 q.2).pure (and1 (bd_z _ _)) h) (h1 q.1 q.2)
  · exact good_call ((cs81n z (by omega)).pure (and1 (bd_z _ _)) h) (h0 (by omega))
theorem cs71 (z : Int) (h0 : -1073741824 ≤ z) (h1 : z ≤ 1073741823) : CSem Tryz.prog 71 (.cons (zAV z) .nil) ⟨.nil, 0⟩ (zAV (2 * z + 1)) ⟨.nil, 0⟩ := by
  refine csem_u mix c71 fun M _ K hK => ?_
  repeat' (conv => arg 1; whnf
           first | (refine good81 ?_ ?_ <;> intros <;> try (exfalso; omega)))
  exact end0 hK rfl (bd_z _ _)

theorem cs87 (z : Int) (h0 : 3 ≤ z) (h1 : z ≤ 131072) : CSem Tryz.prog 87 (.cons (zAV z) .nil) ⟨.nil, 0⟩ (.tu (.cons (zAV (2 * z)) (.cons (.b true) .nil))) ⟨.nil, 0⟩ := by
  refine csem_u mix c87 fun M _ K hK => ?_
  repeat' (conv => arg 1; whnf
           first | refine bin_shl 1 (by omega) rfl (by omega) (by omega) ?_ | (refine good88 ?_ ?_ <;> intros <;> try (exfalso; omega)))
  exact end0 hK (by rw [show z * 2 ^ 1 = 2 * z by omega]) (Bool.and_eq_true_iff.2 ⟨bd_z _ _, rfl⟩)
theorem good87 [hx : IsZ x z] (h0 : 3 ≤ z) (h1 : z ≤ 131072) (hk : (k (.tu (.cons (zAV (2 * z)) (.cons (.b true) .nil))) h).good) : (M.ck 87 (.cons x .nil) h k).good := by
  obtain rfl := hx.eq
  exact good_call ((cs87 z h0 h1).pure (and1 (bd_z _ _)) h) hk
end

/-! ### The memory -/

section
variable {M : Mac} [hM : IsM Tryz.prog M] {W : Wd} {z : Int} {k : AV → H → Res} {x y : AV}

/-- Does a word point to an object? Its address, or 0. -/
def Wd.isO (W : Wd) (z : Int) : Prop := isPtr z ∧ W.has (z / 2).toNat = true
noncomputable instance (W : Wd) (z : Int) : Decidable (W.isO z) := inferInstanceAs (Decidable (_ ∧ _))
noncomputable def Wd.at' (W : Wd) (z : Int) : Int := if W.isO z then z / 2 else 0
/-- Its class, its format, how many fields. -/
noncomputable def Wd.cls (W : Wd) (z : Int) : Int := W.wd (W.at' z + 1).toNat
noncomputable def Wd.fmt (W : Wd) (z : Int) : Int := W.wd (W.at' z).toNat % 4
noncomputable def Wd.fds (W : Wd) (z : Int) : Int := W.wd (W.at' z).toNat / 4

theorem Wd.ok.has (hW : W.ok) {a : Nat} (h : W.has a = true) : (∃ c, W.pt.get a = some (.tu (.cons (.b true) (.cons (.p c) .nil)))) ∧ 3 ≤ a ∧ 0 ≤ W.wd a / 4 ∧ a + 3 + W.wd a / 4 ≤ W.en := by
  obtain ⟨x, hx⟩ := Option.isSome_iff_exists.1 (show (W.pt.get a).isSome = true from h)
  obtain ⟨⟨c, rfl⟩, h1⟩ := hW.p a x hx
  exact ⟨⟨c, hx⟩, h1⟩
theorem good_has (hW : W.ok) {a : Nat} {k : AV → Res} {f : Res} (h1 : W.has a = true → ∀ c, (k (.tu (.cons (.b true) (.cons (.p c) .nil)))).good) (h0 : W.has a = false → f.good) : (M.ga W.pt a k f).good := by
  cases hb : W.has a with
  | true => obtain ⟨⟨c, hc⟩, _⟩ := hW.has hb; exact good_ga hc (h1 hb c)
  | false => exact good_none (Option.not_isSome_iff_eq_none.1 (by rw [show (W.pt.get a).isSome = false from hb]; simp)) (h0 hb)
theorem good_word (hW : W.ok) {i : Nat} {k : AV → Res} (hk : (k (zAV (W.wd i))).good) : (M.ga W.wt i k (k (.p 0))).good := by
  have := (hW.w i).1
  cases hg : W.wt.get i with
  | none => rw [hg] at this; exact good_none hg (by rw [show AV.p 0 = zAV (W.wd i) from this]; exact hk)
  | some v => rw [hg] at this; exact good_ga hg (by rw [show v = zAV (W.wd i) from this]; exact hk)
theorem good_root (hW : W.ok) {i : Nat} {k : AV → Res} (hk : (k (zAV (W.ro i))).good) : (M.ga W.rt i k (k (.p 0))).good := by
  have := (hW.r i).1
  cases hg : W.rt.get i with
  | none => rw [hg] at this; exact good_none hg (by rw [show AV.p 0 = zAV (W.ro i) from this]; exact hk)
  | some v => rw [hg] at this; exact good_ga hg (by rw [show v = zAV (W.ro i) from this]; exact hk)

theorem endK {W0 : Wd} {v v1 : AV} {h1 : H} {K : AV → H → Res} (hK : ∀ ρ v1 h1, Ren (hK0 W0).nx ρ h1 (hK0 W) → VLe ρ (hK0 W).nx v v1 → (K v1 h1).good) (hW : W.ok) (hg : ∀ b, b < 8 → h1.t.get b = (hK0 W).t.get b) (hv : v1 = v) (hb : bd 8 v = true) : (K v1 h1).good := hK (fun b => b) v1 h1 (ren_K hW hg) (.inr ⟨by rw [rn_id]; exact hv, hb⟩)
theorem same8 {f1 f2 f3 f4 f5 f6 f7 : PT AO} {nx : Nat} (b : Nat) (hb : b < 8) : (hK W f1 f2 f3 f4 f5 f6 f7 nx).t.get b = (hK0 W).t.get b := hT_lo _ _ _ _ _ _ _ _ _ _ _ _ _ _ _ b hb

theorem cs31 (hW : W.ok) (z : Int) (t : Bool) (ht : t = decide (W.isO z)) : CSem Tryz.prog 31 (.cons (.pt 2 0) (.cons (zAV z) .nil)) (hK0 W) (.b t) (hK0 W) := by
  refine csem_u mix c31 fun M _ K hK => ?_
  repeat' (conv => arg 1; whnf
           first | (refine good65 ?_ ?_ <;> intros) | refine good66p (by omega) (by omega) (by omega) ?_ | (refine good_has hW ?_ ?_ <;> intros) | refine good_go rfl ?_ | refine good_ga rfl ?_ | refine good_isP (by omega) ?_ | refine good_f0 ?_ | refine good_same ?_)
  all_goals refine endK hK hW same8 ?_ rfl
  all_goals (subst ht; congr 1; symm)
  · exact decide_eq_true ⟨⟨by omega, by omega, by omega⟩, by assumption⟩
  · exact decide_eq_false fun q => by rename_i q2; rw [q.2] at q2; cases q2
  · exact decide_eq_false fun q => by rename_i q2; exact q2 q.1
theorem bd2 (z : Int) : bd 8 (.cons (.pt 2 0) (.cons (zAV z) .nil)) = true := by
  show (true && (bd 8 (zAV z) && true)) = true
  rw [bd_z]; rfl
theorem bd3 (z y : Int) : bd 8 (.cons (.pt 2 0) (.cons (zAV z) (.cons (zAV y) .nil))) = true := by
  show (true && (bd 8 (zAV z) && (bd 8 (zAV y) && true))) = true
  rw [bd_z, bd_z]; rfl
theorem bd4 (z y x : Int) : bd 8 (.cons (.pt 2 0) (.cons (zAV z) (.cons (zAV y) (.cons (zAV x) .nil)))) = true := by
  show (true && (bd 8 (zAV z) && (bd 8 (zAV y) && (bd 8 (zAV x) && true)))) = true
  rw [bd_z, bd_z, bd_z]; rfl
theorem at_in (hW : W.ok) (z : Int) : 0 ≤ W.at' z ∧ W.at' z + 3 ≤ W.sz ∧ W.sz ≤ 131072 := by
  have := hW.e
  unfold Wd.at'
  split
  · rename_i q
    have := hW.has q.2
    have := q.1.2
    omega
  · omega
theorem Wd.isO.in (hW : W.ok) (q : W.isO z) : W.at' z = z / 2 ∧ 3 ≤ W.at' z ∧ 0 ≤ W.fds z ∧ W.at' z + 3 + W.fds z ≤ W.en ∧ W.en ≤ W.sz ∧ W.sz ≤ 131072 := by
  have := hW.e
  have h1 : W.at' z = z / 2 := if_pos q
  have h2 := hW.has q.2
  have h3 := q.1.2
  unfold Wd.fds
  rw [h1]
  omega
theorem Wd.isO.out (hW : W.ok) (q : ¬ W.isO z) : W.at' z = 0 ∧ W.fds z = 0 := by
  have h1 : W.at' z = 0 := if_neg q
  refine ⟨h1, ?_⟩
  unfold Wd.fds
  rw [h1, show (0 : Int).toNat = 0 from rfl, hW.z]; rfl
theorem fds_nn (hW : W.ok) (z : Int) : 0 ≤ W.fds z ∧ W.fds z ≤ 256 := by
  by_cases q : W.isO z
  · have h1 := q.in hW
    have h2 := hW.q _ q.2
    have h3 : W.fds z = W.wd (z / 2).toNat / 4 := by unfold Wd.fds; rw [h1.1]
    omega
  · have := Wd.isO.out hW q; omega

section
variable {f1 f2 f3 f4 f5 f6 f7 : PT AO} {nx : Nat} {i : Int}
theorem good31 (hW : W.ok) (hn : 8 ≤ nx) [hx : IsZ x z] (h1 : W.isO z → (k (.b true) (hK W f1 f2 f3 f4 f5 f6 f7 nx)).good) (h0 : ¬ W.isO z → (k (.b false) (hK W f1 f2 f3 f4 f5 f6 f7 nx)).good) :
    (M.ck 31 (.cons (.pt 2 0) (.cons x .nil)) (hK W f1 f2 f3 f4 f5 f6 f7 nx) k).good := by
  obtain rfl := hx.eq
  by_cases q : W.isO z
  · exact good_onK (cs31 hW z true (by simp [q])) hW (bd2 z) hn (h1 q)
  · exact good_onK (cs31 hW z false (by simp [q])) hW (bd2 z) hn (h0 q)

theorem cs63 (hW : W.ok) (z : Int) : CSem Tryz.prog 63 (.cons (.pt 2 0) (.cons (zAV z) .nil)) (hK0 W) (zAV (W.at' z)) (hK0 W) := by
  refine csem_u mix c63 fun M _ K hK => ?_
  repeat' (conv => arg 1; whnf
           first | (refine good31 hW (by decide) ?_ ?_ <;> intro q) | refine good66p q.1.1 q.1.2.1 q.1.2.2 ?_)
  · exact endK hK hW same8 (z_zAV (by unfold Wd.at'; rw [if_pos q])) (bd_z _ _)
  · exact endK hK hW same8 (p_zAV (by unfold Wd.at'; rw [if_neg q]; rfl)) (bd_z _ _)
theorem good63 (hW : W.ok) (hn : 8 ≤ nx) [hx : IsZ x z] (h1 : (k (zAV (W.at' z)) (hK W f1 f2 f3 f4 f5 f6 f7 nx)).good) : (M.ck 63 (.cons (.pt 2 0) (.cons x .nil)) (hK W f1 f2 f3 f4 f5 f6 f7 nx) k).good := by
  obtain rfl := hx.eq
  exact good_onK (cs63 hW z) hW (bd2 z) hn h1

theorem cs50 (hW : W.ok) (z : Int) : CSem Tryz.prog 50 (.cons (.pt 2 0) (.cons (zAV z) .nil)) (hK0 W) (zAV (W.cls z)) (hK0 W) := by
  have := at_in hW z
  refine csem_u mix c50 fun M _ K hK => ?_
  repeat' (conv => arg 1; whnf
           first | refine good63 hW (by decide) ?_ | refine good_word hW ?_ | refine bin_add (by omega) (by omega) ?_ | refine good_go rfl ?_ | refine good_ga rfl ?_ | refine good_idx (by omega) ?_ | refine good_f01 ?_ | refine good_f0 ?_ | refine good_lt (by omega) ?_ | refine good_same ?_)
  exact endK hK hW same8 rfl (bd_z _ _)
theorem good50 (hW : W.ok) (hn : 8 ≤ nx) [hx : IsZ x z] (h1 : (k (zAV (W.cls z)) (hK W f1 f2 f3 f4 f5 f6 f7 nx)).good) : (M.ck 50 (.cons (.pt 2 0) (.cons x .nil)) (hK W f1 f2 f3 f4 f5 f6 f7 nx) k).good := by
  obtain rfl := hx.eq
  exact good_onK (cs50 hW z) hW (bd2 z) hn h1

theorem cs38 (hW : W.ok) (z : Int) : CSem Tryz.prog 38 (.cons (.pt 2 0) (.cons (zAV z) .nil)) (hK0 W) (zAV (W.fmt z)) (hK0 W) := by
  have := at_in hW z
  refine csem_u mix c38 fun M _ K hK => ?_
  repeat' (conv => arg 1; whnf
           first | refine good63 hW (by decide) ?_ | refine good_word hW ?_ | refine bin_and 2 (by omega) rfl ?_ | refine good_go rfl ?_ | refine good_ga rfl ?_ | refine good_idx (by omega) ?_ | refine good_f01 ?_ | refine good_f0 ?_ | refine good_lt (by omega) ?_ | refine good_same ?_)
  exact endK hK hW same8 (z_zAV (by unfold Wd.fmt; omega)) (bd_z _ _)
theorem good38 (hW : W.ok) (hn : 8 ≤ nx) [hx : IsZ x z] (h1 : 0 ≤ W.fmt z → W.fmt z ≤ 3 → (k (zAV (W.fmt z)) (hK W f1 f2 f3 f4 f5 f6 f7 nx)).good) : (M.ck 38 (.cons (.pt 2 0) (.cons x .nil)) (hK W f1 f2 f3 f4 f5 f6 f7 nx) k).good := by
  obtain rfl := hx.eq
  exact good_onK (cs38 hW z) hW (bd2 z) hn (h1 (by unfold Wd.fmt; omega) (by unfold Wd.fmt; omega))

theorem cs27 (hW : W.ok) (z : Int) : CSem Tryz.prog 27 (.cons (.pt 2 0) (.cons (zAV z) .nil)) (hK0 W) (zAV (W.fds z)) (hK0 W) := by
  have := at_in hW z
  refine csem_u mix c27 fun M _ K hK => ?_
  repeat' (conv => arg 1; whnf
           first | refine good63 hW (by decide) ?_ | refine good_word hW ?_ | refine bin_shr 2 (by omega) rfl ?_ | refine good_go rfl ?_ | refine good_ga rfl ?_ | refine good_idx (by omega) ?_ | refine good_f01 ?_ | refine good_f0 ?_ | refine good_lt (by omega) ?_ | refine good_same ?_)
  exact endK hK hW same8 (z_zAV (by unfold Wd.fds; omega)) (bd_z _ _)
theorem good27 (hW : W.ok) (hn : 8 ≤ nx) [hx : IsZ x z] (h1 : 0 ≤ W.fds z → W.fds z ≤ 256 → (k (zAV (W.fds z)) (hK W f1 f2 f3 f4 f5 f6 f7 nx)).good) : (M.ck 27 (.cons (.pt 2 0) (.cons x .nil)) (hK W f1 f2 f3 f4 f5 f6 f7 nx) k).good := by
  obtain rfl := hx.eq
  exact good_onK (cs27 hW z) hW (bd2 z) hn (h1 (fds_nn hW z).1 (fds_nn hW z).2)

/-- A pair of two numbers. -/
def pr (a b : Int) : AV := .tu (.cons (zAV a) (.cons (zAV b) .nil))
theorem bd_pr (n : Nat) (a b : Int) : bd n (pr a b) = true := by
  show (bd n (zAV a) && (bd n (zAV b) && true)) = true
  rw [bd_z, bd_z]; rfl
theorem pr_eq {x y : AV} {a b c d : Int} [hx : IsZ x a] [hy : IsZ y b] (h1 : a = c) (h2 : b = d) : AV.tu (.cons x (.cons y .nil)) = pr c d := by
  rw [hx.eq, hy.eq, h1, h2]; rfl
/-- The address of a field, and what is wrong. -/
noncomputable def Wd.fadr (W : Wd) (z i : Int) : Int := if W.isO z ∧ 0 ≤ i ∧ i < W.fds z then W.at' z + 3 + i else 0
noncomputable def Wd.ferr (W : Wd) (z i : Int) : Int := if W.isO z then (if 0 ≤ i ∧ i < W.fds z then 0 else 5) else 1
theorem cs64 (hW : W.ok) (z i : Int) : CSem Tryz.prog 64 (.cons (.pt 2 0) (.cons (zAV z) (.cons (zAV i) .nil))) (hK0 W) (pr (W.fadr z i) (W.ferr z i)) (hK0 W) := by
  have h1 := at_in hW z
  by_cases q : W.isO z
  · have h2 := q.in hW
    refine csem_u mix c64 fun M _ K hK => ?_
    repeat' (conv => arg 1; whnf
             first | refine good63 hW (by decide) ?_ | refine good27 hW (by decide) fun _ _ => ?_ | (refine bin_eql ?_ ?_ <;> intro _ <;> try (exfalso; omega)) | (refine bin_lss ?_ ?_ <;> intro _ <;> try (exfalso; omega)) | (refine bin_geq ?_ ?_ <;> intro _ <;> try (exfalso; omega)) | refine bin_add (by omega) (by omega) ?_)
    all_goals refine endK hK hW same8 (pr_eq ?_ ?_) (bd_pr _ _ _)
    all_goals first
      | (unfold Wd.fadr; first | (rw [if_pos ⟨q, by omega, by omega⟩]; omega) | (rw [if_neg (fun h => by omega)]; omega))
      | (unfold Wd.ferr; rw [if_pos q]; first | (rw [if_pos ⟨by omega, by omega⟩]; rfl) | (rw [if_neg (fun h => by omega)]; rfl))
  · have h2 := Wd.isO.out hW q
    refine csem_u mix c64 fun M _ K hK => ?_
    repeat' (conv => arg 1; whnf
             first | refine good63 hW (by decide) ?_ | (refine bin_eql ?_ ?_ <;> intro _ <;> try (exfalso; omega)))
    refine endK hK hW same8 (pr_eq ?_ ?_) (bd_pr _ _ _)
    · unfold Wd.fadr; rw [if_neg (fun h => q h.1)]; rfl
    · unfold Wd.ferr; rw [if_neg q]; rfl
theorem good64 (hW : W.ok) (hn : 8 ≤ nx) [hx : IsZ x z] [hy : IsZ y i] (h0 : ¬ W.isO z → (k (pr 0 1) (hK W f1 f2 f3 f4 f5 f6 f7 nx)).good)
    (h1 : W.isO z → (i < 0 ∨ W.fds z ≤ i) → (k (pr 0 5) (hK W f1 f2 f3 f4 f5 f6 f7 nx)).good)
    (h2 : W.isO z → 0 ≤ i → i < W.fds z → (k (pr (W.at' z + 3 + i) 0) (hK W f1 f2 f3 f4 f5 f6 f7 nx)).good) : (M.ck 64 (.cons (.pt 2 0) (.cons x (.cons y .nil))) (hK W f1 f2 f3 f4 f5 f6 f7 nx) k).good := by
  obtain rfl := hx.eq; obtain rfl := hy.eq
  refine good_onK (cs64 hW z i) hW (bd3 z i) hn ?_
  unfold Wd.fadr Wd.ferr
  by_cases q : W.isO z
  · rw [if_pos q]
    by_cases q2 : 0 ≤ i ∧ i < W.fds z
    · rw [if_pos ⟨q, q2⟩, if_pos q2]; exact h2 q q2.1 q2.2
    · rw [if_neg (fun h => q2 h.2), if_neg q2]; exact h1 q (by omega)
  · rw [if_neg (fun h => q h.1), if_neg q]; exact h0 q
/-- A field's word. -/
noncomputable def Wd.fld (W : Wd) (z i : Int) : Int := W.wd (W.at' z + 3 + i).toNat
/-- What a read of a field tells. -/
noncomputable def Wd.get (W : Wd) (z i : Int) : Int := if W.isO z ∧ 0 ≤ i ∧ i < W.fds z then W.fld z i else 0
theorem cs28 (hW : W.ok) (z i : Int) : CSem Tryz.prog 28 (.cons (.pt 2 0) (.cons (zAV z) (.cons (zAV i) .nil))) (hK0 W) (pr (W.get z i) (W.ferr z i)) (hK0 W) := by
  have h1 := at_in hW z
  refine csem_u mix c28 fun M _ K hK => ?_
  repeat' (conv => arg 1; whnf
           first | (refine good64 hW (by decide) ?_ ?_ ?_ <;> intro q <;> (try intro q1) <;> (try intro q2) <;> (try (have h2 := q.in hW))) | refine good_word hW ?_ | (refine bin_neq ?_ ?_ <;> intro _ <;> try (exfalso; omega)) | refine good_go rfl ?_ | refine good_ga rfl ?_ | refine good_idx (by omega) ?_ | refine good_f01 ?_ | refine good_f0 ?_ | refine good_lt (by omega) ?_)
  all_goals refine endK hK hW same8 (pr_eq ?_ ?_) (bd_pr _ _ _)
  all_goals first
    | (unfold Wd.get; first | (rw [if_pos ⟨q, by omega, by omega⟩]; rfl) | (rw [if_neg (fun h => by first | exact q h.1 | omega)]; rfl))
    | (unfold Wd.ferr; first | (rw [if_neg q]; done) | (rw [if_pos q]; first | (rw [if_pos ⟨by omega, by omega⟩]; done) | (rw [if_pos ⟨by omega, by omega⟩]; rfl) | (rw [if_neg (fun h => by omega)]; done) | (rw [if_neg (fun h => by omega)]; rfl)))
theorem good28 (hW : W.ok) (hn : 8 ≤ nx) [hx : IsZ x z] [hy : IsZ y i] (h1 : (k (pr (W.get z i) (W.ferr z i)) (hK W f1 f2 f3 f4 f5 f6 f7 nx)).good) : (M.ck 28 (.cons (.pt 2 0) (.cons x (.cons y .nil))) (hK W f1 f2 f3 f4 f5 f6 f7 nx) k).good := by
  obtain rfl := hx.eq; obtain rfl := hy.eq
  exact good_onK (cs28 hW z i) hW (bd3 z i) hn h1

/-- May a word stand? -/
def Wd.may (W : Wd) (z : Int) : Prop := z = 0 ∨ z = 2 ∨ z = 4 ∨ isSm z ∨ W.isO z
noncomputable instance (W : Wd) (z : Int) : Decidable (W.may z) := inferInstanceAs (Decidable (_ ∨ _))
theorem cs24 (hW : W.ok) (z : Int) (t : Bool) (ht : t = decide (W.may z)) : CSem Tryz.prog 24 (.cons (.pt 2 0) (.cons (zAV z) .nil)) (hK0 W) (.b t) (hK0 W) := by
  refine csem_u mix c24 fun M _ K hK => ?_
  repeat' (conv => arg 1; whnf
           first | (refine good48 ?_ ?_ <;> intro q1) | (refine good31 hW (by decide) ?_ ?_ <;> intro q) | (refine bin_eql ?_ ?_ <;> intro _ <;> try (exfalso; omega)))
  all_goals refine endK hK hW same8 ?_ rfl
  all_goals (subst ht; congr 1; symm; unfold Wd.may)
  all_goals first
    | (apply decide_eq_true; first | exact .inr (.inr (.inr (.inr q))) | exact .inr (.inr (.inr (.inl q1))) | omega)
    | (apply decide_eq_false; rintro (h | h | h | h | h) <;> first | exact q1 h | exact q h | omega)
theorem good24 (hW : W.ok) (hn : 8 ≤ nx) [hx : IsZ x z] (h1 : W.may z → (k (.b true) (hK W f1 f2 f3 f4 f5 f6 f7 nx)).good) (h0 : ¬ W.may z → (k (.b false) (hK W f1 f2 f3 f4 f5 f6 f7 nx)).good) :
    (M.ck 24 (.cons (.pt 2 0) (.cons x .nil)) (hK W f1 f2 f3 f4 f5 f6 f7 nx) k).good := by
  obtain rfl := hx.eq
  by_cases q : W.may z
  · exact good_onK (cs24 hW z true (by simp [q])) hW (bd2 z) hn (h1 q)
  · exact good_onK (cs24 hW z false (by simp [q])) hW (bd2 z) hn (h0 q)
end
end
end Go.Ev
namespace Go.Ev
open Go.Proofs
set_option maxRecDepth 100000
attribute [local irreducible] zAV

section
variable {M : Mac} [hM : IsM Tryz.prog M] {W : Wd} {z i v : Int} {k : AV → H → Res} {x y x2 : AV}

/-! ### A word is written -/

noncomputable def Wd.put (W : Wd) (a : Nat) (v : Int) : Wd := { W with wt := PT.updF W.wt a (some (zAV v)) }
theorem put_wd (W : Wd) (a : Nat) (v : Int) (ha : a < 262144) (j : Nat) : (W.put a v).wd j = if j = a then v else W.wd j := by
  show valZ (((PT.updF W.wt a (some (zAV v))).get j).getD (.p 0)) = _
  rw [PT.upd_get _ _ ha]
  by_cases e : j = a
  · rw [if_pos e, if_pos e]; exact valZ_z v
  · rw [if_neg e, if_neg e]; rfl
/-- An address where a field stands: no object's head is there. -/
def Wd.isF (W : Wd) (a : Nat) : Prop := 3 ≤ a ∧ a < W.en ∧ ∀ b, W.has b = true → a < b ∨ b + 3 ≤ a
theorem isF_of (hW : W.ok) (q : W.isO z) (h0 : 0 ≤ i) (h1 : i < W.fds z) : W.isF (W.at' z + 3 + i).toNat := by
  have h2 := q.in hW
  refine ⟨by omega, by omega, fun b hb => ?_⟩
  have h3 := q.2
  have h4 : W.fds z = W.wd (z / 2).toNat / 4 := by unfold Wd.fds; rw [h2.1]
  rcases (by omega : (z / 2).toNat < b ∨ b = (z / 2).toNat ∨ b < (z / 2).toNat) with h | h | h
  · have := hW.d _ _ h3 hb h; omega
  · omega
  · have := hW.d _ _ hb h3 h
    have := (hW.has hb).2
    omega
theorem put_wd_at (hW : W.ok) {a : Nat} (ha : W.isF a) (v : Int) (y : Int) (j : Int) (hj : j = 0 ∨ j = 1) : (W.put a v).wd (W.at' y + j).toNat = W.wd (W.at' y + j).toNat := by
  have := hW.e
  rw [put_wd W a v (by have := ha.2.1; omega), if_neg]
  intro e
  unfold Wd.at' at e
  split at e
  · rename_i q
    have := ha.2.2 _ q.2
    have := q.1.2
    omega
  · have := ha.1; omega
theorem put_isO (a : Nat) (v y : Int) : (W.put a v).isO y ↔ W.isO y := Iff.rfl
theorem put_at (a : Nat) (v y : Int) : (W.put a v).at' y = W.at' y := rfl
theorem put_may (a : Nat) (v y : Int) : (W.put a v).may y ↔ W.may y := Iff.rfl
theorem put_cls (hW : W.ok) {a : Nat} (ha : W.isF a) (v y : Int) : (W.put a v).cls y = W.cls y := put_wd_at hW ha v y 1 (.inr rfl)
theorem put_head (hW : W.ok) {a : Nat} (ha : W.isF a) (v y : Int) : (W.put a v).wd (W.at' y).toNat = W.wd (W.at' y).toNat := by
  have := put_wd_at hW ha v y 0 (.inl rfl)
  rwa [Int.add_zero] at this
theorem put_fmt (hW : W.ok) {a : Nat} (ha : W.isF a) (v y : Int) : (W.put a v).fmt y = W.fmt y := by
  show (W.put a v).wd (W.at' y).toNat % 4 = _
  rw [put_head hW ha]; rfl
theorem put_fds (hW : W.ok) {a : Nat} (ha : W.isF a) (v y : Int) : (W.put a v).fds y = W.fds y := by
  show (W.put a v).wd (W.at' y).toNat / 4 = _
  rw [put_head hW ha]; rfl
theorem put_ok (hW : W.ok) {a : Nat} (ha : W.isF a) {v : Int} (hv : -4611686018427387904 ≤ v ∧ v ≤ 4611686018427387904) : (W.put a v).ok := by
  have he := hW.e
  have ha2 : a < 262144 := by have := ha.2.1; omega
  have hne : ∀ b, W.has b = true → (W.put a v).wd b = W.wd b := fun b hb => by
    rw [put_wd W a v ha2, if_neg]
    have := ha.2.2 b hb; omega
  refine { hW with w := fun j => ?_, p := fun b x hx => ?_, z := ?_, q := fun b hb => by rw [hne b hb]; exact hW.q b hb, d := fun b c hb hc hl => ?_ }
  · rw [put_wd W a v ha2]
    by_cases e : j = a
    · rw [if_pos e]
      refine ⟨?_, hv⟩
      show ((PT.updF W.wt a (some (zAV v))).get j).getD (.p 0) = _
      rw [PT.upd_get _ _ ha2, if_pos e]; rfl
    · rw [if_neg e]
      refine ⟨?_, (hW.w j).2⟩
      show ((PT.updF W.wt a (some (zAV v))).get j).getD (.p 0) = _
      rw [PT.upd_get _ _ ha2, if_neg e]; exact (hW.w j).1
  · have h1 := hW.p b x hx
    rw [hne b (by show (W.pt.get b).isSome = true; rw [show W.pt.get b = some x from hx]; rfl)]
    exact h1
  · rw [put_wd W a v ha2, if_neg (by have := ha.1; omega)]; exact hW.z
  · rw [hne b hb]; exact hW.d b c hb hc hl

/-- What is wrong with a word that is put. -/
noncomputable def Wd.perr (W : Wd) (z i v : Int) : Int :=
  if W.isO z then (if 0 ≤ i ∧ i < W.fds z then (if (W.fmt z = 0 ∧ ¬ W.may v) ∨ (W.fmt z = 2 ∧ (v < 0 ∨ 255 < v)) then 6 else 0) else 5) else 1
theorem cs72 (hW : W.ok) (q : W.isO z) (h0 : 0 ≤ i) (h1 : i < W.fds z) (hv : -4611686018427387904 ≤ v ∧ v ≤ 4611686018427387904) (hf : ¬ ((W.fmt z = 0 ∧ ¬ W.may v) ∨ (W.fmt z = 2 ∧ (v < 0 ∨ 255 < v)))) :
    CSem Tryz.prog 72 (.cons (.pt 2 0) (.cons (zAV z) (.cons (zAV i) (.cons (zAV v) .nil)))) (hK0 W) (.p 0) (hK0 (W.put (W.at' z + 3 + i).toNat v)) := by
  have h2 := q.in hW
  have hok := put_ok hW (isF_of hW q h0 h1) hv
  refine csem_u mix c72 fun M _ K hK => ?_
  repeat' (conv => arg 1; whnf
           first | (refine good64 hW (by decide) ?_ ?_ ?_ <;> intro q <;> (try intro q1) <;> (try intro q2) <;> try (exfalso; first | omega | contradiction)) | (refine good38 hW (by decide) fun _ _ => ?_) | (refine good24 hW (by decide) ?_ ?_ <;> intro q9 <;> try (exfalso; exact hf (.inl ⟨by omega, q9⟩))) | (refine bin_eql ?_ ?_ <;> intro _ <;> try (exfalso; omega)) | (refine bin_neq ?_ ?_ <;> intro _ <;> try (exfalso; omega)) | (refine bin_lss ?_ ?_ <;> intro _ <;> try (exfalso; omega)) | (refine bin_gtr ?_ ?_ <;> intro _ <;> try (exfalso; omega)) | refine good_go rfl ?_ | refine good_ga rfl ?_ | refine good_idx (by omega) ?_ | refine good_f01 ?_ | refine good_f0 ?_ | refine good_lt (by omega) ?_ | refine good_beq rfl ?_ | refine good_cellZ ?_ | refine good_force ?_ | refine good_uo (by first | decide | omega) ?_ | refine good_ua (by omega) ?_)
  all_goals refine endK hK hok (all8 rfl rfl rfl rfl rfl rfl rfl rfl) rfl rfl
theorem cs72e (hW : W.ok) (he : W.perr z i v ≠ 0) : CSem Tryz.prog 72 (.cons (.pt 2 0) (.cons (zAV z) (.cons (zAV i) (.cons (zAV v) .nil)))) (hK0 W) (zAV (W.perr z i v)) (hK0 W) := by
  have hf : W.isO z → 0 ≤ i → i < W.fds z → ((W.fmt z = 0 ∧ ¬ W.may v) ∨ (W.fmt z = 2 ∧ (v < 0 ∨ 255 < v))) ∧ W.perr z i v = 6 := fun q q0 q1 => by
    unfold Wd.perr at he ⊢
    rw [if_pos q, if_pos ⟨q0, q1⟩] at he ⊢
    by_cases h : (W.fmt z = 0 ∧ ¬ W.may v) ∨ (W.fmt z = 2 ∧ (v < 0 ∨ 255 < v))
    · exact ⟨h, if_pos h⟩
    · rw [if_neg h] at he; exact absurd rfl he
  refine csem_u mix c72 fun M _ K hK => ?_
  repeat' (conv => arg 1; whnf
           first | (refine good64 hW (by decide) ?_ ?_ ?_ <;> intro q <;> (try intro q1) <;> (try intro q2) <;> try (have hf := hf q q1 q2)) | (refine good38 hW (by decide) fun _ _ => ?_) | (refine good24 hW (by decide) ?_ ?_ <;> intro q9 <;> try (exfalso; rcases hf.1 with h | h; exact h.2 q9; omega)) | (refine bin_eql ?_ ?_ <;> intro _ <;> try (exfalso; omega)) | (refine bin_neq ?_ ?_ <;> intro _ <;> try (exfalso; omega)) | (refine bin_lss ?_ ?_ <;> intro _ <;> try (exfalso; omega)) | (refine bin_gtr ?_ ?_ <;> intro _ <;> try (exfalso; omega)))
  all_goals first
    | (exfalso; rcases hf.1 with h | h <;> omega)
    | (refine endK hK hW same8 (z_zAV ?_) (bd_z _ _)
       first
         | (unfold Wd.perr; rw [if_pos q, if_neg (fun h => by omega)])
         | (unfold Wd.perr; rw [if_neg q]))
    | exact endK hK hW same8 (p_zAV hf.2) (bd_z _ _)
section
variable {f1 f2 f3 f4 f5 f6 f7 : PT AO} {nx : Nat}
theorem good72 (hW : W.ok) (hn : 8 ≤ nx) [hx : IsZ x z] [hy : IsZ y i] [hv : IsZ x2 v] (hr : -4611686018427387904 ≤ v ∧ v ≤ 4611686018427387904)
    (h0 : W.perr z i v = 0 → W.isO z → 0 ≤ i → i < W.fds z → (W.put (W.at' z + 3 + i).toNat v).ok → (k (.p 0) (hK (W.put (W.at' z + 3 + i).toNat v) f1 f2 f3 f4 f5 f6 f7 nx)).good)
    (h1 : W.perr z i v ≠ 0 → (k (zAV (W.perr z i v)) (hK W f1 f2 f3 f4 f5 f6 f7 nx)).good) :
    (M.ck 72 (.cons (.pt 2 0) (.cons x (.cons y (.cons x2 .nil)))) (hK W f1 f2 f3 f4 f5 f6 f7 nx) k).good := by
  obtain rfl := hx.eq; obtain rfl := hy.eq; obtain rfl := hv.eq
  by_cases he : W.perr z i v = 0
  · have he' := he
    unfold Wd.perr at he'
    split at he'
    · rename_i q
      split at he'
      · rename_i q2
        split at he'
        · omega
        · rename_i q3
          exact good_onK (cs72 hW q q2.1 q2.2 hr q3) hW (bd4 _ _ _) hn (h0 he q q2.1 q2.2 (put_ok hW (isF_of hW q q2.1 q2.2) hr))
      · omega
    · omega
  · exact good_onK (cs72e hW he) hW (bd4 _ _ _) hn (h1 he)
end

/-! ### An object is made -/

/-- What may be a class. -/
theorem cs86 (hW : W.ok) (z : Int) (t : Bool) (ht : t = decide (z = 0 ∨ W.isO z)) : CSem Tryz.prog 86 (.cons (.pt 2 0) (.cons (zAV z) .nil)) (hK0 W) (.b t) (hK0 W) := by
  refine csem_u mix c86 fun M _ K hK => ?_
  repeat' (conv => arg 1; whnf
           first | (refine good31 hW (by decide) ?_ ?_ <;> intro q) | (refine bin_eql ?_ ?_ <;> intro _ <;> try (exfalso; omega)))
  all_goals refine endK hK hW same8 ?_ rfl
  all_goals (subst ht; congr 1; symm)
  all_goals first
    | (apply decide_eq_true; first | exact .inr q | exact .inl (by omega))
    | (apply decide_eq_false; rintro (h | h) <;> first | exact q h | omega)
theorem cs84 (hW : W.ok) : CSem Tryz.prog 84 (.cons (.pt 2 0) .nil) (hK0 W) (zAV (W.sz - W.en)) (hK0 W) := by
  have := hW.e
  refine csem_u mix c84 fun M _ K hK => ?_
  repeat' (conv => arg 1; whnf
           first | refine bin_sub (by omega) (by omega) ?_ | refine good_go rfl ?_ | refine good_ga rfl ?_ | refine good_f0 ?_)
  exact endK hK hW same8 rfl (bd_z _ _)
theorem cs102 (hW : W.ok) : CSem Tryz.prog 102 (.cons (.pt 2 0) .nil) (hK0 W) (.p W.sz) (hK0 W) := by
  refine csem_u mix c102 fun M _ K hK => ?_
  repeat' (conv => arg 1; whnf
           first | refine good_go rfl ?_ | refine good_ga rfl ?_ | refine good_f0 ?_)
  exact endK hK hW same8 rfl rfl
theorem cs36 (hW : W.ok) : CSem Tryz.prog 36 (.cons (.pt 2 0) .nil) (hK0 W) (.p W.md) (hK0 W) := by
  refine csem_u mix c36 fun M _ K hK => ?_
  repeat' (conv => arg 1; whnf
           first | refine good_go rfl ?_ | refine good_ga rfl ?_ | refine good_f0 ?_)
  exact endK hK hW same8 rfl rfl

/-- n cells from o on. -/
noncomputable def fillZ (t : PT AV) (o : Nat) : Nat → PT AV
  | 0 => t
  | n + 1 => fillZ (PT.updF t o (some (.p 0))) (o + 1) n
theorem fillZ_get : ∀ (n : Nat) (t : PT AV) (o j : Nat), o + n ≤ 262144 → (fillZ t o n).get j = if o ≤ j ∧ j < o + n then some (.p 0) else t.get j
  | 0, t, o, j, _ => by rw [if_neg (by omega)]; rfl
  | n + 1, t, o, j, h => by
    show (fillZ (PT.updF t o (some (.p 0))) (o + 1) n).get j = _
    rw [fillZ_get n _ _ _ (by omega), PT.upd_get _ _ (by omega)]
    by_cases e : j = o
    · rw [if_neg (by omega), if_pos e, if_pos (by omega)]
    · by_cases h2 : o + 1 ≤ j ∧ j < o + 1 + n
      · rw [if_pos h2, if_pos (by omega)]
      · rw [if_neg h2, if_neg e, if_neg (by omega)]
theorem puts_rep : ∀ (n o : Nat) (t : PT AV) (k : Nat → PT AV → Res), o + n ≤ 262144 → repK n (.p 0) (fun cs => putsK cs o t k) = k (o + n) (fillZ t o n)
  | 0, o, t, k, _ => rfl
  | n + 1, o, t, k, h => by
    have e : ∀ l, putsK (.cons (.p 0) l) o t k = putsK l (o + 1) (PT.updF t o (some (.p 0))) k := fun l => by
      show PT.updK 40 t o (some (.p 0)) (fun t' => forceN (Nat.succ o) fun i' => putsK l i' t' k) = _
      rw [PT.updK_eq (by omega), forceN_eq]
    show repK n (.p 0) (fun l => putsK (.cons (.p 0) l) o t k) = _
    rw [show (fun l => putsK (.cons (.p 0) l) o t k) = fun l => putsK l (o + 1) (PT.updF t o (some (.p 0))) k from funext e, puts_rep n (o + 1) _ k (by omega)]
    rw [show o + 1 + n = o + (n + 1) by omega]; rfl
theorem good_cls {x : OA} {e : Env} {t : PT AO} {nx b o n c s m : Nat} {tr : PT AV} {df : AV} {k : AV → H → Res} (hx : ∀ k, oK x k e = k (.sl b o n c s)) (hr : t.get b = some (.row m tr df)) (hb : b ≤ 262143) (hle : o + n ≤ m) (hm : m ≤ 262144)
    (h0 : n = 0 → (k (.tu .nil) ⟨t, nx⟩).good) (h1 : n ≠ 0 → (k (.tu .nil) ⟨PT.updF t b (some (.row m (fillZ tr o n) df)), nx⟩).good) : (M.cls (.p 0) x e ⟨t, nx⟩ k).good := by
  obtain rfl := hM.eq
  show (wCls (.p 0) x e ⟨t, nx⟩ k).good
  unfold wCls
  rw [hx]
  cases n with
  | zero => exact h0 rfl
  | succ n =>
    show (repK (n + 1) (.p 0) fun cs => storeK cs b o (n + 1) ⟨t, nx⟩ fun h' => k (.tu .nil) h').good
    have e2 : ∀ cs, storeK cs b o (n + 1) ⟨t, nx⟩ (fun h' => k (.tu .nil) h') = putsK cs o tr fun q t' => iteK (Nat.beq q (Nat.add o (n + 1))) (iteK (Nat.ble q m) (putK ⟨t, nx⟩ b (.row m t' df) fun h' => k (.tu .nil) h') (.fail 64)) (.fail 65) := fun cs => by
      show PT.getK t b _ _ = _
      rw [PT.getK_eq, hr]; rfl
    rw [show (fun cs => storeK cs b o (n + 1) ⟨t, nx⟩ fun h' => k (.tu .nil) h') = _ from funext e2, puts_rep (n + 1) o tr _ (by omega)]
    refine good_beq rfl (good_le hle ?_)
    show (PT.updK 40 t b (some (.row m (fillZ tr o (n + 1)) df)) fun t' => k (.tu .nil) ⟨t', nx⟩).good
    rw [PT.updK_eq hb]
    exact h1 (by omega)
/-- An object is made. -/
noncomputable def Wd.mk' (W : Wd) (c f : Int) (n : Nat) : Wd := { W with
  wt := fillZ (PT.updF (PT.updF (PT.updF W.wt W.en (some (zAV (n * 2 ^ 2 + f)))) (W.en + 1) (some (zAV c))) (W.en + 2) (some (.p (W.md + 1)))) (W.en + 3) n
  en := W.en + n + 3, md := W.md + 1, pt := PT.updF W.pt W.en (some (.tu (.cons (.b true) (.cons (.p W.pc) .nil)))), pc := W.pc + 1 }
theorem cs47 (hW : W.ok) (c f : Int) (n : Nat) (hc : c = 0 ∨ W.isO c) (hf : 0 ≤ f ∧ f ≤ 2) (hn : n ≤ 256) (hr : W.en + n + 3 ≤ W.sz) (hm : W.md < 1000000) (hok : (W.mk' c f n).ok) :
    CSem Tryz.prog 47 (.cons (.pt 2 0) (.cons (zAV c) (.cons (zAV f) (.cons (zAV n) .nil)))) (hK0 W) (pr (2 * W.en) 0) (hK0 (W.mk' c f n)) := by
  have he := hW.e
  have hp : W.pt.get W.en = none := by
    cases hg : W.pt.get W.en with
    | none => rfl
    | some x => have := (hW.p _ _ hg).2; omega
  refine csem_u mix c47 fun M _ K hK => ?_
  repeat' (conv => arg 1; whnf
           first | refine good_onK (cs86 hW c true (by simp [hc])) hW (bd2 c) (by decide) ?_ | refine good_onK (cs84 hW) hW rfl (by decide) ?_ | refine bin_shl 2 (by omega) rfl (by omega) (by omega) ?_ | refine bin_or 2 (by omega) (by omega) (by omega) (by omega) (by omega) (by omega) ?_ | refine good_none hp ?_ | refine good_fl (i := n) (by show (_ : Nat) - _ = _; omega) ?_ | (refine good_cls (fun _ => rfl) rfl (by decide) (by omega) (by omega) ?_ ?_ <;> intro hn0 <;> try (exfalso; omega)) | refine good87 (by omega) (by omega) ?_ | (refine bin_lss ?_ ?_ <;> intro _ <;> try (exfalso; omega)) | (refine bin_gtr ?_ ?_ <;> intro _ <;> try (exfalso; omega)) | (refine bin_geq ?_ ?_ <;> intro _ <;> try (exfalso; omega)) | refine bin_add (by omega) (by omega) ?_ | refine good_go rfl ?_ | refine good_ga rfl ?_ | refine good_idx' ?_ | refine good_idx (by omega) ?_ | refine good_isP' ?_ | refine good_f01 ?_ | (refine good_fb ?_ ?_ <;> intro _) | refine good_f0 ?_ | refine good_lt (by omega) ?_ | refine good_beq rfl ?_ | refine good_le (by omega) ?_ | refine good_cellZ ?_ | refine good_force ?_ | refine good_uo (by first | decide | omega) ?_ | refine good_ua (by omega) ?_)
  · obtain rfl : n = 0 := by omega
    exact endK hK hok (all8 (by kernel_rfl) (by kernel_rfl) (by kernel_rfl) (by kernel_rfl) (by kernel_rfl) (by kernel_rfl) (by kernel_rfl) (by kernel_rfl)) (pr_eq rfl rfl) (bd_pr _ _ _)
  · subst hn0
    exact endK hK hok (all8 (by kernel_rfl) (by kernel_rfl) (by kernel_rfl) (by kernel_rfl) (by kernel_rfl) (by kernel_rfl) (by kernel_rfl) (by kernel_rfl)) (pr_eq rfl rfl) (bd_pr _ _ _)
  · exact endK hK hok (all8 (by kernel_rfl) (by kernel_rfl) (by kernel_rfl) (by kernel_rfl) (by kernel_rfl) (by kernel_rfl) (by kernel_rfl) (by kernel_rfl)) (pr_eq rfl rfl) (bd_pr _ _ _)
end
end Go.Ev
namespace Go.Ev
open Go.Proofs
set_option maxRecDepth 100000
attribute [local irreducible] zAV

section
variable {W W' W'' : Wd} {z i v c f : Int} {n : Nat}

/-- A world that has grown: what was there is as it was. -/
structure Grow (W W' : Wd) : Prop where
  ok : W'.ok
  has : ∀ a, W.has a = true → W'.has a = true
  new : ∀ a, W'.has a = true → W.has a = true ∨ W.en ≤ a
  wd : ∀ i, i < W.en → W'.wd i = W.wd i
  en : W.en ≤ W'.en
  sz : W'.sz = W.sz
  rt : ∀ i, 2 ≤ i → W'.ro i = W.ro i
  cl : W'.cl = W.cl
  md : W.md ≤ W'.md
theorem Grow.refl (h : W.ok) : Grow W W := ⟨h, fun _ h => h, fun _ h => .inl h, fun _ _ => rfl, Nat.le_refl _, rfl, fun _ _ => rfl, rfl, Nat.le_refl _⟩
theorem Grow.trans (a : Grow W W') (b : Grow W' W'') : Grow W W'' where
  ok := b.ok
  has x h := b.has x (a.has x h)
  new x h := by
    rcases b.new x h with h1 | h1
    · exact a.new x h1
    · have := a.en; exact .inr (by omega)
  wd x h := by rw [b.wd x (by have := a.en; omega), a.wd x h]
  en := Nat.le_trans a.en b.en
  sz := b.sz.trans a.sz
  rt x h := (b.rt x h).trans (a.rt x h)
  cl := b.cl.trans a.cl
  md := Nat.le_trans a.md b.md
theorem Grow.isO (g : Grow W W') (q : W.isO z) : W'.isO z := ⟨q.1, g.has _ q.2⟩
theorem Grow.at (g : Grow W W') (q : W.isO z) : W'.at' z = W.at' z := by
  unfold Wd.at'; rw [if_pos q, if_pos (g.isO q)]
theorem Grow.head (g : Grow W W') (hW : W.ok) (q : W.isO z) {j : Int} (h0 : 0 ≤ j) (h1 : j < 3 + W.fds z) : W'.wd (W'.at' z + j).toNat = W.wd (W.at' z + j).toNat := by
  have := q.in hW
  rw [g.at q]
  exact g.wd _ (by omega)
theorem Grow.cls (g : Grow W W') (hW : W.ok) (q : W.isO z) : W'.cls z = W.cls z := g.head hW q (j := 1) (by omega) (by have := q.in hW; omega)
theorem Grow.fmt (g : Grow W W') (hW : W.ok) (q : W.isO z) : W'.fmt z = W.fmt z := by
  have := g.head hW q (j := 0) (by omega) (by have := q.in hW; omega)
  rw [Int.add_zero, Int.add_zero] at this
  show W'.wd (W'.at' z).toNat % 4 = _
  rw [this]; rfl
theorem Grow.fds (g : Grow W W') (hW : W.ok) (q : W.isO z) : W'.fds z = W.fds z := by
  have := g.head hW q (j := 0) (by omega) (by have := q.in hW; omega)
  rw [Int.add_zero, Int.add_zero] at this
  show W'.wd (W'.at' z).toNat / 4 = _
  rw [this]; rfl
theorem Grow.fld (g : Grow W W') (hW : W.ok) (q : W.isO z) (h0 : 0 ≤ i) (h1 : i < W.fds z) : W'.fld z i = W.fld z i := by
  have := g.head hW q (j := 3 + i) (by omega) (by omega)
  unfold Wd.fld
  rw [show W'.at' z + 3 + i = W'.at' z + (3 + i) by omega, show W.at' z + 3 + i = W.at' z + (3 + i) by omega]
  exact this
theorem Grow.may (g : Grow W W') (q : W.may z) : W'.may z := by
  rcases q with h | h | h | h | h
  · exact .inl h
  · exact .inr (.inl h)
  · exact .inr (.inr (.inl h))
  · exact .inr (.inr (.inr (.inl h)))
  · exact .inr (.inr (.inr (.inr (g.isO h))))

/-! An object is made. -/
theorem mk_get (he : W.en + n + 3 ≤ 262144) (j : Nat) : (W.mk' c f n).wt.get j = if W.en + 3 ≤ j ∧ j < W.en + 3 + n then some (.p 0) else if j = W.en + 2 then some (.p (W.md + 1)) else if j = W.en + 1 then some (zAV c) else if j = W.en then some (zAV (n * 2 ^ 2 + f)) else W.wt.get j := by
  show (fillZ _ _ _).get j = _
  rw [fillZ_get _ _ _ _ (by omega), PT.upd_get _ _ (by omega), PT.upd_get _ _ (by omega), PT.upd_get _ _ (by omega)]
theorem mk_wd (he : W.en + n + 3 ≤ 262144) (j : Nat) : (W.mk' c f n).wd j = if W.en + 3 ≤ j ∧ j < W.en + 3 + n then 0 else if j = W.en + 2 then (W.md : Int) + 1 else if j = W.en + 1 then c else if j = W.en then n * 2 ^ 2 + f else W.wd j := by
  unfold Wd.wd
  rw [mk_get he]
  repeat' split
  · rfl
  · rfl
  · exact valZ_z c
  · exact valZ_z _
  · rfl
theorem mk_has (he : W.en < 262144) (a : Nat) : (W.mk' c f n).has a = true ↔ a = W.en ∨ W.has a = true := by
  show ((PT.updF W.pt W.en _).get a).isSome = true ↔ _
  rw [PT.upd_get _ _ he]
  by_cases e : a = W.en
  · rw [if_pos e]; exact ⟨fun _ => .inl e, fun _ => rfl⟩
  · rw [if_neg e]; exact ⟨fun h => .inr h, fun h => h.resolve_left e⟩
theorem has_lt (hW : W.ok) {a : Nat} (h : W.has a = true) : a + 3 ≤ W.en := by
  have := (hW.has h).2; omega
theorem mk_ok (hW : W.ok) (hc : -4611686018427387904 ≤ c ∧ c ≤ 4611686018427387904) (hf : 0 ≤ f ∧ f ≤ 2) (hn : n ≤ 256) (hr : W.en + n + 3 ≤ W.sz) (hm : W.md < 1000000) : (W.mk' c f n).ok := by
  have he := hW.e
  have h2 : W.en + n + 3 ≤ 262144 := by omega
  have old : ∀ a, W.has a = true → (W.mk' c f n).wd a = W.wd a := fun a ha => by
    have := has_lt hW ha
    rw [mk_wd h2, if_neg (by omega), if_neg (by omega), if_neg (by omega), if_neg (by omega)]
  have new : (W.mk' c f n).wd W.en = n * 2 ^ 2 + f := by
    rw [mk_wd h2, if_neg (by omega), if_neg (by omega), if_neg (by omega), if_pos rfl]
  refine ⟨fun i => ?_, hW.r, fun a x hx => ?_, hW.s, hW.c, ⟨?_, ?_, he.2.2⟩, ?_, ?_, fun a ha => ?_, fun a b ha hb hl => ?_⟩
  · rw [mk_wd h2, mk_get h2]
    repeat' split
    · exact ⟨(zAV_nat 0).symm, by omega, by omega⟩
    · exact ⟨(zAV_nat (W.md + 1)).symm, by omega, by omega⟩
    · exact ⟨rfl, hc⟩
    · exact ⟨rfl, by omega, by omega⟩
    · exact hW.w i
  · have hx' : (PT.updF W.pt W.en (some (.tu (.cons (.b true) (.cons (.p W.pc) .nil))))).get a = some x := hx
    rw [PT.upd_get _ _ (by omega)] at hx'
    by_cases e : a = W.en
    · rw [if_pos e] at hx'
      cases hx'
      subst e
      rw [new]
      refine ⟨⟨_, rfl⟩, he.1, by omega, ?_⟩
      show ((W.en : Int) + 3 + _) ≤ ((W.en + n + 3 : Nat) : Int)
      omega
    · rw [if_neg e] at hx'
      have h3 := hW.p a x hx'
      rw [old a (by show (W.pt.get a).isSome = true; rw [hx']; rfl)]
      refine ⟨h3.1, h3.2.1, h3.2.2.1, ?_⟩
      have := h3.2.2.2
      show _ ≤ ((W.en + n + 3 : Nat) : Int)
      omega
  · show 3 ≤ W.en + n + 3; omega
  · show W.en + n + 3 ≤ W.sz; omega
  · show W.md + 1 ≤ 1000000; omega
  · rw [mk_wd h2, if_neg (by omega), if_neg (by omega), if_neg (by omega), if_neg (by omega)]; exact hW.z
  · rcases (mk_has (by omega) a).1 ha with e | ha
    · subst e; rw [new]; omega
    · rw [old a ha]; exact hW.q a ha
  · rcases (mk_has (by omega) a).1 ha with e | ha
    · rcases (mk_has (by omega) b).1 hb with e2 | hb
      · omega
      · have := has_lt hW hb; omega
    · rw [old a ha]
      rcases (mk_has (by omega) b).1 hb with e2 | hb
      · subst e2
        exact (hW.has ha).2.2.2
      · exact hW.d a b ha hb hl
theorem mk_grow (hW : W.ok) (hc : -4611686018427387904 ≤ c ∧ c ≤ 4611686018427387904) (hf : 0 ≤ f ∧ f ≤ 2) (hn : n ≤ 256) (hr : W.en + n + 3 ≤ W.sz) (hm : W.md < 1000000) : Grow W (W.mk' c f n) := by
  have he := hW.e
  refine ⟨mk_ok hW hc hf hn hr hm, fun a ha => (mk_has (by omega) a).2 (.inr ha), fun a ha => ?_, fun i hi => ?_, ?_, rfl, fun _ _ => rfl, rfl, Nat.le_succ _⟩
  · rcases (mk_has (by omega) a).1 ha with e | ha
    · exact .inr (by omega)
    · exact .inl ha
  · rw [mk_wd (by omega), if_neg (by omega), if_neg (by omega), if_neg (by omega), if_neg (by omega)]
  · show W.en ≤ W.en + n + 3; omega
/-- What the new object is. -/
theorem mk_new (hW : W.ok) (hf : 0 ≤ f ∧ f ≤ 2) (hr : W.en + n + 3 ≤ W.sz) : (W.mk' c f n).isO (2 * W.en) ∧ (W.mk' c f n).at' (2 * W.en) = W.en ∧ (W.mk' c f n).cls (2 * W.en) = c ∧ (W.mk' c f n).fmt (2 * W.en) = f ∧ (W.mk' c f n).fds (2 * W.en) = n ∧ ∀ i : Int, 0 ≤ i → i < n → (W.mk' c f n).fld (2 * W.en) i = 0 := by
  have he := hW.e
  have h2 : W.en + n + 3 ≤ 262144 := by omega
  have q : (W.mk' c f n).isO (2 * W.en) := ⟨⟨by omega, by omega, by omega⟩, (mk_has (by omega) _).2 (.inl (by omega))⟩
  have ha : (W.mk' c f n).at' (2 * W.en) = W.en := by
    unfold Wd.at'; rw [if_pos q]; omega
  have h0 : (W.mk' c f n).wd W.en = n * 2 ^ 2 + f := by
    rw [mk_wd h2, if_neg (by omega), if_neg (by omega), if_neg (by omega), if_pos rfl]
  refine ⟨q, ha, ?_, ?_, ?_, fun i h0 h1 => ?_⟩
  · unfold Wd.cls
    rw [ha, show ((W.en : Int) + 1).toNat = W.en + 1 by omega, mk_wd h2, if_neg (by omega), if_neg (by omega), if_pos rfl]
  · unfold Wd.fmt
    rw [ha, show (W.en : Int).toNat = W.en by omega, h0]; omega
  · unfold Wd.fds
    rw [ha, show (W.en : Int).toNat = W.en by omega, h0]; omega
  · unfold Wd.fld
    rw [ha, mk_wd h2, if_pos (by omega)]

/-! A field is put, where it may be. -/
noncomputable def Wd.put1 (W : Wd) (z i v : Int) : Wd := if W.perr z i v = 0 then W.put (W.at' z + 3 + i).toNat v else W
theorem perr_in (h : W.perr z i v = 0) : W.isO z ∧ 0 ≤ i ∧ i < W.fds z := by
  unfold Wd.perr at h
  split at h
  · rename_i q
    split at h
    · rename_i q2; exact ⟨q, q2⟩
    · omega
  · omega
theorem put1_ok (hW : W.ok) (hv : -4611686018427387904 ≤ v ∧ v ≤ 4611686018427387904) : (W.put1 z i v).ok := by
  unfold Wd.put1
  split
  · rename_i h
    have q := perr_in h
    exact put_ok hW (isF_of hW q.1 q.2.1 q.2.2) hv
  · exact hW
theorem put1_same (hW : W.ok) (y : Int) : (W.put1 z i v).at' y = W.at' y ∧ (W.put1 z i v).cls y = W.cls y ∧ (W.put1 z i v).fmt y = W.fmt y ∧ (W.put1 z i v).fds y = W.fds y ∧ ((W.put1 z i v).isO y ↔ W.isO y) := by
  unfold Wd.put1
  split
  · rename_i h
    have q := perr_in h
    have hF := isF_of hW q.1 q.2.1 q.2.2
    exact ⟨rfl, put_cls hW hF v y, put_fmt hW hF v y, put_fds hW hF v y, Iff.rfl⟩
  · exact ⟨rfl, rfl, rfl, rfl, Iff.rfl⟩
theorem put1_rest (y : Int) : (W.put1 z i v).en = W.en ∧ (W.put1 z i v).md = W.md ∧ (W.put1 z i v).sz = W.sz ∧ (W.put1 z i v).cl = W.cl ∧ (W.put1 z i v).sy = W.sy ∧ (W.put1 z i v).sc = W.sc ∧ (W.put1 z i v).rt = W.rt ∧ (∀ a, (W.put1 z i v).has a = W.has a) ∧ ((W.put1 z i v).may y ↔ W.may y) := by
  unfold Wd.put1
  split <;> exact ⟨rfl, rfl, rfl, rfl, rfl, rfl, rfl, fun _ => rfl, Iff.rfl⟩
theorem put1_wd (hW : W.ok) (j : Nat) : (W.put1 z i v).wd j = if W.perr z i v = 0 ∧ j = (W.at' z + 3 + i).toNat then v else W.wd j := by
  unfold Wd.put1
  by_cases h : W.perr z i v = 0
  · rw [if_pos h]
    have q := perr_in h
    have := (isF_of hW q.1 q.2.1 q.2.2).2.1
    have := hW.e
    rw [put_wd W _ v (by omega)]
    by_cases e : j = (W.at' z + 3 + i).toNat
    · rw [if_pos e, if_pos ⟨h, e⟩]
    · rw [if_neg e, if_neg fun q => e q.2]
  · rw [if_neg h, if_neg fun q => h q.1]
/-- The fields of one object, one behind the other. -/
noncomputable def Wd.putL (W : Wd) (z : Int) (L : Nat → Int) : Nat → Nat → Wd
  | _, 0 => W
  | j, n + 1 => Wd.putL (W.put1 z j (L j)) z L (j + 1) n
end
end Go.Ev
namespace Go.Ev
open Go.Proofs
set_option maxRecDepth 100000
attribute [local irreducible] zAV

section
variable {M : Mac} [hM : IsM Tryz.prog M] {W : Wd} {z i v : Int} {k : AV → H → Res} {x y x2 : AV} {f1 f2 f3 f4 f5 f6 f7 : PT AO} {nx : Nat}

theorem bw2 (z : Int) : bd 8 (.cons (.pt 6 0) (.cons (zAV z) .nil)) = true := by
  show (true && (bd 8 (zAV z) && true)) = true
  rw [bd_z]; rfl
theorem bw3 (z y : Int) : bd 8 (.cons (.pt 6 0) (.cons (zAV z) (.cons (zAV y) .nil))) = true := by
  show (true && (bd 8 (zAV z) && (bd 8 (zAV y) && true))) = true
  rw [bd_z, bd_z]; rfl

/-- The memory of a world. -/
theorem cs23 (hW : W.ok) : CSem Tryz.prog 23 (.cons (.pt 6 0) .nil) (hK0 W) (.pt 2 0) (hK0 W) := by
  refine csem_u mix c23 fun M _ K hK => ?_
  repeat' (conv => arg 1; whnf
           first | refine good_go rfl ?_ | refine good_ga rfl ?_ | refine good_f0 ?_)
  exact endK hK hW same8 rfl rfl
theorem good23 (hW : W.ok) (hn : 8 ≤ nx) (h1 : (k (.pt 2 0) (hK W f1 f2 f3 f4 f5 f6 f7 nx)).good) : (M.ck 23 (.cons (.pt 6 0) .nil) (hK W f1 f2 f3 f4 f5 f6 f7 nx) k).good := good_onK (cs23 hW) hW rfl hn h1

/-- A known class. -/
noncomputable def Wd.kn (W : Wd) (i : Int) : Int := if 0 ≤ i ∧ i < 16 then W.ro (2 + i).toNat else 0
theorem cs30 (hW : W.ok) (i : Int) : CSem Tryz.prog 30 (.cons (.pt 6 0) (.cons (zAV i) .nil)) (hK0 W) (zAV (W.kn i)) (hK0 W) := by
  refine csem_u mix c30 fun M _ K hK => ?_
  repeat' (conv => arg 1; whnf
           first | refine good_root hW ?_ | (refine bin_lss ?_ ?_ <;> intro _ <;> try (exfalso; omega)) | (refine bin_geq ?_ ?_ <;> intro _ <;> try (exfalso; omega)) | refine bin_add (by omega) (by omega) ?_ | refine good_go rfl ?_ | refine good_ga rfl ?_ | refine good_idx (by omega) ?_ | refine good_f01 ?_ | refine good_f0 ?_ | refine good_lt (by omega) ?_)
  all_goals first
    | exact endK hK hW same8 (p_zAV (by unfold Wd.kn; rw [if_neg (by omega)]; rfl)) (bd_z _ _)
    | exact endK hK hW same8 (z_zAV (by unfold Wd.kn; rw [if_pos ⟨by omega, by omega⟩]; rfl)) (bd_z _ _)
theorem good30 (hW : W.ok) (hn : 8 ≤ nx) [hx : IsZ x i] (h1 : (k (zAV (W.kn i)) (hK W f1 f2 f3 f4 f5 f6 f7 nx)).good) : (M.ck 30 (.cons (.pt 6 0) (.cons x .nil)) (hK W f1 f2 f3 f4 f5 f6 f7 nx) k).good := by
  obtain rfl := hx.eq
  exact good_onK (cs30 hW i) hW (bw2 i) hn h1

/-- The class of a word. -/
noncomputable def Wd.clsOf (W : Wd) (z : Int) : Int := if W.isO z then W.cls z else if isSm z then W.kn 7 else if z = 0 then W.kn 2 else if z = 2 then W.kn 4 else if z = 4 then W.kn 5 else 0
theorem cs25 (hW : W.ok) (z : Int) : CSem Tryz.prog 25 (.cons (.pt 6 0) (.cons (zAV z) .nil)) (hK0 W) (zAV (W.clsOf z)) (hK0 W) := by
  refine csem_u mix c25 fun M _ K hK => ?_
  repeat' (conv => arg 1; whnf
           first | (refine good31 hW (by decide) ?_ ?_ <;> intro q) | (refine good48 ?_ ?_ <;> intro q2) | refine good50 hW (by decide) ?_ | refine good30 hW (by decide) ?_ | (refine bin_eql ?_ ?_ <;> intro _ <;> try (exfalso; omega)) | refine good_go rfl ?_ | refine good_ga rfl ?_ | refine good_f0 ?_)
  all_goals first
    | exact endK hK hW same8 (z_zAV (by unfold Wd.clsOf; first | rw [if_pos q] | (rw [if_neg q, if_pos q2]; rfl) | (rw [if_neg q, if_neg q2, if_pos (by omega)]; rfl) | (rw [if_neg q, if_neg q2, if_neg (by omega), if_pos (by omega)]; rfl) | (rw [if_neg q, if_neg q2, if_neg (by omega), if_neg (by omega), if_pos (by omega)]; rfl))) (bd_z _ _)
    | exact endK hK hW same8 (p_zAV (by unfold Wd.clsOf; rw [if_neg q, if_neg q2, if_neg (by omega), if_neg (by omega), if_neg (by omega)]; rfl)) (bd_z _ _)
theorem good25 (hW : W.ok) (hn : 8 ≤ nx) [hx : IsZ x z] (h1 : (k (zAV (W.clsOf z)) (hK W f1 f2 f3 f4 f5 f6 f7 nx)).good) : (M.ck 25 (.cons (.pt 6 0) (.cons x .nil)) (hK W f1 f2 f3 f4 f5 f6 f7 nx) k).good := by
  obtain rfl := hx.eq
  exact good_onK (cs25 hW z) hW (bw2 z) hn h1

/-- A field; 0, if there is none. -/
theorem cs51 (hW : W.ok) (z i : Int) : CSem Tryz.prog 51 (.cons (.pt 6 0) (.cons (zAV z) (.cons (zAV i) .nil))) (hK0 W) (zAV (W.get z i)) (hK0 W) := by
  refine csem_u mix c51 fun M _ K hK => ?_
  repeat' (conv => arg 1; whnf
           first | refine good28 hW (by decide) ?_ | refine good_go rfl ?_ | refine good_ga rfl ?_ | refine good_f0 ?_)
  exact endK hK hW same8 rfl (bd_z _ _)
theorem good51 (hW : W.ok) (hn : 8 ≤ nx) [hx : IsZ x z] [hy : IsZ y i] (h1 : (k (zAV (W.get z i)) (hK W f1 f2 f3 f4 f5 f6 f7 nx)).good) : (M.ck 51 (.cons (.pt 6 0) (.cons x (.cons y .nil))) (hK W f1 f2 f3 f4 f5 f6 f7 nx) k).good := by
  obtain rfl := hx.eq; obtain rfl := hy.eq
  exact good_onK (cs51 hW z i) hW (bw3 z i) hn h1

/-- Is it a number? Which? -/
def Wd.isN (W : Wd) (z : Int) : Prop := isSm z ∨ (W.isO z ∧ W.cls z = W.kn 8 ∧ W.fmt z = 1)
noncomputable instance (W : Wd) (z : Int) : Decidable (W.isN z) := inferInstanceAs (Decidable (_ ∨ _))
noncomputable def Wd.val (W : Wd) (z : Int) : Int := if isSm z then z / 2 else if W.isN z then W.get z 0 else 0
/-- A number, and a truth. -/
def pb (a : Int) (t : Bool) : AV := .tu (.cons (zAV a) (.cons (.b t) .nil))
theorem bd_pb (n : Nat) (a : Int) (t : Bool) : bd n (pb a t) = true := by
  show (bd n (zAV a) && (true && true)) = true
  rw [bd_z]; rfl
theorem pb_eq {x : AV} {a c : Int} {s t : Bool} [hx : IsZ x a] (h1 : a = c) (h2 : s = t) : AV.tu (.cons x (.cons (.b s) .nil)) = pb c t := by
  rw [hx.eq, h1, h2]; rfl
theorem cs15 (hW : W.ok) (z : Int) (t : Bool) (ht : t = decide (W.isN z)) : CSem Tryz.prog 15 (.cons (.pt 6 0) (.cons (zAV z) .nil)) (hK0 W) (pb (W.val z) t) (hK0 W) := by
  refine csem_u mix c15 fun M _ K hK => ?_
  repeat' (conv => arg 1; whnf
           first | (refine good31 hW (by decide) ?_ ?_ <;> intro q) | (refine good48 ?_ ?_ <;> intro q2) | refine good50 hW (by decide) ?_ | refine good30 hW (by decide) ?_ | (refine good38 hW (by decide) fun _ _ => ?_) | refine good49 ?_ | refine good51 hW (by decide) ?_ | (refine bin_eql ?_ ?_ <;> intro _ <;> try (exfalso; omega)) | refine good_go rfl ?_ | refine good_ga rfl ?_ | refine good_f0 ?_)
  all_goals subst ht
  · exact endK hK hW same8 (pb_eq (by unfold Wd.val smv; rw [if_pos q2, if_pos q2]) (by symm; exact decide_eq_true (.inl q2))) (bd_pb _ _ _)
  · rename_i h1 _ _ h2
    have hN : W.isN z := .inr ⟨q, h1, h2⟩
    exact endK hK hW same8 (pb_eq (by unfold Wd.val; rw [if_neg q2, if_pos hN]; rfl) (by symm; exact decide_eq_true hN)) (bd_pb _ _ _)
  all_goals
    have hN : ¬ W.isN z := by
      rintro (h | h)
      · exact q2 h
      · first
          | exact q h.1
          | (exact absurd h.2.1 (by assumption))
          | (exact absurd h.2.2 (by assumption))
    exact endK hK hW same8 (pb_eq (by unfold Wd.val; rw [if_neg q2, if_neg hN]; rfl) (by symm; exact decide_eq_false hN)) (bd_pb _ _ _)
theorem good15 (hW : W.ok) (hn : 8 ≤ nx) [hx : IsZ x z] (h1 : W.isN z → (k (pb (W.val z) true) (hK W f1 f2 f3 f4 f5 f6 f7 nx)).good) (h0 : ¬ W.isN z → W.val z = 0 → (k (pb 0 false) (hK W f1 f2 f3 f4 f5 f6 f7 nx)).good) : (M.ck 15 (.cons (.pt 6 0) (.cons x .nil)) (hK W f1 f2 f3 f4 f5 f6 f7 nx) k).good := by
  obtain rfl := hx.eq
  by_cases q : W.isN z
  · exact good_onK (cs15 hW z true (by simp [q])) hW (bw2 z) hn (h1 q)
  · have hv : W.val z = 0 := by unfold Wd.val; rw [if_neg fun h => q (.inl h), if_neg q]
    have := cs15 hW z false (by simp [q])
    rw [hv] at this
    exact good_onK this hW (bw2 z) hn (h0 q hv)

/-- Is it a class? -/
def Wd.isC (W : Wd) (z : Int) : Prop := W.isO z ∧ W.cls z = W.kn 1 ∧ W.fds z = 6
noncomputable instance (W : Wd) (z : Int) : Decidable (W.isC z) := inferInstanceAs (Decidable (_ ∧ _))
theorem cs67 (hW : W.ok) (z : Int) (t : Bool) (ht : t = decide (W.isC z)) : CSem Tryz.prog 67 (.cons (.pt 6 0) (.cons (zAV z) .nil)) (hK0 W) (.b t) (hK0 W) := by
  refine csem_u mix c67 fun M _ K hK => ?_
  repeat' (conv => arg 1; whnf
           first | (refine good31 hW (by decide) ?_ ?_ <;> intro q) | refine good50 hW (by decide) ?_ | refine good30 hW (by decide) ?_ | (refine good27 hW (by decide) fun _ _ => ?_) | (refine bin_eql ?_ ?_ <;> intro _ <;> try (exfalso; omega)) | refine good_go rfl ?_ | refine good_ga rfl ?_ | refine good_f0 ?_)
  all_goals refine endK hK hW same8 ?_ rfl
  all_goals (subst ht; congr 1; symm)
  all_goals first
    | (refine decide_eq_true ⟨q, ?_, ?_⟩ <;> assumption)
    | (refine decide_eq_false fun h => ?_; first | exact q h.1 | (exact absurd h.2.1 (by assumption)) | (exact absurd h.2.2 (by assumption)))
theorem good67 (hW : W.ok) (hn : 8 ≤ nx) [hx : IsZ x z] (h1 : W.isC z → (k (.b true) (hK W f1 f2 f3 f4 f5 f6 f7 nx)).good) (h0 : ¬ W.isC z → (k (.b false) (hK W f1 f2 f3 f4 f5 f6 f7 nx)).good) : (M.ck 67 (.cons (.pt 6 0) (.cons x .nil)) (hK W f1 f2 f3 f4 f5 f6 f7 nx) k).good := by
  obtain rfl := hx.eq
  by_cases q : W.isC z
  · exact good_onK (cs67 hW z true (by simp [q])) hW (bw2 z) hn (h1 q)
  · exact good_onK (cs67 hW z false (by simp [q])) hW (bw2 z) hn (h0 q)
noncomputable def Wd.sup (W : Wd) (z : Int) : Int := if W.isC z then W.get z 1 else 0
noncomputable def Wd.siz (W : Wd) (z : Int) : Int := if W.isC z then smv (W.get z 2) else 0
noncomputable def Wd.knd (W : Wd) (z : Int) : Int := if W.isC z then smv (W.get z 5) else -1
theorem cs35 (hW : W.ok) (z : Int) : CSem Tryz.prog 35 (.cons (.pt 6 0) (.cons (zAV z) .nil)) (hK0 W) (zAV (W.sup z)) (hK0 W) := by
  refine csem_u mix c35 fun M _ K hK => ?_
  repeat' (conv => arg 1; whnf
           first | (refine good67 hW (by decide) ?_ ?_ <;> intro q) | refine good51 hW (by decide) ?_)
  · exact endK hK hW same8 (z_zAV (by unfold Wd.sup; rw [if_pos q]; rfl)) (bd_z _ _)
  · exact endK hK hW same8 (p_zAV (by unfold Wd.sup; rw [if_neg q]; rfl)) (bd_z _ _)
theorem good35 (hW : W.ok) (hn : 8 ≤ nx) [hx : IsZ x z] (h1 : (k (zAV (W.sup z)) (hK W f1 f2 f3 f4 f5 f6 f7 nx)).good) : (M.ck 35 (.cons (.pt 6 0) (.cons x .nil)) (hK W f1 f2 f3 f4 f5 f6 f7 nx) k).good := by
  obtain rfl := hx.eq
  exact good_onK (cs35 hW z) hW (bw2 z) hn h1
theorem cs37 (hW : W.ok) (z : Int) : CSem Tryz.prog 37 (.cons (.pt 6 0) (.cons (zAV z) .nil)) (hK0 W) (zAV (W.siz z)) (hK0 W) := by
  refine csem_u mix c37 fun M _ K hK => ?_
  repeat' (conv => arg 1; whnf
           first | (refine good67 hW (by decide) ?_ ?_ <;> intro q) | refine good51 hW (by decide) ?_ | refine good49 ?_)
  · exact endK hK hW same8 (z_zAV (by unfold Wd.siz; rw [if_pos q]; rfl)) (bd_z _ _)
  · exact endK hK hW same8 (p_zAV (by unfold Wd.siz; rw [if_neg q]; rfl)) (bd_z _ _)
theorem good37 (hW : W.ok) (hn : 8 ≤ nx) [hx : IsZ x z] (h1 : (k (zAV (W.siz z)) (hK W f1 f2 f3 f4 f5 f6 f7 nx)).good) : (M.ck 37 (.cons (.pt 6 0) (.cons x .nil)) (hK W f1 f2 f3 f4 f5 f6 f7 nx) k).good := by
  obtain rfl := hx.eq
  exact good_onK (cs37 hW z) hW (bw2 z) hn h1
theorem cs32 (hW : W.ok) (z : Int) : CSem Tryz.prog 32 (.cons (.pt 6 0) (.cons (zAV z) .nil)) (hK0 W) (zAV (W.knd z)) (hK0 W) := by
  refine csem_u mix c32 fun M _ K hK => ?_
  repeat' (conv => arg 1; whnf
           first | (refine good67 hW (by decide) ?_ ?_ <;> intro q) | refine good51 hW (by decide) ?_ | refine good49 ?_)
  · exact endK hK hW same8 (z_zAV (by unfold Wd.knd; rw [if_pos q]; rfl)) (bd_z _ _)
  · exact endK hK hW same8 (show AV.n 0 = zAV (W.knd z) by unfold Wd.knd; rw [if_neg q]; exact (zAV_negSucc 0).symm) (bd_z _ _)
theorem good32 (hW : W.ok) (hn : 8 ≤ nx) [hx : IsZ x z] (h1 : (k (zAV (W.knd z)) (hK W f1 f2 f3 f4 f5 f6 f7 nx)).good) : (M.ck 32 (.cons (.pt 6 0) (.cons x .nil)) (hK W f1 f2 f3 f4 f5 f6 f7 nx) k).good := by
  obtain rfl := hx.eq
  exact good_onK (cs32 hW z) hW (bw2 z) hn h1
end
end Go.Ev
namespace Go.Ev
open Go.Proofs
set_option maxRecDepth 100000
attribute [local irreducible] zAV

section
variable {M : Mac} [hM : IsM Tryz.prog M] {W : Wd} {z i v : Int} {k : AV → H → Res} {x y x2 : AV} {f1 f2 f3 f4 f5 f6 f7 : PT AO} {nx : Nat} {t : PT AO}

/-- A read-only call in a heap that holds the world and more. -/
theorem good_onH {f : Nat} {l v : AV} (c : CSem Tryz.prog f l (hK0 W) v (hK0 W)) (h : W.ok) (hl : bd 8 l = true) (hn : 8 ≤ nx) (h1 : ∀ b, b < 8 → t.get b = (hK0 W).t.get b) (hk : (k v ⟨t, nx⟩).good) : (M.ck f l ⟨t, nx⟩ k).good :=
  good_call (c.onH hl (kN_bd h) hn h1) hk

/-- A list as append makes it: nil, if nothing was appended. -/
def slv (q : Nat) : Nat → AV
  | 0 => .ns
  | n + 1 => .sl q 0 (n + 1) (n + 1) 2
/-- A heap with the world, and a list on its way. -/
structure Lst (W : Wd) (L : Nat → AV) (t : PT AO) (nx q i : Nat) : Prop where
  lo : ∀ b, b < 8 → t.get b = (hK0 W).t.get b
  n : 8 ≤ nx
  at' : i ≠ 0 → 8 ≤ q ∧ q < nx ∧ t.get q = some (.row i (rowOf L i) .u)

theorem lit_get {t : PT AO} {nx : Nat} {v : AV} (h : nx ≤ 262143) : (PT.updF t nx (some (.row 1 (PT.updF .nil 0 (some v)) .u))).get nx = some (.row 1 (PT.updF .nil 0 (some v)) .u) := by
  rw [PT.upd_get _ _ (by omega), if_pos rfl]
theorem Lst.app0 {L : Nat → AV} {q : Nat} {o : AO} (h : Lst W L t nx q 0) (hb : nx ≤ 100000) : Lst W L (PT.updF (PT.updF t nx (some o)) (nx + 1) (some (.row 1 (rowOf L 1) .u))) (nx + 2) (nx + 1) 1 := by
  have := h.n
  refine ⟨fun b hb' => ?_, by omega, fun _ => ⟨by omega, by omega, by rw [PT.upd_get _ _ (by omega), if_pos rfl]⟩⟩
  rw [PT.upd_get _ _ (by omega), if_neg (by omega), PT.upd_get _ _ (by omega), if_neg (by omega)]
  exact h.lo b hb'
theorem Lst.app {L : Nat → AV} {q n : Nat} {o : AO} (h : Lst W L t nx q (n + 1)) (hb : nx ≤ 100000) : Lst W L (PT.updF (PT.updF (PT.updF t nx (some o)) q none) (nx + 1) (some (.row (n + 2) (rowOf L (n + 2)) .u))) (nx + 2) (nx + 1) (n + 2) := by
  have := h.n
  have h2 := h.at' (by omega)
  refine ⟨fun b hb' => ?_, by omega, fun _ => ⟨by omega, by omega, by rw [PT.upd_get _ _ (by omega), if_pos rfl]⟩⟩
  rw [PT.upd_get _ _ (by omega), if_neg (by omega), PT.upd_get _ _ (by omega), if_neg (by omega), PT.upd_get _ _ (by omega), if_neg (by omega)]
  exact h.lo b hb'
theorem app_old {L : Nat → AV} {q n : Nat} {o : AO} (h : Lst W L t nx q (n + 1)) (hb : nx ≤ 100000) : (PT.updF t nx (some o)).get q = some (.row (n + 1) (rowOf L (n + 1)) .u) := by
  have h2 := h.at' (by omega)
  rw [PT.upd_get _ _ (by omega), if_neg (by omega)]
  exact h2.2.2

/-- Is it a text? -/
def Wd.isT (W : Wd) (z : Int) : Prop := W.isO z ∧ (W.cls z = W.kn 10 ∨ W.cls z = W.kn 11) ∧ W.fmt z = 2
noncomputable instance (W : Wd) (z : Int) : Decidable (W.isT z) := inferInstanceAs (Decidable (_ ∧ _))
/-- A byte of it. -/
noncomputable def Wd.byt (W : Wd) (z : Int) (i : Nat) : Nat := (W.get z i % 256).toNat
theorem byt_lt (W : Wd) (z : Int) (i : Nat) : W.byt z i < 256 := by unfold Wd.byt; omega

noncomputable def eT (z : Int) (n i q : Nat) : Env := ((((env0.set x0 (.pt 6 0)).set x1 (zAV z)).set x7 (slv q i)).set x48 (zAV (n : Int))).set x49 (zAV (i : Int))
theorem text_round (hW : W.ok) (z : Int) (n i q : Nat) (hi : i < n) (hn : n ≤ 256) (hb : nx ≤ 100000) (hq : Lst W (fun i => .w .u8 (W.byt z i)) t nx q i) :
    ∃ t' q', Lst W (fun i => .w .u8 (W.byt z i)) t' (nx + 2) q' (i + 1) ∧ SemC Tryz.prog b33_22 (eT z n i q) ⟨t, nx⟩ .n (eT z n (i + 1) q') ⟨t', nx + 2⟩ := by
  have hg : bd 8 (.cons (.pt 6 0) (.cons (zAV z) (.cons (zAV (i : Int)) .nil))) = true := bw3 z i
  cases i with
  | zero =>
    refine ⟨_, _, hq.app0 (o := .row 1 (PT.updF .nil 0 (some (.w .u8 (W.byt z 0)))) .u) hb, semC_d mix fun M _ K hK => ?_⟩
    repeat' (conv => arg 1; whnf
             first | refine good_onH (cs51 hW z (0 : Nat)) hW hg hq.n hq.lo ?_ | refine good_cvB ?_ | refine good_app0 (L := fun i => .w .u8 (W.byt z i)) (lit_get (by omega)) (by rw [PT.upd_get _ _ (by omega), if_pos rfl]; rfl) (by omega) (by omega) ?_ | (refine bin_lss ?_ ?_ <;> intro _ <;> try (exfalso; omega)) | refine bin_add (by omega) (by omega) ?_ | refine good_cell1 rfl ?_ | refine good_force ?_ | refine good_uo (by first | decide | omega) ?_ | refine good_ua (by omega) ?_)
    exact hK _ (drop1 (z_zAV (by omega)) (drop1 rfl (drop1 rfl (drop1 rfl (drop1 rfl (drop0 _))))))
  | succ i =>
    have h2 := hq.at' (by omega)
    refine ⟨_, _, hq.app (o := .row 1 (PT.updF .nil 0 (some (.w .u8 (W.byt z (i + 1))))) .u) hb, semC_d mix fun M _ K hK => ?_⟩
    repeat' (conv => arg 1; whnf
             first | refine good_onH (cs51 hW z (i + 1 : Nat)) hW hg hq.n hq.lo ?_ | refine good_cvB ?_ | refine good_app (L := fun i => .w .u8 (W.byt z i)) (app_old hq hb) (lit_get (by omega)) (by rw [PT.upd_get _ _ (by omega), if_pos rfl]; rfl) (by omega) (by omega) (by omega) (by omega) ?_ | (refine bin_lss ?_ ?_ <;> intro _ <;> try (exfalso; omega)) | refine bin_add (by omega) (by omega) ?_ | refine good_cell1 rfl ?_ | refine good_force ?_ | refine good_uo (by first | decide | omega) ?_ | refine good_ua (by omega) ?_)
    exact hK _ (drop1 (z_zAV (by omega)) (drop1 rfl (drop1 rfl (drop1 rfl (drop1 rfl (drop0 _))))))
theorem text_loop (hW : W.ok) (z : Int) (n : Nat) (hn : n ≤ 256) : ∀ (d i q nx : Nat) (t : PT AO), i + d = n → nx + 2 * d ≤ 90000 → Lst W (fun i => .w .u8 (W.byt z i)) t nx q i →
    ∃ t' nx' q', Lst W (fun i => .w .u8 (W.byt z i)) t' nx' q' n ∧ nx' = nx + 2 * d ∧ SemL Tryz.prog b33_22 (eT z n i q) ⟨t, nx⟩ (.x 0) (eT z n n q') ⟨t', nx'⟩
  | 0, i, q, nx, t, hi, hb, h => by
    obtain rfl : i = n := by omega
    refine ⟨t, nx, q, h, by omega, SemL.exit (by simp) (semC_d mix fun M _ K hK => ?_)⟩
    repeat' (conv => arg 1; whnf
             first | (refine bin_lss ?_ ?_ <;> intro _ <;> try (exfalso; omega)))
    exact hK _ (drop1 rfl (drop1 rfl (drop1 rfl (drop1 rfl (drop1 rfl (drop0 _))))))
  | d + 1, i, q, nx, t, hi, hb, h => by
    obtain ⟨t1, q1, h1, s1⟩ := text_round hW z n i q (by omega) hn (by omega) h
    obtain ⟨t2, nx2, q2, h2, e2, s2⟩ := text_loop hW z n hn d (i + 1) q1 (nx + 2) t1 (by omega) (by omega) h1
    exact ⟨t2, nx2, q2, h2, by omega, SemL.step s1 s2⟩
/-- A text's length, and its bytes as a number. -/
noncomputable def Wd.tlen (W : Wd) (z : Int) : Nat := (W.fds z).toNat
noncomputable def Wd.tbits (W : Wd) (z : Int) : Nat := bsum (W.byt z) (W.tlen z)
def sb (l b : Nat) (t : Bool) : AV := .tu (.cons (.s l b) (.cons (.b t) .nil))
theorem cs33n (hW : W.ok) (z : Int) (q : ¬ W.isT z) : CSem Tryz.prog 33 (.cons (.pt 6 0) (.cons (zAV z) .nil)) (hK0 W) (sb 0 0 false) (hK0 W) := by
  refine csem_u mix c33 fun M _ K hK => ?_
  repeat' (conv => arg 1; whnf
           first | refine good50 hW (by decide) ?_ | (refine good31 hW (by decide) ?_ ?_ <;> intro q1) | refine good30 hW (by decide) ?_ | (refine good38 hW (by decide) fun _ _ => ?_) | (refine bin_neq ?_ ?_ <;> intro _ <;> try (exfalso; omega)) | refine good_go rfl ?_ | refine good_ga rfl ?_ | refine good_f0 ?_)
  all_goals first
    | exact endK hK hW same8 rfl rfl
    | (exfalso; refine q ⟨q1, ?_, ?_⟩ <;> first | assumption | (refine .inl ?_; assumption) | (refine .inr ?_; assumption))
theorem cs33y (hW : W.ok) (z : Int) (q : W.isT z) : CSem Tryz.prog 33 (.cons (.pt 6 0) (.cons (zAV z) .nil)) (hK0 W) (sb (W.tlen z) (W.tbits z) true) (hK0 W) := by
  obtain ⟨q1, q2, q3⟩ := q
  have hf := fds_nn hW z
  have hlen : (W.tlen z : Int) = W.fds z := by unfold Wd.tlen; omega
  unfold Wd.tbits
  generalize W.tlen z = n at hlen
  have h0 : Lst W (fun i => .w .u8 (W.byt z i)) (hK0 W).t 8 0 0 := ⟨fun _ _ => rfl, Nat.le_refl _, fun h => absurd rfl h⟩
  obtain ⟨t', nx', q', hL, hx, s⟩ := text_loop hW z n (by omega) n 0 0 8 _ (by omega) (by omega) h0
  refine csem_u mix c33 fun M _ K hK => ?_
  cases n with
  | zero =>
    repeat' (conv => arg 1; whnf
             first | refine good50 hW (by decide) ?_ | (refine good31 hW (by decide) ?_ ?_ <;> intro q9 <;> try contradiction) | refine good30 hW (by decide) ?_ | (refine good38 hW (by decide) fun _ _ => ?_) | (refine good27 hW (by decide) fun _ _ => ?_) | refine good_loopE s (drop1 (zAV_nat 0) (drop1 (z_zAV (by omega)) (drop1 rfl (drop1 rfl (drop1 rfl (drop0 _)))))) ?_ | refine good_el0 ?_ | refine good_by0 ?_ | (refine bin_neq ?_ ?_ <;> intro _ <;> try (exfalso; omega)) | refine good_go rfl ?_ | refine good_ga rfl ?_ | refine good_f0 ?_)
    all_goals first
      | exact endK hK hW hL.lo rfl rfl
      | (exfalso; rcases q2 with h | h <;> contradiction)
  | succ n =>
    have h2 := hL.at' (by omega)
    repeat' (conv => arg 1; whnf
             first | refine good50 hW (by decide) ?_ | (refine good31 hW (by decide) ?_ ?_ <;> intro q9 <;> try contradiction) | refine good30 hW (by decide) ?_ | (refine good38 hW (by decide) fun _ _ => ?_) | (refine good27 hW (by decide) fun _ _ => ?_) | refine good_loopE s (drop1 (zAV_nat 0) (drop1 (z_zAV (by omega)) (drop1 rfl (drop1 rfl (drop1 rfl (drop0 _)))))) ?_ | refine good_str (byt_lt W z) h2.2.2 (by omega) ?_ | (refine bin_neq ?_ ?_ <;> intro _ <;> try (exfalso; omega)) | refine good_go rfl ?_ | refine good_ga rfl ?_ | refine good_f0 ?_)
    all_goals first
      | exact endK hK hW hL.lo rfl rfl
      | (exfalso; rcases q2 with h | h <;> contradiction)
theorem good33 (hW : W.ok) (hn : 8 ≤ nx) [hx : IsZ x z] (h1 : W.isT z → (k (sb (W.tlen z) (W.tbits z) true) (hK W f1 f2 f3 f4 f5 f6 f7 nx)).good) (h0 : ¬ W.isT z → (k (sb 0 0 false) (hK W f1 f2 f3 f4 f5 f6 f7 nx)).good) :
    (M.ck 33 (.cons (.pt 6 0) (.cons x .nil)) (hK W f1 f2 f3 f4 f5 f6 f7 nx) k).good := by
  obtain rfl := hx.eq
  by_cases q : W.isT z
  · exact good_onK (cs33y hW z q) hW (bw2 z) hn (h1 q)
  · exact good_onK (cs33n hW z q) hW (bw2 z) hn (h0 q)
end
end Go.Ev
namespace Go.Ev
open Go.Proofs
set_option maxRecDepth 100000
attribute [local irreducible] zAV

section
variable {M : Mac} [hM : IsM Tryz.prog M] {W W' : Wd} {z i v c f : Int} {k : AV → H → Res} {x y : AV} {f1 f2 f3 f4 f5 f6 f7 : PT AO} {nx n q m cap st : Nat} {t lt : PT AO} {L : Nat → Int} {df : AV}

theorem good_cellG {P : Program} {M : Mac} [hM : IsM P M] {t : PT AV} {i : Nat} {df v : AV} {k : AV → Res} (h : (t.get i).getD df = v) (hk : (k v).good) : (M.ga t i k (k df)).good := by
  cases hg : t.get i with
  | none => rw [hg] at h; subst h; exact good_none hg hk
  | some w => rw [hg] at h; subst h; exact good_ga hg hk

/-- The heap holds the world. -/
def lo (W : Wd) (t : PT AO) : Prop := ∀ b, b < 8 → t.get b = (hK0 W).t.get b
/-- Another world, the rest as it was. -/
noncomputable def setB (t : PT AO) (W : Wd) : PT AO :=
  PT.updF (PT.updF (PT.updF (PT.updF (PT.updF (PT.updF t 0 (some (.row W.sz W.wt (.p 0)))) 1 (some (.im W.pt W.pc W.ph))) 2 (some (.row 4 (mrow W.sz W.en W.md) .u))) 3 (some (.row 18 W.rt (.p 0)))) 4 (some (.sm W.sy W.sc))) 5 (some (.sm W.cl W.cc))
theorem setB_get (t : PT AO) (W : Wd) (b : Nat) : (setB t W).get b = if b < 6 then (hK0 W).t.get b else t.get b := by
  unfold setB
  rw [PT.upd_get _ _ (by decide), PT.upd_get _ _ (by decide), PT.upd_get _ _ (by decide), PT.upd_get _ _ (by decide), PT.upd_get _ _ (by decide), PT.upd_get _ _ (by decide)]
  by_cases h : b < 6
  · rw [if_pos h]
    match b, h with
    | 0, _ => rfl
    | 1, _ => rfl
    | 2, _ => rfl
    | 3, _ => rfl
    | 4, _ => rfl
    | 5, _ => rfl
  · rw [if_neg h, if_neg (by omega), if_neg (by omega), if_neg (by omega), if_neg (by omega), if_neg (by omega), if_neg (by omega)]
theorem setB_lo (h : lo W t) : lo W' (setB t W') := by
  intro b hb
  rw [setB_get]
  by_cases q : b < 6
  · rw [if_pos q]
  · rw [if_neg q, h b hb]
    rcases (by omega : b = 6 ∨ b = 7) with rfl | rfl <;> rfl
theorem setB_hi (b : Nat) (hb : 8 ≤ b) : (setB t W').get b = t.get b := by rw [setB_get, if_neg (by omega)]
theorem good_onG {f : Nat} {l v : AV} (c : CSem Tryz.prog f l (hK0 W) v (hK0 W')) (h : W.ok) (hl : bd 8 l = true) (hn : 8 ≤ nx) (h1 : lo W t) (hk : (k v ⟨setB t W', nx⟩).good) : (M.ck f l ⟨t, nx⟩ k).good :=
  good_call (CSem.frame (h' := ⟨setB t W', nx⟩) c rfl hn rfl hl h1 (setB_lo h1) (fun b hb => setB_hi b hb) (kN_bd h)) hk

theorem cs72p (hW : W.ok) (hv : -4611686018427387904 ≤ v ∧ v ≤ 4611686018427387904) : CSem Tryz.prog 72 (.cons (.pt 2 0) (.cons (zAV z) (.cons (zAV i) (.cons (zAV v) .nil)))) (hK0 W) (zAV (W.perr z i v)) (hK0 (W.put1 z i v)) := by
  unfold Wd.put1
  by_cases h : W.perr z i v = 0
  · rw [if_pos h, h, show zAV 0 = .p 0 from zAV_nat 0]
    have q := perr_in h
    refine cs72 hW q.1 q.2.1 q.2.2 hv fun hb => ?_
    unfold Wd.perr at h
    rw [if_pos q.1, if_pos q.2, if_pos hb] at h
    omega
  · rw [if_neg h]; exact cs72e hW h

/-- A word's bounds. -/
def wordB (v : Int) : Prop := -4611686018427387904 ≤ v ∧ v ≤ 4611686018427387904
noncomputable def eM (o : Int) (n i q cap st : Nat) : Env := ((((env0.set x0 (.pt 6 0)).set x10 (zAV o)).set x29 (.sl q 0 n cap st)).set x30 (.p n)).set x31 (zAV (i : Int))
theorem make_loop {lt : PT AV} (o : Int) (hn : n ≤ 256) (hm : n ≤ m) (hq : 8 ≤ q) (hx : 8 ≤ nx) (hL : ∀ i, i < n → (lt.get i).getD df = zAV (L i) ∧ wordB (L i)) :
    ∀ (d i : Nat) (W : Wd) (t : PT AO), i + d = n → W.ok → lo W t → t.get q = some (.row m lt df) →
      ∃ t', lo (W.putL o L i d) t' ∧ (W.putL o L i d).ok ∧ (∀ b, 8 ≤ b → t'.get b = t.get b) ∧ SemL Tryz.prog b82_21 (eM o n i q cap st) ⟨t, nx⟩ (.x 0) (eM o n n q cap st) ⟨t', nx⟩
  | 0, i, W, t, hi, hW, hlo, hr => by
    obtain rfl : i = n := by omega
    refine ⟨t, hlo, hW, fun _ _ => rfl, SemL.exit (by simp) (semC_d mix fun M _ K hK => ?_)⟩
    repeat' (conv => arg 1; whnf
             first | (refine bin_lss ?_ ?_ <;> intro _ <;> try (exfalso; omega)))
    exact hK _ (drop1 rfl (drop1 rfl (drop1 rfl (drop1 rfl (drop1 rfl (drop0 _))))))
  | d + 1, i, W, t, hi, hW, hlo, hr => by
    have hi' := hL i (by omega)
    have ho := put1_ok (z := o) (i := (i : Int)) hW hi'.2
    obtain ⟨t', h1, h2, h3, s⟩ := make_loop o hn hm hq hx hL d (i + 1) (W.put1 o i (L i)) (setB t (W.put1 o i (L i))) (by omega) ho (setB_lo hlo) (by rw [setB_hi _ hq]; exact hr)
    refine ⟨t', h1, h2, fun b hb => by rw [h3 b hb, setB_hi b hb], SemL.step (semC_d mix fun M _ K hK => ?_) s⟩
    have hp := hlo 6 (by decide)
    repeat' (conv => arg 1; whnf
             first | refine good_go hp ?_ | refine good_go hr ?_ | refine good_cellG hi'.1 ?_ | refine good_onG (cs72p hW hi'.2) hW (bd4 _ _ _) hx hlo ?_ | (refine bin_lss ?_ ?_ <;> intro _ <;> try (exfalso; omega)) | refine bin_add (by omega) (by omega) ?_ | refine good_ga rfl ?_ | refine good_idx (by omega) ?_ | refine good_f01 ?_ | refine good_f0 ?_ | refine good_lt (by omega) ?_)
    exact hK _ (drop1 (z_zAV (by omega)) (drop1 rfl (drop1 rfl (drop1 rfl (drop1 rfl (drop0 _))))))
/-- An object made of a list. -/
noncomputable def Wd.mkL (W : Wd) (c f : Int) (L : Nat → Int) (n : Nat) : Wd := (W.mk' c f n).putL (2 * W.en) L 0 n
/-- There is room for an object of n fields. -/
def Wd.room (W : Wd) (n : Nat) : Prop := W.en + n + 3 ≤ W.sz ∧ W.md < 1000000
theorem bd47 (c f : Int) (n : Nat) : bd 8 (.cons (.pt 2 0) (.cons (zAV c) (.cons (zAV f) (.cons (.p n) .nil)))) = true := by
  show (true && (bd 8 (zAV c) && (bd 8 (zAV f) && (true && true)))) = true
  rw [bd_z, bd_z]; rfl
theorem cs47p (hW : W.ok) (hc : c = 0 ∨ W.isO c) (hcb : wordB c) (hf : 0 ≤ f ∧ f ≤ 2) (hn : n ≤ 256) (hr : W.room n) : CSem Tryz.prog 47 (.cons (.pt 2 0) (.cons (zAV c) (.cons (zAV f) (.cons (.p n) .nil)))) (hK0 W) (pr (2 * W.en) 0) (hK0 (W.mk' c f n)) := by
  have := cs47 hW c f n hc hf hn hr.1 hr.2 (mk_ok hW hcb hf hn hr.1 hr.2)
  rwa [zAV_nat] at this
theorem good82 {lt : PT AV} [hx' : IsZ x c] [hy' : IsZ y f] (hW : W.ok) (hlo : lo W t) (hx : 8 ≤ nx) (hn : n ≤ 256) (hm : n ≤ m) (hq : 8 ≤ q) (hr : t.get q = some (.row m lt df)) (hL : ∀ i, i < n → (lt.get i).getD df = zAV (L i) ∧ wordB (L i))
    (hc : c = 0 ∨ W.isO c) (hcb : wordB c) (hf : 0 ≤ f ∧ f ≤ 2) (hrm : W.room n)
    (hk : ∀ t', lo (W.mkL c f L n) t' → (W.mkL c f L n).ok → (∀ b, 8 ≤ b → t'.get b = t.get b) → (k (pr (2 * W.en) 0) ⟨t', nx⟩).good) :
    (M.ck 82 (.cons (.pt 6 0) (.cons x (.cons y (.cons (.sl q 0 n cap st) .nil)))) ⟨t, nx⟩ k).good := by
  obtain rfl := hx'.eq; obtain rfl := hy'.eq
  have hp := hlo 6 (by decide)
  have hok := mk_ok (n := n) hW hcb hf hn hrm.1 hrm.2
  obtain ⟨t', h1, h2, h3, s⟩ := make_loop (cap := cap) (st := st) (2 * W.en) hn hm hq hx hL n 0 (W.mk' c f n) (setB t (W.mk' c f n)) (by omega) hok (setB_lo hlo) (by rw [setB_hi _ hq]; exact hr)
  have e : AV.tu (.cons (zAV (2 * W.en)) (.cons (.p 0) .nil)) = pr (2 * W.en) 0 := pr_eq rfl rfl
  have hk' : (k (.tu (.cons (zAV (2 * W.en)) (.cons (.p 0) .nil))) ⟨t', nx⟩).good := by
    rw [e]; exact hk t' h1 h2 fun b hb => by rw [h3 b hb, setB_hi b hb]
  refine good_into mix c82 ?_
  repeat' (conv => arg 1; whnf
           first | refine good_go hp ?_ | refine good_onG (cs47p hW hc hcb hf hn hrm) hW (bd47 _ _ _) hx hlo ?_ | refine good_loopE s (drop1 (zAV_nat 0) (drop1 rfl (drop1 rfl (drop1 rfl (drop1 rfl (drop0 _)))))) ?_ | (refine bin_neq ?_ ?_ <;> intro _ <;> try (exfalso; omega)) | refine good_ga rfl ?_ | refine good_f0 ?_)
  exact hk'
theorem good82n [hx' : IsZ x c] [hy' : IsZ y f] (hW : W.ok) (hlo : lo W t) (hx : 8 ≤ nx) (hc : c = 0 ∨ W.isO c) (hcb : wordB c) (hf : 0 ≤ f ∧ f ≤ 2) (hrm : W.room 0)
    (hk : ∀ t', lo (W.mkL c f L 0) t' → (W.mkL c f L 0).ok → (∀ b, 8 ≤ b → t'.get b = t.get b) → (k (pr (2 * W.en) 0) ⟨t', nx⟩).good) :
    (M.ck 82 (.cons (.pt 6 0) (.cons x (.cons y (.cons .ns .nil)))) ⟨t, nx⟩ k).good := by
  obtain rfl := hx'.eq; obtain rfl := hy'.eq
  have hp := hlo 6 (by decide)
  have hok := mk_ok (n := 0) hW hcb hf (by decide) hrm.1 hrm.2
  have e : AV.tu (.cons (zAV (2 * W.en)) (.cons (.p 0) .nil)) = pr (2 * W.en) 0 := pr_eq rfl rfl
  have hk' : (k (.tu (.cons (zAV (2 * W.en)) (.cons (.p 0) .nil))) ⟨setB t (W.mk' c f 0), nx⟩).good := by
    rw [e]; exact hk _ (setB_lo hlo) hok fun b hb => setB_hi b hb
  refine good_into mix c82 ?_
  repeat' (conv => arg 1; whnf
           first | refine good_go hp ?_ | refine good_onG (cs47p hW hc hcb hf (by decide) hrm) hW (bd47 _ _ _) hx hlo ?_ | refine good_round mix ?_ | (refine bin_neq ?_ ?_ <;> intro _ <;> try (exfalso; omega)) | (refine bin_lss ?_ ?_ <;> intro _ <;> try (exfalso; omega)) | refine good_ga rfl ?_ | refine good_f0 ?_)
  exact hk'

/-! ### A text's object -/

theorem good_ixs {P : Program} {M : Mac} [hM : IsM P M] {k : Nat → Res} {bits i : Nat} (hk : (k (byteAt bits i)).good) : (M.fo (Nat.mod (Nat.shiftRight bits (Nat.mul 8 i)) 256) k).good := good_force hk
noncomputable def eB (c : Int) (l b n i q : Nat) : Env := ((((((env0.set x0 (.pt 6 0)).set x1 (zAV c)).set x2 (.s l b)).set x8 (slv q i)).set x11 (.p n)).set x12 (zAV (i : Int)))
theorem bytes_round (c : Int) (b n i q : Nat) (hi : i < n) (hn : n ≤ 256) (hb : nx ≤ 100000) (hq : Lst W (fun i => .p (byteAt b i)) t nx q i) :
    ∃ t' q', Lst W (fun i => .p (byteAt b i)) t' (nx + 2) q' (i + 1) ∧ SemC Tryz.prog b83_14 (eB c n b n i q) ⟨t, nx⟩ .n (eB c n b n (i + 1) q') ⟨t', nx + 2⟩ := by
  cases i with
  | zero =>
    refine ⟨_, _, hq.app0 (o := .row 1 (PT.updF .nil 0 (some (.p (byteAt b 0)))) .u) hb, semC_d mix fun M _ K hK => ?_⟩
    repeat' (conv => arg 1; whnf
             first | refine good_ixs ?_ | refine good_cvP (byteAt_lt _ _) ?_ | refine good_app0 (L := fun i => .p (byteAt b i)) (lit_get (by omega)) (by rw [PT.upd_get _ _ (by omega), if_pos rfl]; rfl) (by omega) (by omega) ?_ | (refine bin_lss ?_ ?_ <;> intro _ <;> try (exfalso; omega)) | refine bin_add (by omega) (by omega) ?_ | refine good_idx (by omega) ?_ | refine good_lt (by omega) ?_ | refine good_cellZ ?_ | refine good_force ?_ | refine good_uo (by first | decide | omega) ?_ | refine good_ua (by omega) ?_)
    exact hK _ (drop1 (z_zAV (by omega)) (drop1 rfl (drop1 rfl (drop1 rfl (drop1 rfl (drop1 rfl (drop0 _)))))))
  | succ i =>
    have h2 := hq.at' (by omega)
    refine ⟨_, _, hq.app (o := .row 1 (PT.updF .nil 0 (some (.p (byteAt b (i + 1))))) .u) hb, semC_d mix fun M _ K hK => ?_⟩
    repeat' (conv => arg 1; whnf
             first | refine good_ixs ?_ | refine good_cvP (byteAt_lt _ _) ?_ | refine good_app (L := fun i => .p (byteAt b i)) (app_old hq hb) (lit_get (by omega)) (by rw [PT.upd_get _ _ (by omega), if_pos rfl]; rfl) (by omega) (by omega) (by omega) (by omega) ?_ | (refine bin_lss ?_ ?_ <;> intro _ <;> try (exfalso; omega)) | refine bin_add (by omega) (by omega) ?_ | refine good_idx (by omega) ?_ | refine good_lt (by omega) ?_ | refine good_cellZ ?_ | refine good_force ?_ | refine good_uo (by first | decide | omega) ?_ | refine good_ua (by omega) ?_)
    exact hK _ (drop1 (z_zAV (by omega)) (drop1 rfl (drop1 rfl (drop1 rfl (drop1 rfl (drop1 rfl (drop0 _)))))))
theorem bytes_loop (c : Int) (b n : Nat) (hn : n ≤ 256) : ∀ (d i q nx : Nat) (t : PT AO), i + d = n → nx + 2 * d ≤ 90000 → Lst W (fun i => .p (byteAt b i)) t nx q i →
    ∃ t' nx' q', Lst W (fun i => .p (byteAt b i)) t' nx' q' n ∧ SemL Tryz.prog b83_14 (eB c n b n i q) ⟨t, nx⟩ (.x 0) (eB c n b n n q') ⟨t', nx'⟩
  | 0, i, q, nx, t, hi, hb, h => by
    obtain rfl : i = n := by omega
    refine ⟨t, nx, q, h, SemL.exit (by simp) (semC_d mix fun M _ K hK => ?_)⟩
    repeat' (conv => arg 1; whnf
             first | (refine bin_lss ?_ ?_ <;> intro _ <;> try (exfalso; omega)))
    exact hK _ (drop1 rfl (drop1 rfl (drop1 rfl (drop1 rfl (drop1 rfl (drop1 rfl (drop0 _)))))))
  | d + 1, i, q, nx, t, hi, hb, h => by
    obtain ⟨t1, q1, h1, s1⟩ := bytes_round c b n i q (by omega) hn (by omega) h
    obtain ⟨t2, nx2, q2, h2, s2⟩ := bytes_loop c b n hn d (i + 1) q1 (nx + 2) t1 (by omega) (by omega) h1
    exact ⟨t2, nx2, q2, h2, SemL.step s1 s2⟩
theorem bd83 (c : Int) (n b : Nat) : bd 8 (.cons (.pt 6 0) (.cons (zAV c) (.cons (.s n b) .nil))) = true := by
  show (true && (bd 8 (zAV c) && (true && true))) = true
  rw [bd_z]; rfl
/-- The object of a text's bytes. -/
noncomputable def Wd.mkB (W : Wd) (c : Int) (n b : Nat) : Wd := W.mkL c 2 (fun i => byteAt b i) n
theorem cs83 (hW : W.ok) (hc : c = 0 ∨ W.isO c) (hcb : wordB c) (n b : Nat) (hn : n ≤ 256) (hrm : W.room n) : (W.mkB c n b).ok ∧ CSem Tryz.prog 83 (.cons (.pt 6 0) (.cons (zAV c) (.cons (.s n b) .nil))) (hK0 W) (pr (2 * W.en) 0) (hK0 (W.mkB c n b)) := by
  have h0 : Lst W (fun i => .p (byteAt b i)) (hK0 W).t 8 0 0 := ⟨fun _ _ => rfl, Nat.le_refl _, fun h => absurd rfl h⟩
  obtain ⟨t', nx', q', hL, s⟩ := bytes_loop c b n hn n 0 0 8 _ (by omega) (by omega) h0
  have hBL : ∀ i, i < n → ((rowOf (fun i => AV.p (byteAt b i)) n).get i).getD .u = zAV ((byteAt b i : Nat) : Int) ∧ wordB (byteAt b i : Nat) := fun i hi => by
    rw [rowOf_get _ n i (by omega), if_pos hi]
    have := byteAt_lt b i
    exact ⟨(zAV_nat _).symm, by unfold wordB; omega⟩
  have hok : (W.mkB c n b).ok := by
    by_cases h : n = 0
    · subst h; exact mk_ok hW hcb (by decide) (by decide) hrm.1 hrm.2
    · obtain ⟨_, _, h2, _⟩ := make_loop (cap := n) (st := 2) (L := fun i => ((byteAt b i : Nat) : Int)) (2 * W.en) hn (Nat.le_refl n) (hL.at' h).1 hL.n hBL n 0 (W.mk' c 2 n) (setB t' (W.mk' c 2 n)) (by omega) (mk_ok hW hcb (by decide) hn hrm.1 hrm.2) (setB_lo hL.lo) (by rw [setB_hi _ (hL.at' h).1]; exact (hL.at' h).2.2)
      exact h2
  refine ⟨hok, csem_u mix c83 fun M _ K hK => ?_⟩
  cases n with
  | zero =>
    repeat' (conv => arg 1; whnf
             first | refine good_loopE s (drop1 (zAV_nat 0) (drop1 rfl (drop1 rfl (drop1 rfl (drop1 rfl (drop1 rfl (drop0 _))))))) ?_ | refine good82n (L := fun i => byteAt b i) hW hL.lo hL.n hc hcb (by decide) hrm fun t2 q1 q2 _ => ?_)
    exact endK hK hok q1 (pr_eq rfl rfl) (bd_pr _ _ _)
  | succ n =>
    have h2 := hL.at' (by omega)
    repeat' (conv => arg 1; whnf
             first | refine good_loopE s (drop1 (zAV_nat 0) (drop1 rfl (drop1 rfl (drop1 rfl (drop1 rfl (drop1 rfl (drop0 _))))))) ?_ | refine good82 hW hL.lo hL.n hn (Nat.le_refl _) h2.1 h2.2.2 hBL hc hcb (by decide) hrm fun t2 q1 q2 _ => ?_)
    exact endK hK hok q1 (pr_eq rfl rfl) (bd_pr _ _ _)
end
end Go.Ev
namespace Go.Ev
open Go.Proofs
set_option maxRecDepth 100000
attribute [local irreducible] zAV

section
variable {W W' W'' : Wd} {z i v c f : Int} {n m j : Nat} {L : Nat → Int}

/-- Fields of one object were put, and no others. -/
structure PutR (z : Int) (W W' : Wd) : Prop where
  ok : W'.ok
  rest : W'.en = W.en ∧ W'.md = W.md ∧ W'.sz = W.sz ∧ W'.cl = W.cl ∧ W'.sy = W.sy ∧ W'.sc = W.sc ∧ W'.rt = W.rt ∧ W'.pt = W.pt
  same : ∀ y, W'.cls y = W.cls y ∧ W'.fmt y = W.fmt y ∧ W'.fds y = W.fds y
  wd : ∀ a : Nat, ((a : Int) < W.at' z + 3 ∨ W.at' z + 3 + W.fds z ≤ a) → W'.wd a = W.wd a
theorem PutR.has (h : PutR z W W') (a : Nat) : W'.has a = W.has a := by unfold Wd.has; rw [h.rest.2.2.2.2.2.2.2]
theorem PutR.isO (h : PutR z W W') (y : Int) : W'.isO y ↔ W.isO y := by unfold Wd.isO; rw [h.has]
theorem PutR.at (h : PutR z W W') (y : Int) : W'.at' y = W.at' y := by
  unfold Wd.at'
  by_cases q : W.isO y
  · rw [if_pos q, if_pos ((h.isO y).2 q)]
  · rw [if_neg q, if_neg fun h2 => q ((h.isO y).1 h2)]
theorem PutR.may (h : PutR z W W') (y : Int) : W'.may y ↔ W.may y := by unfold Wd.may; rw [h.isO]
theorem PutR.ro (h : PutR z W W') (k : Nat) : W'.ro k = W.ro k := by unfold Wd.ro; rw [h.rest.2.2.2.2.2.2.1]
theorem PutR.refl (hW : W.ok) : PutR z W W := ⟨hW, ⟨rfl, rfl, rfl, rfl, rfl, rfl, rfl, rfl⟩, fun _ => ⟨rfl, rfl, rfl⟩, fun _ _ => rfl⟩
theorem PutR.trans (a : PutR z W W') (b : PutR z W' W'') : PutR z W W'' where
  ok := b.ok
  rest := ⟨b.rest.1.trans a.rest.1, b.rest.2.1.trans a.rest.2.1, b.rest.2.2.1.trans a.rest.2.2.1, b.rest.2.2.2.1.trans a.rest.2.2.2.1, b.rest.2.2.2.2.1.trans a.rest.2.2.2.2.1, b.rest.2.2.2.2.2.1.trans a.rest.2.2.2.2.2.1, b.rest.2.2.2.2.2.2.1.trans a.rest.2.2.2.2.2.2.1, b.rest.2.2.2.2.2.2.2.trans a.rest.2.2.2.2.2.2.2⟩
  same y := ⟨(b.same y).1.trans (a.same y).1, (b.same y).2.1.trans (a.same y).2.1, (b.same y).2.2.trans (a.same y).2.2⟩
  wd x hx := by rw [b.wd x (by rw [a.at, (a.same z).2.2]; exact hx), a.wd x hx]
theorem put1_R (hW : W.ok) (hv : wordB v) : PutR z W (W.put1 z i v) where
  ok := put1_ok hW hv
  rest := by unfold Wd.put1; split <;> exact ⟨rfl, rfl, rfl, rfl, rfl, rfl, rfl, rfl⟩
  same y := ⟨(put1_same hW y).2.1, (put1_same hW y).2.2.1, (put1_same hW y).2.2.2.1⟩
  wd a ha := by
    rw [put1_wd hW, if_neg]
    rintro ⟨h1, h2⟩
    have q := perr_in h1
    have := q.1.in hW
    omega
theorem putL_R (hL : ∀ i, wordB (L i)) : ∀ (n j : Nat) (W : Wd), W.ok → PutR z W (W.putL z L j n)
  | 0, _, _, hW => PutR.refl hW
  | n + 1, j, _, hW => (put1_R hW (hL j)).trans (putL_R hL n (j + 1) _ (put1_ok hW (hL j)))
/-- Words that may be put into fields of a format. -/
def okF (W : Wd) (f v : Int) : Prop := (f = 0 → W.may v) ∧ (f = 2 → 0 ≤ v ∧ v ≤ 255)
theorem perr_0 (q : W.isO z) (h0 : 0 ≤ i) (h1 : i < W.fds z) (hv : okF W (W.fmt z) v) : W.perr z i v = 0 := by
  unfold Wd.perr
  rw [if_pos q, if_pos ⟨h0, h1⟩, if_neg]
  rintro (h | h)
  · exact h.2 (hv.1 h.1)
  · have := hv.2 h.1; omega
theorem putL_fld (hL : ∀ i, wordB (L i)) : ∀ (n j : Nat) (W : Wd), W.ok → W.isO z → ((j + n : Nat) : Int) ≤ W.fds z → (∀ i, j ≤ i → i < j + n → okF W (W.fmt z) (L i)) →
    ∀ i : Nat, (W.putL z L j n).fld z i = if j ≤ i ∧ i < j + n then L i else W.fld z i
  | 0, j, W, hW, q, hn, ho, i => by rw [if_neg (by omega)]; rfl
  | n + 1, j, W, hW, q, hn, ho, i => by
    have h1 := put1_R (z := z) (i := (j : Int)) hW (hL j)
    have hp := perr_0 (i := (j : Int)) q (by omega) (by omega) (ho j (by omega) (by omega))
    have qi := q.in hW
    show ((W.put1 z j (L j)).putL z L (j + 1) n).fld z i = _
    rw [putL_fld hL n (j + 1) _ h1.ok ((h1.isO z).2 q) (by rw [(h1.same z).2.2]; omega) (fun i h2 h3 => by
      rw [(h1.same z).2.1]
      have := ho i (by omega) (by omega)
      exact ⟨fun h => (h1.may _).2 (this.1 h), this.2⟩) i]
    by_cases e : j + 1 ≤ i ∧ i < j + 1 + n
    · rw [if_pos e, if_pos (by omega)]
    · rw [if_neg e]
      unfold Wd.fld
      rw [h1.at, put1_wd hW]
      by_cases e2 : i = j
      · rw [if_pos ⟨hp, by rw [e2]⟩, if_pos (by omega), e2]
      · rw [if_neg (fun h => e2 (by have := h.2; omega)), if_neg (by omega)]

/-- An object that was made of a list: what it is. -/
structure Made (W W' : Wd) (z c f : Int) (L : Nat → Int) (n : Nat) : Prop where
  g : Grow W W'
  ptr : z = 2 * W.en
  isO : W'.isO z
  cls : W'.cls z = c
  fmt : W'.fmt z = f
  fds : W'.fds z = n
  fld : ∀ i : Nat, i < n → W'.fld z i = L i
  md : W'.md = W.md + 1
  en : W'.en = W.en + n + 3
  new : ∀ a, W'.has a = true ↔ a = W.en ∨ W.has a = true
theorem mkL_made (hW : W.ok) (hcb : wordB c) (hf : 0 ≤ f ∧ f ≤ 2) (hn : n ≤ 256) (hr : W.room n) (hL : ∀ i, wordB (L i)) (ho : ∀ i, i < n → okF (W.mk' c f n) f (L i)) : Made W (W.mkL c f L n) (2 * W.en) c f L n := by
  have he := hW.e
  have hr2 := hr.1
  have hg := mk_grow (n := n) hW hcb hf hn hr.1 hr.2
  obtain ⟨n1, n2, n3, n4, n5, n6⟩ := mk_new (c := c) (n := n) hW hf hr.1
  have hp := putL_R (z := 2 * W.en) hL n 0 (W.mk' c f n) hg.ok
  have hfl := putL_fld (z := 2 * W.en) hL n 0 (W.mk' c f n) hg.ok n1 (by rw [n5]; omega) (fun i _ h => by rw [n4]; exact ho i (by omega))
  refine ⟨⟨hp.ok, fun a ha => ?_, fun a ha => ?_, fun a ha => ?_, ?_, ?_, fun k hk => ?_, ?_, ?_⟩, rfl, (hp.isO _).2 n1, (hp.same _).1.trans n3, (hp.same _).2.1.trans n4, (hp.same _).2.2.trans n5, fun i hi => ?_, ?_, ?_, fun a => ?_⟩
  · show ((W.mk' c f n).putL _ L 0 n).has a = true
    rw [hp.has]; exact hg.has a ha
  · exact hg.new a (by rw [← hp.has]; exact ha)
  · show ((W.mk' c f n).putL _ L 0 n).wd a = _
    rw [hp.wd a (by rw [n2]; omega)]; exact hg.wd a ha
  · show W.en ≤ ((W.mk' c f n).putL _ L 0 n).en
    rw [hp.rest.1]; exact hg.en
  · exact hp.rest.2.2.1.trans hg.sz
  · exact (hp.ro k).trans (hg.rt k hk)
  · exact hp.rest.2.2.2.1.trans hg.cl
  · show W.md ≤ ((W.mk' c f n).putL _ L 0 n).md
    rw [hp.rest.2.1]; exact hg.md
  · show ((W.mk' c f n).putL _ L 0 n).fld _ i = _
    rw [hfl, if_pos (by omega)]
  · exact hp.rest.2.1
  · exact hp.rest.1
  · show ((W.mk' c f n).putL _ L 0 n).has a = true ↔ _
    rw [hp.has]; exact mk_has (by omega) a
end
end Go.Ev
