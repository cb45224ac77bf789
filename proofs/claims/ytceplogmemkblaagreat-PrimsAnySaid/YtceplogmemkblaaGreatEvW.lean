/-
  An abstract evaluator for Go code under the model: the table of functions: what it says, row by row; a function's entry by what is proved of its calls.
-/
import Derived.Test.YtceplogmemkblaaGreatEvV
namespace Go.Ev
section
variable {P : Program}

def R1 (P : Program) (b : Nat) (n : N8 AF) : Prop := ∀ d : I8, FRel P (b + d.toNat) (n.get d)
def R2 (P : Program) (b : Nat) (n : N8 (N8 AF)) : Prop := ∀ d : I8, R1 P (b + 8 * d.toNat) (n.get d)
def R3 (P : Program) (b : Nat) (n : N8 (N8 (N8 AF))) : Prop := ∀ d : I8, R2 P (b + 64 * d.toNat) (n.get d)
def R4 (P : Program) (n : Tb) : Prop := ∀ d : I8, R3 P (512 * d.toNat) (n.get d)

theorem R1_mk {b : Nat} {a0 a1 a2 a3 a4 a5 a6 a7 : AF} (h0 : FRel P b a0) (h1 : FRel P (b + 1) a1) (h2 : FRel P (b + 2) a2) (h3 : FRel P (b + 3) a3) (h4 : FRel P (b + 4) a4) (h5 : FRel P (b + 5) a5) (h6 : FRel P (b + 6) a6) (h7 : FRel P (b + 7) a7) :
    R1 P b (.mk a0 a1 a2 a3 a4 a5 a6 a7) := by
  intro d; cases d
  · exact h0
  · exact h1
  · exact h2
  · exact h3
  · exact h4
  · exact h5
  · exact h6
  · exact h7
theorem R2_mk {b : Nat} {a0 a1 a2 a3 a4 a5 a6 a7 : N8 AF} (h0 : R1 P b a0) (h1 : R1 P (b + 8) a1) (h2 : R1 P (b + 16) a2) (h3 : R1 P (b + 24) a3) (h4 : R1 P (b + 32) a4) (h5 : R1 P (b + 40) a5) (h6 : R1 P (b + 48) a6) (h7 : R1 P (b + 56) a7) :
    R2 P b (.mk a0 a1 a2 a3 a4 a5 a6 a7) := by
  intro d; cases d
  · exact h0
  · exact h1
  · exact h2
  · exact h3
  · exact h4
  · exact h5
  · exact h6
  · exact h7
theorem R3_mk {b : Nat} {a0 a1 a2 a3 a4 a5 a6 a7 : N8 (N8 AF)} (h0 : R2 P b a0) (h1 : R2 P (b + 64) a1) (h2 : R2 P (b + 128) a2) (h3 : R2 P (b + 192) a3) (h4 : R2 P (b + 256) a4) (h5 : R2 P (b + 320) a5) (h6 : R2 P (b + 384) a6) (h7 : R2 P (b + 448) a7) :
    R3 P b (.mk a0 a1 a2 a3 a4 a5 a6 a7) := by
  intro d; cases d
  · exact h0
  · exact h1
  · exact h2
  · exact h3
  · exact h4
  · exact h5
  · exact h6
  · exact h7
theorem R4_mk {a0 a1 a2 a3 a4 a5 a6 a7 : N8 (N8 (N8 AF))} (h0 : R3 P 0 a0) (h1 : R3 P 512 a1) (h2 : R3 P 1024 a2) (h3 : R3 P 1536 a3) (h4 : R3 P 2048 a4) (h5 : R3 P 2560 a5) (h6 : R3 P 3072 a6) (h7 : R3 P 3584 a7) :
    R4 P (.mk a0 a1 a2 a3 a4 a5 a6 a7) := by
  intro d; cases d
  · exact h0
  · exact h1
  · exact h2
  · exact h3
  · exact h4
  · exact h5
  · exact h6
  · exact h7
theorem R1_no (b : Nat) : R1 P b t0 := by intro d; cases d <;> trivial
theorem R2_no (b : Nat) : R2 P b t1 := by intro d; cases d <;> exact R1_no _
theorem R3_no (b : Nat) : R3 P b t2 := by intro d; cases d <;> exact R2_no _

theorem R4.rel {T : Tb} (h : R4 P T) : TRel P T := by
  intro f hf
  have := h (i8Of (f / 512)) (i8Of (f / 64)) (i8Of (f / 8)) (i8Of f)
  simp only [i8Of_toNat] at this
  have e : 512 * (f / 512 % 8) + 64 * (f / 64 % 8) + 8 * (f / 8 % 8) + f % 8 = f := by omega
  rw [e] at this
  exact this

/-- The table with another entry. -/
def tset (T : Tb) (f : Nat) (a : AF) : Tb :=
  T.set (i8Of (f / 512)) ((T.get (i8Of (f / 512))).set (i8Of (f / 64)) (((T.get (i8Of (f / 512))).get (i8Of (f / 64))).set (i8Of (f / 8)) ((((T.get (i8Of (f / 512))).get (i8Of (f / 64))).get (i8Of (f / 8))).set (i8Of f) a)))
theorem tget_tset (T : Tb) (f g : Nat) (hf : f < 4096) (hg : g < 4096) (a : AF) : tget (tset T f a) g = if g = f then a else tget T g := by
  have eq : ∀ x y : Nat, i8Of x = i8Of y ↔ x % 8 = y % 8 := fun x y => ⟨fun h => by have := congrArg I8.toNat h; rwa [i8Of_toNat, i8Of_toNat] at this, fun h => I8.toNat_inj (by rw [i8Of_toNat, i8Of_toNat, h])⟩
  unfold tget tset
  simp only [N8.get_set, eq]
  by_cases h1 : g / 512 % 8 = f / 512 % 8
  · have h1' : i8Of (g / 512) = i8Of (f / 512) := (eq _ _).2 h1
    rw [if_pos h1, N8.get_set]
    simp only [eq]
    by_cases h2 : g / 64 % 8 = f / 64 % 8
    · have h2' : i8Of (g / 64) = i8Of (f / 64) := (eq _ _).2 h2
      rw [if_pos h2, N8.get_set]
      simp only [eq]
      by_cases h3 : g / 8 % 8 = f / 8 % 8
      · have h3' : i8Of (g / 8) = i8Of (f / 8) := (eq _ _).2 h3
        rw [if_pos h3, N8.get_set]
        simp only [eq]
        by_cases h4 : g % 8 = f % 8
        · rw [if_pos h4, if_pos (by omega)]
        · rw [if_neg h4, if_neg (by omega), h1', h2', h3']
      · rw [if_neg h3, if_neg (by omega), h1', h2']
    · rw [if_neg h2, if_neg (by omega), h1']
  · rw [if_neg h1, if_neg (by omega)]
theorem TRel.set {T : Tb} (hT : TRel P T) {f : Nat} (hf : f < 4096) {a : AF} (ha : FRel P f a) : TRel P (tset T f a) := by
  intro g hg
  rw [tget_tset T f g hf hg]
  by_cases e : g = f
  · rw [if_pos e, e]; exact ha
  · rw [if_neg e]; exact hT g hg

/-! ### A function whose call is known, from an empty heap -/

/-- Nothing is known of the heap, and nothing was ever made. -/
noncomputable def isNew (h : H) : Bool := H.rec (motive := fun _ => Bool) (fun t nx => PT.rec (motive := fun _ => Bool) (Nat.beq nx 0) (fun _ => false) (fun _ _ _ _ _ _ _ _ _ _ _ _ _ _ _ _ => false) (fun _ _ _ _ _ _ _ _ _ _ _ _ _ _ _ _ => false) t) h
theorem isNew_eq {h : H} (hh : isNew h = true) : h = ⟨.nil, 0⟩ := by
  obtain ⟨t, nx⟩ := h
  cases t with
  | nil => rw [beq_eq (show Nat.beq nx 0 = true from hh)]
  | _ => cases hh
/-- The function at these arguments, called where nothing was made yet. -/
noncomputable def newHk (l0 v : AV) (h' : H) (l : AV) (h : H) (k : AV → H → Res) : Res := iteK (isNew h) (iteK (eqA l l0) (k v h') (.fail 122)) (.fail 122)
theorem newHk_rel {f : Nat} {l0 v : AV} {h' : H} (hs : CSem P f l0 ⟨.nil, 0⟩ v h') : FRel P f (.hk (newHk l0 v h')) := by
  intro l h k hg
  obtain ⟨h1, hg⟩ := iteK_good hg
  obtain ⟨h2, hg⟩ := iteK_good hg
  rw [isNew_eq h1, eqA_eq h2]
  exact ⟨v, h', hs, hg⟩

/-- What is true of a call where nothing is known is true wherever it is made: all that is known stays as it is. -/
theorem CSem.anywhere {f : Nat} {l : AV} {b : Bool} {h' : H} (hl : ∀ μ w nx vs, VRL μ nx w l vs → VRL μ 0 w l vs) (hs : CSem P f l ⟨.nil, 0⟩ (.b b) h') (h : H) : CSem P f l h (.b b) h := by
  have key : ∀ {μ μ' : Nat → Nat} {w w' : World}, HR μ h w → Ext μ ⟨.nil, 0⟩ w μ' h' w' → Ext μ h w μ h w' ∧ HR μ h w' := by
    intro μ μ' w w' hr x
    have same : ∀ b o, h.t.get b = some o → w'.heap[μ b]? = w.heap[μ b]? := fun b o hb => x.frame _ (by
      have ho := hr.obj b o hb
      rcases Nat.lt_or_ge (μ b) w.heap.size with hl | hl
      · exact hl
      · rw [Array.getElem?_eq_none hl] at ho
        cases o with
        | row m t df => obtain ⟨_, _, _, q, _⟩ := ho; cases q
        | im t c hi => obtain ⟨_, q, _⟩ := ho; cases q
        | sm l c => obtain ⟨_, q, _⟩ := ho; cases q
        | si l b p => obtain ⟨q, _⟩ := ho; cases q) (fun b' o' hb' => by simp at hb')
    refine ⟨⟨fun _ _ => rfl, Nat.le_refl _, x.size, x.shape, fun c hc _ => x.frame c hc (fun b' o' hb' => by simp at hb'), fun b o hb => .inl ⟨hr.lt b o hb, o, hb⟩, x.same, hr.glt⟩, hr.lt, fun b o hb => ?_, hr.inj, fun c cs hc => ?_, hr.low⟩
    · rw [same b o hb]
      exact (hr.obj b o hb).mono (fun _ _ => rfl) (Nat.le_refl _) x.shape
    · rw [x.frame c (hr.glt c cs hc) (fun b' o' hb' => by simp at hb')]; exact hr.gl c cs hc
  intro μ w vs hv hr
  have hr0 : HR μ ⟨.nil, 0⟩ w := ⟨fun b o hb => by simp at hb, fun b o hb => by simp at hb, fun b o b' o' hb => by simp at hb, hr.gl, fun b o hb => by simp at hb⟩
  rcases hs μ w vs (hl μ w h.nx vs hv) hr0 with ⟨h1, h2⟩ | ⟨v', μ', w', h1, h2, h3, h4⟩
  · refine .inl ⟨h1, h2.mono ?_⟩
    rintro e w' ⟨v', rfl, μ', q1, q2, q3⟩
    exact ⟨v', rfl, μ, (key hr q1).1, (key hr q1).2, q3⟩
  · exact .inr ⟨v', μ, w', h1, (key hr h2).1, (key hr h2).2, h4⟩

end
end Go.Ev
