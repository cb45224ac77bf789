/-
  An abstract evaluator for Go code under the model: regions that draw their order: the order that the evaluator takes, and why it may.
-/
import Derived.Test.YtceplogmemkblaaGreatEvQ
namespace Go.Ev

/-! ### Equal abstract values -/

noncomputable def kdN (k : IntKind) : Nat := IntKind.rec (motive := fun _ => Nat) 0 1 2 3 4 5 6 7 k
theorem kdN_inj {a b : IntKind} (h : kdN a = kdN b) : a = b := by cases a <;> cases b <;> first | rfl | (exact absurd h (by decide))

noncomputable def eqA (x : AV) : AV → Bool :=
  AV.rec (motive := fun _ => AV → Bool) (fun y => AV.rec (motive := fun _ => Bool) (true) (fun _ => false) (fun _ => false) (fun _ => false) (fun _ _ => false) (fun _ _ => false) (fun _ _ => false) (false) (fun _ _ _ _ _ => false) (false) (false) (fun _ => false) (false) (fun _ _ _ _ _ => false) (false) (fun _ _ => false) (fun _ _ => false) (false) (fun _ _ _ _ => false) y)
    (fun a y => AV.rec (motive := fun _ => Bool) (false) (fun b => Bool.rec (motive := fun _ => Bool) (Bool.rec (motive := fun _ => Bool) true false b) b a) (fun _ => false) (fun _ => false) (fun _ _ => false) (fun _ _ => false) (fun _ _ => false) (false) (fun _ _ _ _ _ => false) (false) (false) (fun _ => false) (false) (fun _ _ _ _ _ => false) (false) (fun _ _ => false) (fun _ _ => false) (false) (fun _ _ _ _ => false) y)
    (fun a y => AV.rec (motive := fun _ => Bool) (false) (fun _ => false) (fun b => Nat.beq a b) (fun _ => false) (fun _ _ => false) (fun _ _ => false) (fun _ _ => false) (false) (fun _ _ _ _ _ => false) (false) (false) (fun _ => false) (false) (fun _ _ _ _ _ => false) (false) (fun _ _ => false) (fun _ _ => false) (false) (fun _ _ _ _ => false) y)
    (fun a y => AV.rec (motive := fun _ => Bool) (false) (fun _ => false) (fun _ => false) (fun b => Nat.beq a b) (fun _ _ => false) (fun _ _ => false) (fun _ _ => false) (false) (fun _ _ _ _ _ => false) (false) (false) (fun _ => false) (false) (fun _ _ _ _ _ => false) (false) (fun _ _ => false) (fun _ _ => false) (false) (fun _ _ _ _ => false) y)
    (fun k a y => AV.rec (motive := fun _ => Bool) (false) (fun _ => false) (fun _ => false) (fun _ => false) (fun k' b => and (Nat.beq (kdN k) (kdN k')) (Nat.beq a b)) (fun _ _ => false) (fun _ _ => false) (false) (fun _ _ _ _ _ => false) (false) (false) (fun _ => false) (false) (fun _ _ _ _ _ => false) (false) (fun _ _ => false) (fun _ _ => false) (false) (fun _ _ _ _ => false) y)
    (fun l a y => AV.rec (motive := fun _ => Bool) (false) (fun _ => false) (fun _ => false) (fun _ => false) (fun _ _ => false) (fun l' b => and (Nat.beq l l') (Nat.beq a b)) (fun _ _ => false) (false) (fun _ _ _ _ _ => false) (false) (false) (fun _ => false) (false) (fun _ _ _ _ _ => false) (false) (fun _ _ => false) (fun _ _ => false) (false) (fun _ _ _ _ => false) y)
    (fun l a y => AV.rec (motive := fun _ => Bool) (false) (fun _ => false) (fun _ => false) (fun _ => false) (fun _ _ => false) (fun _ _ => false) (fun l' b => and (Nat.beq l l') (Nat.beq a b)) (false) (fun _ _ _ _ _ => false) (false) (false) (fun _ => false) (false) (fun _ _ _ _ _ => false) (false) (fun _ _ => false) (fun _ _ => false) (false) (fun _ _ _ _ => false) y)
    (fun y => AV.rec (motive := fun _ => Bool) (false) (fun _ => false) (fun _ => false) (fun _ => false) (fun _ _ => false) (fun _ _ => false) (fun _ _ => false) (true) (fun _ _ _ _ _ => false) (false) (false) (fun _ => false) (false) (fun _ _ _ _ _ => false) (false) (fun _ _ => false) (fun _ _ => false) (false) (fun _ _ _ _ => false) y)
    (fun a b c d e y => AV.rec (motive := fun _ => Bool) (false) (fun _ => false) (fun _ => false) (fun _ => false) (fun _ _ => false) (fun _ _ => false) (fun _ _ => false) (false) (fun a' b' c' d' e' => and (Nat.beq a a') (and (Nat.beq b b') (and (Nat.beq c c') (and (Nat.beq d d') (Nat.beq e e'))))) (false) (false) (fun _ => false) (false) (fun _ _ _ _ _ => false) (false) (fun _ _ => false) (fun _ _ => false) (false) (fun _ _ _ _ => false) y)
    (fun y => AV.rec (motive := fun _ => Bool) (false) (fun _ => false) (fun _ => false) (fun _ => false) (fun _ _ => false) (fun _ _ => false) (fun _ _ => false) (false) (fun _ _ _ _ _ => false) (true) (false) (fun _ => false) (false) (fun _ _ _ _ _ => false) (false) (fun _ _ => false) (fun _ _ => false) (false) (fun _ _ _ _ => false) y)
    (fun y => AV.rec (motive := fun _ => Bool) (false) (fun _ => false) (fun _ => false) (fun _ => false) (fun _ _ => false) (fun _ _ => false) (fun _ _ => false) (false) (fun _ _ _ _ _ => false) (false) (true) (fun _ => false) (false) (fun _ _ _ _ _ => false) (false) (fun _ _ => false) (fun _ _ => false) (false) (fun _ _ _ _ => false) y)
    (fun a y => AV.rec (motive := fun _ => Bool) (false) (fun _ => false) (fun _ => false) (fun _ => false) (fun _ _ => false) (fun _ _ => false) (fun _ _ => false) (false) (fun _ _ _ _ _ => false) (false) (false) (fun b => Nat.beq a b) (false) (fun _ _ _ _ _ => false) (false) (fun _ _ => false) (fun _ _ => false) (false) (fun _ _ _ _ => false) y)
    (fun y => AV.rec (motive := fun _ => Bool) (false) (fun _ => false) (fun _ => false) (fun _ => false) (fun _ _ => false) (fun _ _ => false) (fun _ _ => false) (false) (fun _ _ _ _ _ => false) (false) (false) (fun _ => false) (true) (fun _ _ _ _ _ => false) (false) (fun _ _ => false) (fun _ _ => false) (false) (fun _ _ _ _ => false) y)
    (fun f _ _ i1 i2 y => AV.rec (motive := fun _ => Bool) (false) (fun _ => false) (fun _ => false) (fun _ => false) (fun _ _ => false) (fun _ _ => false) (fun _ _ => false) (false) (fun _ _ _ _ _ => false) (false) (false) (fun _ => false) (false) (fun f' a' b' _ _ => and (Nat.beq f f') (and (i1 a') (i2 b'))) (false) (fun _ _ => false) (fun _ _ => false) (false) (fun _ _ _ _ => false) y)
    (fun y => AV.rec (motive := fun _ => Bool) (false) (fun _ => false) (fun _ => false) (fun _ => false) (fun _ _ => false) (fun _ _ => false) (fun _ _ => false) (false) (fun _ _ _ _ _ => false) (false) (false) (fun _ => false) (false) (fun _ _ _ _ _ => false) (true) (fun _ _ => false) (fun _ _ => false) (false) (fun _ _ _ _ => false) y)
    (fun _ i y => AV.rec (motive := fun _ => Bool) (false) (fun _ => false) (fun _ => false) (fun _ => false) (fun _ _ => false) (fun _ _ => false) (fun _ _ => false) (false) (fun _ _ _ _ _ => false) (false) (false) (fun _ => false) (false) (fun _ _ _ _ _ => false) (false) (fun a' _ => i a') (fun _ _ => false) (false) (fun _ _ _ _ => false) y)
    (fun _ i y => AV.rec (motive := fun _ => Bool) (false) (fun _ => false) (fun _ => false) (fun _ => false) (fun _ _ => false) (fun _ _ => false) (fun _ _ => false) (false) (fun _ _ _ _ _ => false) (false) (false) (fun _ => false) (false) (fun _ _ _ _ _ => false) (false) (fun _ _ => false) (fun a' _ => i a') (false) (fun _ _ _ _ => false) y)
    (fun y => AV.rec (motive := fun _ => Bool) (false) (fun _ => false) (fun _ => false) (fun _ => false) (fun _ _ => false) (fun _ _ => false) (fun _ _ => false) (false) (fun _ _ _ _ _ => false) (false) (false) (fun _ => false) (false) (fun _ _ _ _ _ => false) (false) (fun _ _ => false) (fun _ _ => false) (true) (fun _ _ _ _ => false) y)
    (fun _ _ i1 i2 y => AV.rec (motive := fun _ => Bool) (false) (fun _ => false) (fun _ => false) (fun _ => false) (fun _ _ => false) (fun _ _ => false) (fun _ _ => false) (false) (fun _ _ _ _ _ => false) (false) (false) (fun _ => false) (false) (fun _ _ _ _ _ => false) (false) (fun _ _ => false) (fun _ _ => false) (false) (fun a' b' _ _ => and (i1 a') (i2 b')) y) x

theorem beq_eq {a b : Nat} (h : Nat.beq a b = true) : a = b := Nat.eq_of_beq_eq_true h
theorem and_b {a b : Bool} (h : and a b = true) : a = true ∧ b = true := by cases a <;> cases b <;> first | exact ⟨rfl, rfl⟩ | (exact absurd h (by decide))

theorem eqA_eq : ∀ {x y : AV}, eqA x y = true → x = y := by
  intro x
  induction x with
  | u => intro y h; cases y <;> first | rfl | (cases h; done)
  | b a => intro y h; cases y <;> first | (cases h; done) | (rename_i b; cases a <;> cases b <;> first | rfl | (cases h; done))
  | p a => intro y h; cases y <;> first | (cases h; done) | (rename_i b; rw [beq_eq (show Nat.beq a b = true from h)])
  | n a => intro y h; cases y <;> first | (cases h; done) | (rename_i b; rw [beq_eq (show Nat.beq a b = true from h)])
  | w k a => intro y h; cases y <;> first | (cases h; done) | (rename_i k' b; obtain ⟨h1, h2⟩ := and_b (show and (Nat.beq (kdN k) (kdN k')) (Nat.beq a b) = true from h); rw [kdN_inj (beq_eq h1), beq_eq h2])
  | s l a => intro y h; cases y <;> first | (cases h; done) | (rename_i l' b; obtain ⟨h1, h2⟩ := and_b (show and (Nat.beq l l') (Nat.beq a b) = true from h); rw [beq_eq h1, beq_eq h2])
  | pt l a => intro y h; cases y <;> first | (cases h; done) | (rename_i l' b; obtain ⟨h1, h2⟩ := and_b (show and (Nat.beq l l') (Nat.beq a b) = true from h); rw [beq_eq h1, beq_eq h2])
  | np => intro y h; cases y <;> first | rfl | (cases h; done)
  | sl a b c d e =>
    intro y h; cases y <;> first
      | (cases h; done)
      | (rename_i a' b' c' d' e'
         obtain ⟨h1, h⟩ := and_b (show and (Nat.beq a a') (and (Nat.beq b b') (and (Nat.beq c c') (and (Nat.beq d d') (Nat.beq e e')))) = true from h)
         obtain ⟨h2, h⟩ := and_b h
         obtain ⟨h3, h⟩ := and_b h
         obtain ⟨h4, h5⟩ := and_b h
         rw [beq_eq h1, beq_eq h2, beq_eq h3, beq_eq h4, beq_eq h5])
  | ns => intro y h; cases y <;> first | rfl | (cases h; done)
  | ez => intro y h; cases y <;> first | rfl | (cases h; done)
  | mp a => intro y h; cases y <;> first | (cases h; done) | (rename_i b; rw [beq_eq (show Nat.beq a b = true from h)])
  | nm => intro y h; cases y <;> first | rfl | (cases h; done)
  | fn f a b i1 i2 =>
    intro y h; cases y <;> first
      | (cases h; done)
      | (rename_i f' a' b'
         obtain ⟨h1, h⟩ := and_b (show and (Nat.beq f f') (and (eqA a a') (eqA b b')) = true from h)
         obtain ⟨h2, h3⟩ := and_b h
         rw [beq_eq h1, i1 h2, i2 h3])
  | nf => intro y h; cases y <;> first | rfl | (cases h; done)
  | ag a i => intro y h; cases y <;> first | (cases h; done) | (rename_i a'; rw [i (show eqA a a' = true from h)])
  | tu a i => intro y h; cases y <;> first | (cases h; done) | (rename_i a'; rw [i (show eqA a a' = true from h)])
  | nil => intro y h; cases y <;> first | rfl | (cases h; done)
  | cons a b i1 i2 =>
    intro y h; cases y <;> first
      | (cases h; done)
      | (rename_i a' b'
         obtain ⟨h1, h2⟩ := and_b (show and (eqA a a') (eqA b b') = true from h)
         rw [i1 h1, i2 h2])

/-! ### The order taken -/

/-- An item of the order: an operation that only looks; one that changes the heap, and the loads that are looked at again behind it; the late maker of a block. -/
inductive PI where
  | H (j : Nat)
  | C (j : Nat) (cks : List Nat)
  | Z (j : Nat) (cks : List Nat)

inductive CL where
  | nil
  | cons (g : GD) (l : LO) (d : Ix) (r : CL)
inductive DL where
  | nil
  | h (g : GD) (d : DD) (o : AOp) (r : DL)
  | c (g : GD) (d : DD) (o : AOp) (cks : CL) (r : DL)
  | z (d : DD) (w : WOp) (cks : CL) (r : DL)

noncomputable def sameK (d : Ix) (e : Env) (k : Res) (v : AV) : Res := Env.getK d (fun v' => iteK (eqA v v') k (.fail 105)) e
noncomputable def cksK (c : CL) : Env → H → Res → Res :=
  CL.rec (motive := fun _ => Env → H → Res → Res) (fun _ _ k => k) (fun g l d _ ih e h k => gdBK g (hLO l e h (sameK d e (ih e h k))) (sameK d e (ih e h k) (.tu .nil)) e) c
noncomputable def dlK (l : DL) : CK → Env → H → (Env → H → Res) → Res :=
  DL.rec (motive := fun _ => CK → Env → H → (Env → H → Res) → Res) (fun _ e h k => k e h)
    (fun g d o _ ih ck e h k => stepK g d o ck e h fun e h => ih ck e h k)
    (fun g d o cks _ ih ck e h k => stepK g d o ck e h fun e h => cksK cks e h (ih ck e h k))
    (fun d w cks _ ih ck e h k => hW w e h fun v h => ddK d v (fun e => cksK cks e h (ih ck e h k)) e) l

def cmpCks (P : Program) (ops : Array Oper) : List Nat → Option CL
  | [] => some .nil
  | j :: r => match ops[j]? with
    | some o => match cmpG ops o.guard, cmpO P o, o.dst.bind ixOf, cmpCks P ops r with
      | some g, some (.L l), some i, some c => some (.cons g l i c)
      | _, _, _, _ => none
    | none => none

def cmpLate (P : Program) (o : Oper) : Option WOp :=
  if o.guard.isNone then
    match o.op with
    | .alloc t => match (zeroOf P t).bind fun z => constL z.cells.toList with | some l => some (.al l) | none => none
    | .buildSlice t len ps =>
      match P.underlying t with
      | some (.slice el) =>
        match szOf P el, zeroOf P el with
        | some s, some z =>
          if len * s > 2 ^ 24 ∨ len * s = 0 then none else
          match constL ((Array.range (len * s)).map (z.cells[· % z.cells.size]!)).toList, partsOf (fun i => some (i * s, s)) ps.toList with
          | some l, some ps' => some (.bs l len ps')
          | _, _ => none
        | _, _ => none
      | _ => none
    | _ => none
  else none

def cmpPlan (P : Program) (nt : Nat) (ops : Array Oper) : List PI → Option DL
  | [] => some .nil
  | .H j :: r => match ops[j]? with
    | some o => match cmpG ops o.guard, cmpD nt o.dst, cmpO P o, cmpPlan P nt ops r with
      | some g, some d, some (.P p), some l => some (.h g d (.P p) l)
      | some g, some d, some (.L p), some l => some (.h g d (.L p) l)
      | _, _, _, _ => none
    | none => none
  | .C j cks :: r => match ops[j]? with
    | some o => match cmpG ops o.guard, cmpD nt o.dst, cmpO P o, cmpCks P ops cks, cmpPlan P nt ops r with
      | some g, some d, some a, some c, some l => some (.c g d a c l)
      | _, _, _, _, _ => none
    | none => none
  | .Z j cks :: r => match ops[j]? with
    | some o => match cmpLate P o, cmpD nt o.dst, cmpCks P ops cks, cmpPlan P nt ops r with
      | some cs, some d, some c, some l => some (.z d cs c l)
      | _, _, _, _ => none
    | none => none

/-! ### What a run along the order shows -/

def LateS (P : Program) (ops : Array Oper) (o : Oper) (ρ : Ix → AV) (v : AV) (h h1 : H) : Prop :=
  ∃ az cv t', MakeS P ops o ρ az cv ∧ (∀ (μ : Nat → Nat) (w : World), VR μ (h.nx + 1) w v (cv (μ h.nx))) ∧ (∀ j, t'.get j = if j = h.nx then some az else h.t.get j) ∧ h1 = ⟨t', h.nx + 1⟩

def isLoad (P : Program) (o : Oper) : Bool := match cmpO P o with | some (.L _) => true | _ => false

def Again (P : Program) (ops : Array Oper) (e : Env) (h : H) (cks : List Nat) : Prop :=
  ∀ k ∈ cks, ∃ ok i, ops[k]? = some ok ∧ ok.dst = some (Ix.toNat i) ∧ StepS P ops ok e.get h (e.get i) h

def Tr (P : Program) (nt : Nat) (ops : Array Oper) : List PI → Env → H → Env → List H → Prop
  | [], e, _, e', hs => e' = e ∧ hs = []
  | .H j :: r, e, h, e', hs => ∃ o d v, ops[j]? = some o ∧ cmpD nt o.dst = some d ∧ StepS P ops o e.get h v h ∧ (isLoad P o = true ∨ ∀ hh, StepS P ops o e.get hh v hh) ∧ Tr P nt ops r (dset d e v) h e' hs
  | .C j cks :: r, e, h, e', hs => ∃ o d v h1 hs', hs = h1 :: hs' ∧ ops[j]? = some o ∧ cmpD nt o.dst = some d ∧ StepS P ops o e.get h v h1 ∧ Again P ops (dset d e v) h1 cks ∧ Tr P nt ops r (dset d e v) h1 e' hs'
  | .Z j cks :: r, e, h, e', hs => ∃ o d v h1 hs', hs = h1 :: hs' ∧ ops[j]? = some o ∧ cmpD nt o.dst = some d ∧ LateS P ops o e.get v h h1 ∧ Again P ops (dset d e v) h1 cks ∧ Tr P nt ops r (dset d e v) h1 e' hs'

def hat : H → List H → Nat → H
  | h, _, 0 => h
  | _, h1 :: r, x + 1 => hat h1 r x
  | h, [], _ + 1 => h
theorem hat_zero (h : H) (hs : List H) : hat h hs 0 = h := by cases hs <;> rfl

section
variable {P : Program} {nt : Nat} {ops : Array Oper} {ck : CK}

theorem cksK_good : ∀ {cks : List Nat} {c : CL} {e : Env} {h : H} {k : Res}, cmpCks P ops cks = some c → (cksK c e h k).good → Again P ops e h cks ∧ k.good
  | [], c, e, h, k, hc, hg => by cases hc; exact ⟨fun _ hk => (by cases hk), hg⟩
  | j :: r, c, e, h, k, hc, hg => by
    unfold cmpCks at hc
    split at hc
    · rename_i o ho
      split at hc
      · rename_i g l i c' h1 h2 h3 h4
        cases hc
        have hg : (gdBK g (hLO l e h (sameK i e (cksK c' e h k))) (sameK i e (cksK c' e h k) (.tu .nil)) e).good := hg
        obtain ⟨t, ht, hi⟩ := Option.bind_eq_some_iff.1 h3
        have hd : o.dst = some i.toNat := by rw [ht, ixOf_toNat hi]
        have same : ∀ {v : AV}, (sameK i e (cksK c' e h k) v).good → v = e.get i ∧ (cksK c' e h k).good := by
          intro v hs
          unfold sameK at hs
          rw [Env.getK_eq] at hs
          obtain ⟨h5, h6⟩ := iteK_good hs
          exact ⟨eqA_eq h5, h6⟩
        have key : ∃ v, StepS P ops o e.get h v h ∧ v = e.get i ∧ (cksK c' e h k).good := by
          rcases gdBK_good h1 hg with ⟨hw, hg⟩ | ⟨hw, hg⟩
          · have hcl : compLO P o = some l := by
              unfold cmpO at h2
              split at h2
              · cases h2
              · split at h2
                · rename_i hl; cases h2; exact hl
                · split at h2
                  · cases h2
                  · split at h2
                    · obtain ⟨_, _, q⟩ := Option.map_eq_some_iff.1 h2; cases q
                    · split at h2 <;> cases h2
                    · cases h2
            obtain ⟨v, h5, h6⟩ := compLO_good hcl hg
            obtain ⟨h7, h8⟩ := same h6
            refine ⟨v, fun μ w a Q K hr hh hk => ?_, h7, h8⟩
            rw [if_pos (hw μ _ w a hr)]
            exact h5.osem μ w a K Q hr.rho hh hk
          · obtain ⟨h7, h8⟩ := same hg
            refine ⟨.tu .nil, fun μ w a Q K hr hh hk => ?_, h7, h8⟩
            rw [if_neg (by rw [hw μ _ w a hr]; simp)]
            exact hk μ undef w (Ext.refl μ h w hh) hh ⟨#[], rfl, rfl⟩
        obtain ⟨v, h5, h6, h7⟩ := key
        obtain ⟨h8, h9⟩ := cksK_good h4 h7
        refine ⟨fun x hx => ?_, h9⟩
        rcases List.mem_cons.1 hx with rfl | hx
        · exact ⟨o, i, ho, hd, h6 ▸ h5⟩
        · exact h8 x hx
      · cases hc
    · cases hc

theorem stepP_good {o : Oper} {e : Env} {h : H} {g : GD} {d : DD} {p : POp} {k : Env → H → Res} (hg : cmpG ops o.guard = some g) (ho : compP P o = some p) (hgood : (stepK g d (.P p) ck e h k).good) :
    ∃ v, (∀ hh, StepS P ops o e.get hh v hh) ∧ (k (dset d e v) h).good := by
  rcases gdBK_good hg hgood with ⟨hw, hgood⟩ | ⟨hw, hgood⟩
  · obtain ⟨v, h1, h2⟩ := compP_good ho (show (hP p e fun v => ddK d v (fun e' => k e' h) e).good from hgood)
    simp only [ddK_eq] at h2
    refine ⟨v, fun hh μ w a Q K hr hH hk => ?_, h2⟩
    rw [if_pos (hw μ _ w a hr)]
    exact (h1.rsem hh).osem μ w a K Q hr.rho hH hk
  · rw [ddK_eq] at hgood
    refine ⟨.tu .nil, fun hh μ w a Q K hr hH hk => ?_, hgood⟩
    rw [if_neg (by rw [hw μ _ w a hr]; simp)]
    exact hk μ undef w (Ext.refl μ hh w hH) hH ⟨#[], rfl, rfl⟩

theorem compP_of {o : Oper} {p : POp} (h : cmpO P o = some (.P p)) : compP P o = some p := by
  unfold cmpO at h
  split at h
  · rename_i hp; cases h; exact hp
  · split at h
    · cases h
    · split at h
      · cases h
      · split at h
        · obtain ⟨_, _, q⟩ := Option.map_eq_some_iff.1 h; cases q
        · split at h <;> cases h
        · cases h

theorem newRow_late {cs : AV} {h : H} {k : Nat → Nat → H → Res} (hg : (newRowK cs h k).good) : ∃ m tr t', (∀ j, t'.get j = if j = h.nx then some (.row m tr .u) else h.t.get j) ∧ (k h.nx m ⟨t', h.nx + 1⟩).good ∧
    ∀ μ nx w (xs : Array Value) E, VRL μ nx w cs xs.toList → (∀ x ∈ xs.toList, x.oneCell' = true) → OR μ nx w (.row m tr .u) (some (.cells xs E)) := by
  obtain ⟨m, tr, ht, hg⟩ := putsK_good (df := .u) (show (putsK cs 0 .nil fun m t => newK h (.row m t .u) fun b h' => k b m h').good from hg)
  obtain ⟨t', ht', hg⟩ := newK_good hg
  refine ⟨m, tr, t', ht', hg, fun μ nx w xs E h1 h2 => ?_⟩
  obtain ⟨h3, h4⟩ := ht μ nx w _ h1
  have hm : m = xs.size := by simpa using h3
  refine ⟨xs, E, (0, 0), rfl, fun i _ => by omega, Nat.le_of_eq hm, fun i hi hi' => ⟨?_, h2 _ (by simp)⟩⟩
  have := h4 (fun _ => undef) (fun _ => False) (fun _ hh => hh.elim) i (.inr ⟨Nat.zero_le _, hi⟩)
  unfold ov at this
  rw [if_pos ⟨Nat.zero_le _, by simp; omega⟩] at this
  simpa [hi'] using this

theorem late_good {o : Oper} {wo : WOp} {e : Env} {h : H} {k : KW} (hz : cmpLate P o = some wo) (hg : (hW wo e h k).good) : ∃ v h1, LateS P ops o e.get v h h1 ∧ (k v h1).good := by
  unfold cmpLate at hz
  split at hz
  · rename_i hgd
    have hgd : o.guard = none := by simpa using hgd
    split at hz
    · rename_i t ho
      split at hz
      · rename_i cs hcs; cases hz
        obtain ⟨z, hzz, hcs⟩ := Option.bind_eq_some_iff.1 hcs
        obtain ⟨m, tr, t', ht', hg, hor⟩ := newRow_late (show (newRowK cs h fun b _ h' => k (.pt b 0) h').good from hg)
        refine ⟨.pt h.nx 0, _, ⟨_, fun c => .pointer (some ⟨c, 0, none⟩), t', ⟨hgd, fun μ nx w a _ => ⟨.cells z.cells t, ?_, ?_⟩⟩, fun μ w => ⟨Nat.lt_succ_self _, rfl⟩, ht', rfl⟩, hg⟩
        · simp only [execOp, ho]
          refine run_v ?_
          simp [Instr.alloc, run_zeroOf hzz, newVar, newRow]
        · obtain ⟨h1, h2⟩ := constL_VRL hcs μ nx w
          exact hor μ nx w z.cells t h1 h2
      · cases hz
    · rename_i t len ps ho
      split at hz
      · rename_i el hu
        split at hz
        · rename_i s z hs hzz
          split at hz
          · cases hz
          · rename_i hlim
            split at hz
            · rename_i l ps' hc hp
              cases hz
              have hg : (bdK ps' l e fun v => isAg v fun cs => newRowK cs h fun b _ h' => k (.sl b 0 len len 0) h').good := hg
              obtain ⟨r, hr0, hg⟩ := bdK_good (sz := fun i => some (i * s, s)) hg
              obtain ⟨cs, hcs, hg⟩ := isAg_good hg
              cases hcs
              obtain ⟨m, tr, t', ht', hg, hor⟩ := newRow_late hg
              refine ⟨.sl h.nx 0 len len 0, _, ⟨_, fun c => .slice (some ⟨c, 0, none⟩) len len, t', ⟨hgd, fun μ nx w a hrho => ?_⟩, fun μ w => ⟨Nat.lt_succ_self _, Nat.le_refl _, len, rfl, fun _ => rfl, fun hne => absurd rfl hne⟩, ht', rfl⟩, hg⟩
              obtain ⟨h1, h2⟩ := constL_VRL hc μ nx w
              obtain ⟨ys, h3, h4, h5⟩ := hr0 _ hp μ nx w a _ hrho.rho (fun p hp => by simp only [ho, Op.operands]; simp; exact ⟨p.1, by simpa using hp⟩) _ h1 h2
              refine ⟨.cells ys el, ?_, hor μ nx w ys el h4 h5⟩
              simp only [execOp, ho]
              refine run_v ?_
              have h3' : Instr.fill (fun i => some (i * s, s)) ((Array.range (len * s)).map (z.cells[· % z.cells.size]!)) (ps.map fun (i, x) => (i, a.eval x)).toList = some ys := by
                rw [Array.toList_map]; exact h3
              have h24 : ¬ len * s > 2 ^ 24 := fun h => hlim (.inl h)
              have h0 : ¬ len * s = 0 := fun h => hlim (.inr h)
              unfold Instr.buildSlice
              simp only [Sem.run_bind, run_underlying hu, Result.andThen_ok, run_szOf hs, if_neg h24, if_neg h0, run_zeroOf hzz, Sem.run_pure, h3']
              simp [newRow]
            · cases hz
        · cases hz
      · cases hz
    · cases hz
  · cases hz

theorem dlK_good (hck : SemF P ck) : ∀ {plan : List PI} {l : DL} {e : Env} {h : H} {k : Env → H → Res}, cmpPlan P nt ops plan = some l → (dlK l ck e h k).good → ∃ e' hs, (k e' (hat h hs hs.length)).good ∧ Tr P nt ops plan e h e' hs
  | [], l, e, h, k, hc, hg => by cases hc; exact ⟨e, [], hg, rfl, rfl⟩
  | .H j :: r, l, e, h, k, hc, hg => by
    unfold cmpPlan at hc
    split at hc
    · rename_i o ho
      split at hc
      · rename_i g d p l' h1 h2 h3 h4
        cases hc
        obtain ⟨v, h5, h6⟩ := stepP_good h1 (compP_of h3) (show (stepK g d (.P p) ck e h fun e h => dlK l' ck e h k).good from hg)
        obtain ⟨e', hs, h7, h8⟩ := dlK_good hck h4 h6
        exact ⟨e', hs, h7, o, d, v, ho, h2, h5 h, .inr h5, h8⟩
      · rename_i g d p l' h1 h2 h3 h4
        cases hc
        obtain ⟨v, h', h5, h6⟩ := stepK_good hck h1 h3 (show (stepK g d (.L p) ck e h fun e h => dlK l' ck e h k).good from hg)
        have : ∃ v, StepS P ops o e.get h v h ∧ (dlK l' ck (dset d e v) h k).good := by
          rcases gdBK_good h1 (show (gdBK g (hLO p e h fun v => ddK d v (fun e' => dlK l' ck e' h k) e) (ddK d (.tu .nil) (fun e' => dlK l' ck e' h k) e) e).good from hg) with ⟨hw, hg⟩ | ⟨hw, hg⟩
          · have hcl : compLO P o = some p := by
              unfold cmpO at h3
              split at h3
              · cases h3
              · split at h3
                · rename_i hl; cases h3; exact hl
                · split at h3
                  · cases h3
                  · split at h3
                    · obtain ⟨_, _, q⟩ := Option.map_eq_some_iff.1 h3; cases q
                    · split at h3 <;> cases h3
                    · cases h3
            obtain ⟨v, h5, h6⟩ := compLO_good hcl hg
            simp only [ddK_eq] at h6
            refine ⟨v, fun μ w a Q K hr hh hk => ?_, h6⟩
            rw [if_pos (hw μ _ w a hr)]
            exact h5.osem μ w a K Q hr.rho hh hk
          · rw [ddK_eq] at hg
            refine ⟨.tu .nil, fun μ w a Q K hr hh hk => ?_, hg⟩
            rw [if_neg (by rw [hw μ _ w a hr]; simp)]
            exact hk μ undef w (Ext.refl μ h w hh) hh ⟨#[], rfl, rfl⟩
        obtain ⟨v, h5, h6⟩ := this
        obtain ⟨e', hs, h7, h8⟩ := dlK_good hck h4 h6
        exact ⟨e', hs, h7, o, d, v, ho, h2, h5, .inl (by unfold isLoad; rw [h3]), h8⟩
      · cases hc
    · cases hc
  | .C j cks :: r, l, e, h, k, hc, hg => by
    unfold cmpPlan at hc
    split at hc
    · rename_i o ho
      split at hc
      · rename_i g d p c l' h1 h2 h3 h4 h5
        cases hc
        obtain ⟨v, h', h6, h7⟩ := stepK_good hck h1 h3 (show (stepK g d p ck e h fun e h => cksK c e h (dlK l' ck e h k)).good from hg)
        obtain ⟨h8, h9⟩ := cksK_good h4 h7
        obtain ⟨e', hs, h10, h11⟩ := dlK_good hck h5 h9
        exact ⟨e', h' :: hs, h10, o, d, v, h', hs, rfl, ho, h2, h6, h8, h11⟩
      · cases hc
    · cases hc
  | .Z j cks :: r, l, e, h, k, hc, hg => by
    unfold cmpPlan at hc
    split at hc
    · rename_i o ho
      split at hc
      · rename_i cs d c l' h1 h2 h4 h5
        cases hc
        obtain ⟨v, h', h6, h7⟩ := late_good (ops := ops) h1 (show (hW cs e h fun v h => ddK d v (fun e => cksK c e h (dlK l' ck e h k)) e).good from hg)
        simp only [ddK_eq] at h7
        obtain ⟨h8, h9⟩ := cksK_good h4 h7
        obtain ⟨e', hs, h10, h11⟩ := dlK_good hck h5 h9
        exact ⟨e', h' :: hs, h10, o, d, _, h', hs, rfl, ho, h2, h6, h8, h11⟩
      · cases hc
    · cases hc
end

end Go.Ev
