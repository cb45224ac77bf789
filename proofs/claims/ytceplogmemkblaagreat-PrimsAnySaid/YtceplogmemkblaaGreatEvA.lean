/-
  An abstract evaluator for Go code under the model, made to be run by the kernel: its data: abstract values, environments, tries. Plain data: no program in sight.
-/
import GoSem.Core.Sem
namespace Go.Ev

/-- Abstract values. 'u': nothing is known. Lists of values are written by 'nil' and 'cons', so that the type stays a plain one. -/
inductive AV where
  | u
  | b (x : Bool)
  | p (m : Nat)
  | n (m : Nat)
  | w (k : IntKind) (m : Nat)
  | s (len bits : Nat)
  | pt (blk off : Nat)
  | np
  | sl (blk off len cap st : Nat)
  | ns
  | ez
  | mp (blk : Nat)
  | nm
  | fn (f : Nat) (first cap : AV)
  | nf
  | ag (l : AV)
  | tu (l : AV)
  | nil
  | cons (h t : AV)

/-! ### Digits of eight -/

inductive I8 where | i0 | i1 | i2 | i3 | i4 | i5 | i6 | i7
  deriving DecidableEq

def I8.toNat : I8 → Nat
  | .i0 => 0 | .i1 => 1 | .i2 => 2 | .i3 => 3 | .i4 => 4 | .i5 => 5 | .i6 => 6 | .i7 => 7

theorem beq0 (x : Nat) : Nat.beq x 0 = decide (x = 0) := by cases x <;> rfl

/-- Three bits of a number. -/
noncomputable def digI (m4 m2 m1 : Nat) (i : Nat) : I8 :=
  Bool.rec (motive := fun _ => Nat → Nat → Nat → I8)
    (fun i m2 m1 => Bool.rec (motive := fun _ => Nat → Nat → I8) (fun i m1 => Bool.rec (motive := fun _ => I8) .i7 .i6 (Nat.beq (Nat.land i m1) 0)) (fun i m1 => Bool.rec (motive := fun _ => I8) .i5 .i4 (Nat.beq (Nat.land i m1) 0)) (Nat.beq (Nat.land i m2) 0) i m1)
    (fun i m2 m1 => Bool.rec (motive := fun _ => Nat → Nat → I8) (fun i m1 => Bool.rec (motive := fun _ => I8) .i3 .i2 (Nat.beq (Nat.land i m1) 0)) (fun i m1 => Bool.rec (motive := fun _ => I8) .i1 .i0 (Nat.beq (Nat.land i m1) 0)) (Nat.beq (Nat.land i m2) 0) i m1)
    (Nat.beq (Nat.land i m4) 0) i m2 m1

theorem land_bit (i k : Nat) : Nat.beq (Nat.land i (2 ^ k)) 0 = !(i.testBit k) := by
  rw [beq0]
  have hb : ∀ j, (Nat.land i (2 ^ k)).testBit j = (i.testBit j && (2 ^ k).testBit j) := fun j => Nat.testBit_and i (2 ^ k) j
  cases h : i.testBit k with
  | false =>
    have h0 : Nat.land i (2 ^ k) = 0 := by
      apply Nat.eq_of_testBit_eq
      intro j
      rw [hb j, Nat.zero_testBit, Nat.testBit_two_pow]
      by_cases e : k = j
      · subst e; rw [h]; rfl
      · simp [e]
    rw [h0]; rfl
  | true =>
    have h0 : Nat.land i (2 ^ k) ≠ 0 := by
      intro q
      have := hb k
      rw [q, Nat.zero_testBit, h, Nat.testBit_two_pow] at this
      simp at this
    exact decide_eq_false h0

def d3 : Bool → Bool → Bool → I8
  | true, true, true => .i0 | true, true, false => .i1 | true, false, true => .i2 | true, false, false => .i3
  | false, true, true => .i4 | false, true, false => .i5 | false, false, true => .i6 | false, false, false => .i7
theorem digI_eq (m4 m2 m1 i : Nat) : digI m4 m2 m1 i = d3 (Nat.beq (Nat.land i m4) 0) (Nat.beq (Nat.land i m2) 0) (Nat.beq (Nat.land i m1) 0) := by
  unfold digI
  cases Nat.beq (Nat.land i m4) 0 <;> dsimp only <;> cases Nat.beq (Nat.land i m2) 0 <;> dsimp only <;> cases Nat.beq (Nat.land i m1) 0 <;> rfl
theorem d3_inj {a b c a' b' c' : Bool} (h : d3 a b c = d3 a' b' c') : a = a' ∧ b = b' ∧ c = c' := by
  cases a <;> cases b <;> cases c <;> cases a' <;> cases b' <;> cases c' <;> first | exact ⟨rfl, rfl, rfl⟩ | cases h

theorem digI_inj {i j l : Nat} (h : digI (2 ^ (3 * l + 2)) (2 ^ (3 * l + 1)) (2 ^ (3 * l)) i = digI (2 ^ (3 * l + 2)) (2 ^ (3 * l + 1)) (2 ^ (3 * l)) j) :
    i.testBit (3 * l + 2) = j.testBit (3 * l + 2) ∧ i.testBit (3 * l + 1) = j.testBit (3 * l + 1) ∧ i.testBit (3 * l) = j.testBit (3 * l) := by
  rw [digI_eq, digI_eq] at h
  obtain ⟨h1, h2, h3⟩ := d3_inj h
  simp only [land_bit] at h1 h2 h3
  exact ⟨Bool.not_inj h1, Bool.not_inj h2, Bool.not_inj h3⟩

theorem digI_bits (i l : Nat) : digI (2 ^ (3 * l + 2)) (2 ^ (3 * l + 1)) (2 ^ (3 * l)) i = d3 (!(i.testBit (3 * l + 2))) (!(i.testBit (3 * l + 1))) (!(i.testBit (3 * l))) := by
  rw [digI_eq, land_bit, land_bit, land_bit]

/-- The digit of level l. -/
noncomputable def dg (l : Nat) : Nat → I8 := digI (2 ^ (3 * l + 2)) (2 ^ (3 * l + 1)) (2 ^ (3 * l))

theorem dg_inj {i j : Nat} (hi : i < 262144) (hj : j < 262144) (h : ∀ l, l < 6 → dg l i = dg l j) : i = j := by
  apply Nat.eq_of_testBit_eq
  intro k
  by_cases hk : k < 18
  · have h1 := digI_inj (h (k / 3) (by omega))
    have : k = 3 * (k / 3) + 2 ∨ k = 3 * (k / 3) + 1 ∨ k = 3 * (k / 3) := by omega
    rcases this with e | e | e
    · rw [e]; exact h1.1
    · rw [e]; exact h1.2.1
    · rw [e]; exact h1.2.2
  · have hp : 262144 ≤ 2 ^ k := Nat.le_trans (by decide : 262144 ≤ 2 ^ 18) (Nat.pow_le_pow_right (by decide) (by omega))
    rw [Nat.testBit_lt_two_pow (by omega), Nat.testBit_lt_two_pow (by omega)]

theorem dg_zero {i l : Nat} (h : i < 2 ^ (3 * l)) : dg l i = .i0 := by
  unfold dg
  rw [digI_bits, Nat.testBit_lt_two_pow (Nat.lt_of_lt_of_le h (Nat.pow_le_pow_right (by decide) (by omega))), Nat.testBit_lt_two_pow (Nat.lt_of_lt_of_le h (Nat.pow_le_pow_right (by decide) (by omega))), Nat.testBit_lt_two_pow h]
  rfl
theorem dg_mod (i : Nat) : dg 0 (i % 8) = dg 0 i := by
  unfold dg
  rw [digI_bits, digI_bits]
  simp only [show (8 : Nat) = 2 ^ 3 from rfl, Nat.testBit_mod_two_pow]
  simp
theorem lt8 {j : Nat} (hj : j < 262144) : j < 8 ↔ ∀ l, 1 ≤ l → l < 6 → dg l j = .i0 := by
  constructor
  · intro h l h1 _
    exact dg_zero (Nat.lt_of_lt_of_le h (Nat.pow_le_pow_right (by decide) (by omega) : 2 ^ 3 ≤ 2 ^ (3 * l)))
  · intro h
    have : j = j % 8 := by
      refine dg_inj hj (by omega) fun l hl => ?_
      by_cases e : l = 0
      · subst e; exact (dg_mod j).symm
      · rw [h l (by omega) hl, dg_zero (Nat.lt_of_lt_of_le (Nat.mod_lt j (by decide)) (Nat.pow_le_pow_right (by decide) (by omega) : 2 ^ 3 ≤ 2 ^ (3 * l)))]
    omega

/-! ### Tries -/

/-- A trie from numbers below 8 ^ 6 to things: the high digit first; 's1': a small one, for numbers below 8. -/
inductive PT (α : Type) where
  | nil
  | lf (x : α)
  | nd (a0 a1 a2 a3 a4 a5 a6 a7 : PT α)
  | s1 (a0 a1 a2 a3 a4 a5 a6 a7 : PT α)

/-- Objects of the heap: a row of n cells (what is not in the trie is 'df'); a map of int keys (each entry: a tuple of value and birth), its clock, and the key that was asked for last; a map of string keys as a list of entries (key, value, birth); an iterator over a string. -/
inductive AO where
  | row (m : Nat) (t : PT AV) (df : AV)
  | im (t : PT AV) (clock hint : Nat)
  | sm (l : AV) (clock : Nat)
  | si (len bits pos : Nat)

structure H where
  t : PT AO
  nx : Nat

inductive Res where
  | ok (v : AV) (h : H)
  | fail (code : Nat)

def Res.good (r : Res) : Prop := ∃ v h, r = .ok v h

theorem Res.not_good_fail {c : Nat} : ¬ (Res.fail c).good := fun ⟨_, _, h⟩ => by cases h

namespace PT
variable {α : Type}

def ch {β : Type} (a0 a1 a2 a3 a4 a5 a6 a7 : β) : I8 → β
  | .i0 => a0 | .i1 => a1 | .i2 => a2 | .i3 => a3 | .i4 => a4 | .i5 => a5 | .i6 => a6 | .i7 => a7

noncomputable def getL : Nat → PT α → Nat → Option α
  | 0, .lf x, _ => some x
  | 0, _, _ => none
  | l + 1, .nd a0 a1 a2 a3 a4 a5 a6 a7, i => getL l (ch a0 a1 a2 a3 a4 a5 a6 a7 (dg l i)) i
  | _ + 1, _, _ => none
noncomputable def get (t : PT α) (i : Nat) : Option α :=
  match t with
  | .s1 a0 a1 a2 a3 a4 a5 a6 a7 => if i < 8 then getL 1 (.nd a0 a1 a2 a3 a4 a5 a6 a7) i else none
  | t => if i < 262144 then getL 6 t i else none
theorem getL_nil : ∀ (l i : Nat), getL l (nil : PT α) i = none
  | 0, _ => rfl
  | _ + 1, _ => rfl
@[simp] theorem get_nil (i : Nat) : (nil : PT α).get i = none := by
  show (if i < 262144 then getL 6 nil i else none) = none
  split <;> rfl
@[simp] theorem get_lf (x : α) (i : Nat) : (lf x).get i = none := by
  show (if i < 262144 then getL 6 (lf x) i else none) = none
  split <;> rfl

abbrev GT (α : Type) := PT α → Nat → (α → Res) → Res → Res
noncomputable def g0 : GT α := fun t _ k f => PT.rec (motive := fun _ => (α → Res) → Res → Res) (fun _ f => f) (fun x k _ => k x) (fun _ _ _ _ _ _ _ _ _ _ _ _ _ _ _ _ _ f => f) (fun _ _ _ _ _ _ _ _ _ _ _ _ _ _ _ _ _ f => f) t k f
noncomputable def gC (d : I8) (a0 a1 a2 a3 a4 a5 a6 a7 : PT α) (nx : GT α) (i : Nat) (k : α → Res) (f : Res) : Res :=
  I8.rec (motive := fun _ => PT α → PT α → PT α → PT α → PT α → PT α → PT α → PT α → GT α → Nat → (α → Res) → Res → Res)
    (fun a _ _ _ _ _ _ _ nx i k f => nx a i k f)
    (fun _ a _ _ _ _ _ _ nx i k f => nx a i k f)
    (fun _ _ a _ _ _ _ _ nx i k f => nx a i k f)
    (fun _ _ _ a _ _ _ _ nx i k f => nx a i k f)
    (fun _ _ _ _ a _ _ _ nx i k f => nx a i k f)
    (fun _ _ _ _ _ a _ _ nx i k f => nx a i k f)
    (fun _ _ _ _ _ _ a _ nx i k f => nx a i k f)
    (fun _ _ _ _ _ _ _ a nx i k f => nx a i k f)
    d a0 a1 a2 a3 a4 a5 a6 a7 nx i k f
noncomputable def gN (d : Nat → I8) (nx : GT α) : GT α := fun t i k f =>
  PT.rec (motive := fun _ => (Nat → I8) → GT α → Nat → (α → Res) → Res → Res) (fun _ _ _ _ f => f) (fun _ _ _ _ _ f => f)
    (fun a0 a1 a2 a3 a4 a5 a6 a7 _ _ _ _ _ _ _ _ d nx i k f => gC (d i) a0 a1 a2 a3 a4 a5 a6 a7 nx i k f) (fun _ _ _ _ _ _ _ _ _ _ _ _ _ _ _ _ _ _ _ _ f => f) t d nx i k f
noncomputable def d0 : Nat → I8 := digI 4 2 1
noncomputable def d1 : Nat → I8 := digI 32 16 8
noncomputable def d2 : Nat → I8 := digI 256 128 64
noncomputable def d3 : Nat → I8 := digI 2048 1024 512
noncomputable def d4 : Nat → I8 := digI 16384 8192 4096
noncomputable def d5 : Nat → I8 := digI 131072 65536 32768
noncomputable def g1 : GT α := gN d0 g0
noncomputable def g2 : GT α := gN d1 g1
noncomputable def g3 : GT α := gN d2 g2
noncomputable def g4 : GT α := gN d3 g3
noncomputable def g5 : GT α := gN d4 g4
noncomputable def g6 : GT α := gN d5 g5
/-- The kernel's form: go on with what is there, or fail. -/
noncomputable def getK (t : PT α) (i : Nat) (k : α → Res) (f : Res) : Res :=
  PT.rec (motive := fun _ => Nat → (α → Res) → Res → Res) (fun _ _ f => f) (fun _ _ _ f => f)
    (fun a0 a1 a2 a3 a4 a5 a6 a7 _ _ _ _ _ _ _ _ i k f => Bool.rec (motive := fun _ => Res) f (gC (d5 i) a0 a1 a2 a3 a4 a5 a6 a7 g5 i k f) (Nat.ble i 262143))
    (fun a0 a1 a2 a3 a4 a5 a6 a7 _ _ _ _ _ _ _ _ i k f => Bool.rec (motive := fun _ => Res) f (gC (d0 i) a0 a1 a2 a3 a4 a5 a6 a7 g0 i k f) (Nat.ble i 7)) t i k f


theorem g0_eq (t : PT α) (i : Nat) (k : α → Res) (f : Res) : g0 t i k f = match getL 0 t i with | some v => k v | none => f := by cases t <;> rfl
theorem gN_eq {l : Nat} {nx : GT α} (h : ∀ t i k f, nx t i k f = match getL l t i with | some v => k v | none => f) (t : PT α) (i : Nat) (k : α → Res) (f : Res) :
    gN (dg l) nx t i k f = match getL (l + 1) t i with | some v => k v | none => f := by
  cases t with
  | nil => rfl
  | lf x => rfl
  | nd a0 a1 a2 a3 a4 a5 a6 a7 =>
    show gC (dg l i) a0 a1 a2 a3 a4 a5 a6 a7 nx i k f = _
    rw [getL]
    cases dg l i <;> exact h _ i k f
  | s1 a0 a1 a2 a3 a4 a5 a6 a7 => rfl

theorem g1_eq (t : PT α) (i : Nat) (k : α → Res) (f : Res) : g1 t i k f = match getL 1 t i with | some v => k v | none => f := gN_eq (l := 0) (nx := g0) g0_eq t i k f
theorem g2_eq (t : PT α) (i : Nat) (k : α → Res) (f : Res) : g2 t i k f = match getL 2 t i with | some v => k v | none => f := gN_eq (l := 1) (nx := g1) g1_eq t i k f
theorem g3_eq (t : PT α) (i : Nat) (k : α → Res) (f : Res) : g3 t i k f = match getL 3 t i with | some v => k v | none => f := gN_eq (l := 2) (nx := g2) g2_eq t i k f
theorem g4_eq (t : PT α) (i : Nat) (k : α → Res) (f : Res) : g4 t i k f = match getL 4 t i with | some v => k v | none => f := gN_eq (l := 3) (nx := g3) g3_eq t i k f
theorem g5_eq (t : PT α) (i : Nat) (k : α → Res) (f : Res) : g5 t i k f = match getL 5 t i with | some v => k v | none => f := gN_eq (l := 4) (nx := g4) g4_eq t i k f
theorem g6_eq (t : PT α) (i : Nat) (k : α → Res) (f : Res) : g6 t i k f = match getL 6 t i with | some v => k v | none => f := gN_eq (l := 5) (nx := g5) g5_eq t i k f
theorem ble_of {a b : Nat} (h : a ≤ b) : Nat.ble a b = true := Nat.ble_eq_true_of_le h
theorem ble_not {a b : Nat} (h : ¬ a ≤ b) : Nat.ble a b = false := by
  cases hb : Nat.ble a b
  · rfl
  · exact absurd (Nat.le_of_ble_eq_true hb) h
theorem getK_eq (t : PT α) (i : Nat) (k : α → Res) (f : Res) : t.getK i k f = match t.get i with | some v => k v | none => f := by
  cases t with
  | nil => rw [get_nil]; rfl
  | lf x => rw [get_lf]; rfl
  | nd a0 a1 a2 a3 a4 a5 a6 a7 =>
    show Bool.rec (motive := fun _ => Res) f (g6 (.nd a0 a1 a2 a3 a4 a5 a6 a7) i k f) (Nat.ble i 262143) = match (if i < 262144 then getL 6 (.nd a0 a1 a2 a3 a4 a5 a6 a7) i else none) with | some v => k v | none => f
    by_cases h : i ≤ 262143
    · rw [ble_of h, if_pos (by omega)]
      exact g6_eq _ i k f
    · rw [ble_not h, if_neg (by omega)]
  | s1 a0 a1 a2 a3 a4 a5 a6 a7 =>
    show Bool.rec (motive := fun _ => Res) f (g1 (.nd a0 a1 a2 a3 a4 a5 a6 a7) i k f) (Nat.ble i 7) = match (if i < 8 then getL 1 (.nd a0 a1 a2 a3 a4 a5 a6 a7) i else none) with | some v => k v | none => f
    by_cases h : i ≤ 7
    · rw [ble_of h, if_pos (by omega)]
      exact g1_eq _ i k f
    · rw [ble_not h, if_neg (by omega)]

theorem getK_good {t : PT α} {i : Nat} {k : α → Res} {c : Nat} (h : (t.getK i k (.fail c)).good) : ∃ v, t.get i = some v ∧ (k v).good := by
  rw [getK_eq] at h
  cases hv : t.get i with
  | none => rw [hv] at h; exact absurd h Res.not_good_fail
  | some v => rw [hv] at h; exact ⟨v, rfl, h⟩

abbrev UT (α : Type) := PT α → Nat → Option α → (PT α → Res) → Res
def leaf : Option α → PT α
  | none => .nil
  | some x => .lf x
def putC (a0 a1 a2 a3 a4 a5 a6 a7 x : PT α) : I8 → PT α
  | .i0 => .nd x a1 a2 a3 a4 a5 a6 a7 | .i1 => .nd a0 x a2 a3 a4 a5 a6 a7 | .i2 => .nd a0 a1 x a3 a4 a5 a6 a7 | .i3 => .nd a0 a1 a2 x a4 a5 a6 a7 | .i4 => .nd a0 a1 a2 a3 x a5 a6 a7 | .i5 => .nd a0 a1 a2 a3 a4 x a6 a7 | .i6 => .nd a0 a1 a2 a3 a4 a5 x a7 | .i7 => .nd a0 a1 a2 a3 a4 a5 a6 x
noncomputable def updL : Nat → PT α → Nat → Option α → PT α
  | 0, _, _, v => leaf v
  | l + 1, .nd a0 a1 a2 a3 a4 a5 a6 a7, i, v => putC a0 a1 a2 a3 a4 a5 a6 a7 (updL l (ch a0 a1 a2 a3 a4 a5 a6 a7 (dg l i)) i v) (dg l i)
  | l + 1, _, i, v => putC .nil .nil .nil .nil .nil .nil .nil .nil (updL l .nil i v) (dg l i)

theorem updL_same : ∀ (l : Nat) (t : PT α) (i : Nat) (v : Option α), getL l (updL l t i v) i = v
  | 0, t, i, v => by cases t <;> cases v <;> rfl
  | l + 1, t, i, v => by
    cases t with
    | nd a0 a1 a2 a3 a4 a5 a6 a7 =>
      have := updL_same l (ch a0 a1 a2 a3 a4 a5 a6 a7 (dg l i)) i v
      rw [updL]
      cases hd : dg l i <;> rw [hd] at this <;> simp only [putC, getL, hd, ch] at this ⊢ <;> exact this
    | _ =>
      have := updL_same l (.nil : PT α) i v
      rw [updL]
      · cases hd : dg l i <;> simp only [putC, getL, hd, ch] <;> exact this
      all_goals (intros; contradiction)

theorem updL_other : ∀ (l : Nat) (t : PT α) (i j : Nat) (v : Option α), (∃ m, m < l ∧ dg m i ≠ dg m j) → getL l (updL l t i v) j = getL l t j
  | 0, _, _, _, _, ⟨_, h, _⟩ => absurd h (Nat.not_lt_zero _)
  | l + 1, t, i, j, v, hm => by
    have key : ∀ (a0 a1 a2 a3 a4 a5 a6 a7 : PT α), getL (l + 1) (putC a0 a1 a2 a3 a4 a5 a6 a7 (updL l (ch a0 a1 a2 a3 a4 a5 a6 a7 (dg l i)) i v) (dg l i)) j = getL (l + 1) (.nd a0 a1 a2 a3 a4 a5 a6 a7) j := by
      intro a0 a1 a2 a3 a4 a5 a6 a7
      by_cases e : dg l i = dg l j
      · have h2 : ∃ m, m < l ∧ dg m i ≠ dg m j := by
          obtain ⟨m, h1, h2⟩ := hm
          refine ⟨m, ?_, h2⟩
          rcases Nat.lt_or_ge m l with h3 | h3
          · exact h3
          · exact absurd e (by rw [show l = m by omega]; exact h2)
        have := updL_other l (ch a0 a1 a2 a3 a4 a5 a6 a7 (dg l i)) i j v h2
        rw [e] at this ⊢
        rw [getL]
        cases hd : dg l j <;> rw [hd] at this <;> simp only [putC, getL, hd, ch] at this ⊢ <;> exact this
      · rw [getL]
        cases hd : dg l i <;> cases hd' : dg l j <;> first | (exact absurd (hd.trans hd'.symm) e) | simp only [putC, getL, hd', ch]
    cases t with
    | nd a0 a1 a2 a3 a4 a5 a6 a7 => rw [updL]; exact key a0 a1 a2 a3 a4 a5 a6 a7
    | _ =>
      rw [updL]
      · have h1 := key .nil .nil .nil .nil .nil .nil .nil .nil
        have h2 : ∀ d : I8, ch (.nil : PT α) .nil .nil .nil .nil .nil .nil .nil d = .nil := fun d => by cases d <;> rfl
        rw [h2] at h1
        rw [h1, getL, h2, getL_nil]
        rfl
      all_goals (intros; contradiction)

theorem updL_get (t : PT α) (i : Nat) (hi : i < 262144) (v : Option α) (j : Nat) : (if j < 262144 then getL 6 (updL 6 t i v) j else none) = if j = i then v else if j < 262144 then getL 6 t j else none := by
  by_cases hj : j < 262144
  · rw [if_pos hj, if_pos hj]
    by_cases e : j = i
    · rw [if_pos e, e]; exact updL_same 6 t i v
    · rw [if_neg e]
      refine updL_other 6 t i j v ?_
      apply Classical.byContradiction
      intro hc
      refine e (dg_inj hj hi fun l hl => ?_)
      apply Classical.byContradiction
      intro hn
      exact hc ⟨l, hl, fun q => hn q.symm⟩
  · rw [if_neg hj, if_neg hj, if_neg (by omega)]
theorem updL1_get (t : PT α) (i : Nat) (hi : i < 8) (v : Option α) (j : Nat) : (if j < 8 then getL 1 (updL 1 t i v) j else none) = if j = i then v else if j < 8 then getL 1 t j else none := by
  by_cases hj : j < 8
  · rw [if_pos hj, if_pos hj]
    by_cases e : j = i
    · rw [if_pos e, e]; exact updL_same 1 t i v
    · rw [if_neg e]
      refine updL_other 1 t i j v ⟨0, by decide, fun q => e ?_⟩
      refine dg_inj (by omega) (by omega) fun l hl => ?_
      by_cases h0 : l = 0
      · subst h0; exact q.symm
      · rw [(lt8 (by omega)).1 hj l (by omega) hl, (lt8 (by omega)).1 hi l (by omega) hl]
  · rw [if_neg hj, if_neg hj, if_neg (by omega)]

/-- A small trie as a great one. -/
def n1 (x : PT α) : PT α := .nd x .nil .nil .nil .nil .nil .nil .nil
def up (x : PT α) : PT α := n1 (n1 (n1 (n1 (n1 x))))
theorem getL_n1 (l : Nat) (x : PT α) (j : Nat) : getL (l + 1) (n1 x) j = if dg l j = .i0 then getL l x j else none := by
  unfold n1
  rw [getL]
  cases h : dg l j <;> first | rfl | exact getL_nil l j
theorem getL_up (x : PT α) (j : Nat) (hj : j < 262144) : getL 6 (up x) j = if j < 8 then getL 1 x j else none := by
  unfold up
  rw [getL_n1, getL_n1, getL_n1, getL_n1, getL_n1]
  by_cases h : j < 8
  · have := (lt8 hj).1 h
    rw [if_pos h, if_pos (this 5 (by decide) (by decide)), if_pos (this 4 (by decide) (by decide)), if_pos (this 3 (by decide) (by decide)), if_pos (this 2 (by decide) (by decide)), if_pos (this 1 (by decide) (by decide))]
  · rw [if_neg h]
    repeat' split
    all_goals first
      | rfl
      | (exfalso
         rename_i h5 h4 h3 h2 h1
         refine h ((lt8 hj).2 fun l hl hl' => ?_)
         match l, hl, hl' with
         | 1, _, _ => exact h1
         | 2, _, _ => exact h2
         | 3, _, _ => exact h3
         | 4, _, _ => exact h4
         | 5, _, _ => exact h5)

/-- Small. -/
def sm8 : PT α → PT α
  | .nd a0 a1 a2 a3 a4 a5 a6 a7 => .s1 a0 a1 a2 a3 a4 a5 a6 a7
  | t => t
noncomputable def updF (t : PT α) (i : Nat) (v : Option α) : PT α :=
  match t with
  | .nil => if i < 8 then sm8 (updL 1 .nil i v) else updL 6 .nil i v
  | .lf _ => if i < 8 then sm8 (updL 1 .nil i v) else updL 6 .nil i v
  | .nd a0 a1 a2 a3 a4 a5 a6 a7 => updL 6 (.nd a0 a1 a2 a3 a4 a5 a6 a7) i v
  | .s1 a0 a1 a2 a3 a4 a5 a6 a7 => if i < 8 then sm8 (updL 1 (.nd a0 a1 a2 a3 a4 a5 a6 a7) i v) else updL 6 (up (.nd a0 a1 a2 a3 a4 a5 a6 a7)) i v

theorem updL_nd (l : Nat) (t : PT α) (i : Nat) (v : Option α) : ∃ a0 a1 a2 a3 a4 a5 a6 a7, updL (l + 1) t i v = .nd a0 a1 a2 a3 a4 a5 a6 a7 := by
  cases t with
  | nd a0 a1 a2 a3 a4 a5 a6 a7 => rw [updL]; cases dg l i <;> exact ⟨_, _, _, _, _, _, _, _, rfl⟩
  | _ =>
    rw [updL]
    · cases dg l i <;> exact ⟨_, _, _, _, _, _, _, _, rfl⟩
    all_goals (intros; contradiction)
theorem get_big (t : PT α) (i : Nat) (v : Option α) (j : Nat) : (updL 6 t i v).get j = if j < 262144 then getL 6 (updL 6 t i v) j else none := by
  obtain ⟨a0, a1, a2, a3, a4, a5, a6, a7, h⟩ := updL_nd 5 t i v
  rw [h]; rfl
theorem get_small (t : PT α) (i : Nat) (v : Option α) (j : Nat) : (sm8 (updL 1 t i v)).get j = if j < 8 then getL 1 (updL 1 t i v) j else none := by
  obtain ⟨a0, a1, a2, a3, a4, a5, a6, a7, h⟩ := updL_nd 0 t i v
  rw [h]; rfl

theorem upd_get (t : PT α) (i : Nat) (hi : i < 262144) (v : Option α) (j : Nat) : (updF t i v).get j = if j = i then v else t.get j := by
  have fromNil : ∀ t : PT α, (∀ j, t.get j = none) → (if i < 8 then sm8 (updL 1 .nil i v) else updL 6 (.nil : PT α) i v).get j = if j = i then v else t.get j := by
    intro t ht
    rw [ht j]
    by_cases h8 : i < 8
    · rw [if_pos h8, get_small, updL1_get _ _ h8]
      by_cases e : j = i
      · rw [if_pos e, if_pos e]
      · rw [if_neg e, if_neg e]; split <;> rfl
    · rw [if_neg h8, get_big, updL_get _ _ hi]
      by_cases e : j = i
      · rw [if_pos e, if_pos e]
      · rw [if_neg e, if_neg e]; split <;> rfl
  cases t with
  | nil => exact fromNil .nil get_nil
  | lf x => exact fromNil (.lf x) (get_lf x)
  | nd a0 a1 a2 a3 a4 a5 a6 a7 =>
    show (updL 6 (.nd a0 a1 a2 a3 a4 a5 a6 a7) i v).get j = _
    rw [get_big, updL_get _ _ hi]
    rfl
  | s1 a0 a1 a2 a3 a4 a5 a6 a7 =>
    show (if i < 8 then sm8 (updL 1 (.nd a0 a1 a2 a3 a4 a5 a6 a7) i v) else updL 6 (up (.nd a0 a1 a2 a3 a4 a5 a6 a7)) i v).get j = if j = i then v else if j < 8 then getL 1 (.nd a0 a1 a2 a3 a4 a5 a6 a7) j else none
    by_cases h8 : i < 8
    · rw [if_pos h8, get_small, updL1_get _ _ h8]
    · rw [if_neg h8, get_big, updL_get _ _ hi]
      by_cases e : j = i
      · rw [if_pos e, if_pos e]
      · rw [if_neg e, if_neg e]
        by_cases hj : j < 262144
        · rw [if_pos hj, getL_up _ _ hj]
        · rw [if_neg hj, if_neg (by omega)]

noncomputable def u0 : UT α := fun _ _ v k => Option.rec (motive := fun _ => (PT α → Res) → Res) (fun k => k .nil) (fun x k => k (.lf x)) v k
noncomputable def uC (d : I8) (a0 a1 a2 a3 a4 a5 a6 a7 : PT α) (nx : UT α) (i : Nat) (v : Option α) (k : PT α → Res) : Res :=
  I8.rec (motive := fun _ => PT α → PT α → PT α → PT α → PT α → PT α → PT α → PT α → UT α → Nat → Option α → (PT α → Res) → Res)
    (fun a0 a1 a2 a3 a4 a5 a6 a7 nx i v k => nx a0 i v fun x => k (.nd x a1 a2 a3 a4 a5 a6 a7))
    (fun a0 a1 a2 a3 a4 a5 a6 a7 nx i v k => nx a1 i v fun x => k (.nd a0 x a2 a3 a4 a5 a6 a7))
    (fun a0 a1 a2 a3 a4 a5 a6 a7 nx i v k => nx a2 i v fun x => k (.nd a0 a1 x a3 a4 a5 a6 a7))
    (fun a0 a1 a2 a3 a4 a5 a6 a7 nx i v k => nx a3 i v fun x => k (.nd a0 a1 a2 x a4 a5 a6 a7))
    (fun a0 a1 a2 a3 a4 a5 a6 a7 nx i v k => nx a4 i v fun x => k (.nd a0 a1 a2 a3 x a5 a6 a7))
    (fun a0 a1 a2 a3 a4 a5 a6 a7 nx i v k => nx a5 i v fun x => k (.nd a0 a1 a2 a3 a4 x a6 a7))
    (fun a0 a1 a2 a3 a4 a5 a6 a7 nx i v k => nx a6 i v fun x => k (.nd a0 a1 a2 a3 a4 a5 x a7))
    (fun a0 a1 a2 a3 a4 a5 a6 a7 nx i v k => nx a7 i v fun x => k (.nd a0 a1 a2 a3 a4 a5 a6 x))
    d a0 a1 a2 a3 a4 a5 a6 a7 nx i v k
noncomputable def uN (d : Nat → I8) (nx : UT α) : UT α := fun t i v k =>
  PT.rec (motive := fun _ => (Nat → I8) → UT α → Nat → Option α → (PT α → Res) → Res) (fun d nx i v k => uC (d i) .nil .nil .nil .nil .nil .nil .nil .nil nx i v k) (fun _ d nx i v k => uC (d i) .nil .nil .nil .nil .nil .nil .nil .nil nx i v k)
    (fun a0 a1 a2 a3 a4 a5 a6 a7 _ _ _ _ _ _ _ _ d nx i v k => uC (d i) a0 a1 a2 a3 a4 a5 a6 a7 nx i v k) (fun _ _ _ _ _ _ _ _ _ _ _ _ _ _ _ _ d nx i v k => uC (d i) .nil .nil .nil .nil .nil .nil .nil .nil nx i v k) t d nx i v k
noncomputable def u1 : UT α := uN d0 u0
noncomputable def u2 : UT α := uN d1 u1
noncomputable def u3 : UT α := uN d2 u2
noncomputable def u4 : UT α := uN d3 u3
noncomputable def u5 : UT α := uN d4 u4
noncomputable def u6 : UT α := uN d5 u5
noncomputable def uS (d : I8) (a0 a1 a2 a3 a4 a5 a6 a7 : PT α) (i : Nat) (v : Option α) (k : PT α → Res) : Res :=
  I8.rec (motive := fun _ => PT α → PT α → PT α → PT α → PT α → PT α → PT α → PT α → Nat → Option α → (PT α → Res) → Res)
    (fun a0 a1 a2 a3 a4 a5 a6 a7 i v k => u0 a0 i v fun x => k (.s1 x a1 a2 a3 a4 a5 a6 a7))
    (fun a0 a1 a2 a3 a4 a5 a6 a7 i v k => u0 a1 i v fun x => k (.s1 a0 x a2 a3 a4 a5 a6 a7))
    (fun a0 a1 a2 a3 a4 a5 a6 a7 i v k => u0 a2 i v fun x => k (.s1 a0 a1 x a3 a4 a5 a6 a7))
    (fun a0 a1 a2 a3 a4 a5 a6 a7 i v k => u0 a3 i v fun x => k (.s1 a0 a1 a2 x a4 a5 a6 a7))
    (fun a0 a1 a2 a3 a4 a5 a6 a7 i v k => u0 a4 i v fun x => k (.s1 a0 a1 a2 a3 x a5 a6 a7))
    (fun a0 a1 a2 a3 a4 a5 a6 a7 i v k => u0 a5 i v fun x => k (.s1 a0 a1 a2 a3 a4 x a6 a7))
    (fun a0 a1 a2 a3 a4 a5 a6 a7 i v k => u0 a6 i v fun x => k (.s1 a0 a1 a2 a3 a4 a5 x a7))
    (fun a0 a1 a2 a3 a4 a5 a6 a7 i v k => u0 a7 i v fun x => k (.s1 a0 a1 a2 a3 a4 a5 a6 x))
    d a0 a1 a2 a3 a4 a5 a6 a7 i v k
noncomputable def uR (a0 a1 a2 a3 a4 a5 a6 a7 : PT α) (i : Nat) (v : Option α) (k : PT α → Res) : Res := Bool.rec (motive := fun _ => Res) (.fail 1) (uC (d5 i) a0 a1 a2 a3 a4 a5 a6 a7 u5 i v k) (Nat.ble i 262143)
noncomputable def updK (_f : Nat) (t : PT α) (i : Nat) (v : Option α) (k : PT α → Res) : Res :=
  PT.rec (motive := fun _ => Nat → Option α → (PT α → Res) → Res)
    (fun i v k => Bool.rec (motive := fun _ => Res) (uR .nil .nil .nil .nil .nil .nil .nil .nil i v k) (uS (d0 i) .nil .nil .nil .nil .nil .nil .nil .nil i v k) (Nat.ble i 7))
    (fun _ i v k => Bool.rec (motive := fun _ => Res) (uR .nil .nil .nil .nil .nil .nil .nil .nil i v k) (uS (d0 i) .nil .nil .nil .nil .nil .nil .nil .nil i v k) (Nat.ble i 7))
    (fun a0 a1 a2 a3 a4 a5 a6 a7 _ _ _ _ _ _ _ _ i v k => uR a0 a1 a2 a3 a4 a5 a6 a7 i v k)
    (fun a0 a1 a2 a3 a4 a5 a6 a7 _ _ _ _ _ _ _ _ i v k => Bool.rec (motive := fun _ => Res) (uR (n1 (n1 (n1 (n1 (.nd a0 a1 a2 a3 a4 a5 a6 a7))))) .nil .nil .nil .nil .nil .nil .nil i v k) (uS (d0 i) a0 a1 a2 a3 a4 a5 a6 a7 i v k) (Nat.ble i 7)) t i v k

theorem u0_eq (t : PT α) (i : Nat) (v : Option α) (k : PT α → Res) : u0 t i v k = k (updL 0 t i v) := by cases t <;> cases v <;> rfl
theorem uN_eq {l : Nat} {nx : UT α} (h : ∀ t i v k, nx t i v k = k (updL l t i v)) (t : PT α) (i : Nat) (v : Option α) (k : PT α → Res) :
    uN (dg l) nx t i v k = k (updL (l + 1) t i v) := by
  have hC : ∀ (d : I8) (a0 a1 a2 a3 a4 a5 a6 a7 : PT α), uC d a0 a1 a2 a3 a4 a5 a6 a7 nx i v k = k (putC a0 a1 a2 a3 a4 a5 a6 a7 (updL l (ch a0 a1 a2 a3 a4 a5 a6 a7 d) i v) d) := by
    intro d a0 a1 a2 a3 a4 a5 a6 a7
    cases d <;> exact h _ i v _
  have h2 : ∀ d : I8, ch (.nil : PT α) .nil .nil .nil .nil .nil .nil .nil d = .nil := fun d => by cases d <;> rfl
  cases t with
  | nd a0 a1 a2 a3 a4 a5 a6 a7 => rw [updL]; exact hC (dg l i) a0 a1 a2 a3 a4 a5 a6 a7
  | _ =>
    rw [updL]
    · have := hC (dg l i) .nil .nil .nil .nil .nil .nil .nil .nil
      rw [h2] at this
      exact this
    all_goals (intros; contradiction)

theorem u1_eq (t : PT α) (i : Nat) (v : Option α) (k : PT α → Res) : u1 t i v k = k (updL 1 t i v) := uN_eq (l := 0) (nx := u0) u0_eq t i v k
theorem u2_eq (t : PT α) (i : Nat) (v : Option α) (k : PT α → Res) : u2 t i v k = k (updL 2 t i v) := uN_eq (l := 1) (nx := u1) u1_eq t i v k
theorem u3_eq (t : PT α) (i : Nat) (v : Option α) (k : PT α → Res) : u3 t i v k = k (updL 3 t i v) := uN_eq (l := 2) (nx := u2) u2_eq t i v k
theorem u4_eq (t : PT α) (i : Nat) (v : Option α) (k : PT α → Res) : u4 t i v k = k (updL 4 t i v) := uN_eq (l := 3) (nx := u3) u3_eq t i v k
theorem u5_eq (t : PT α) (i : Nat) (v : Option α) (k : PT α → Res) : u5 t i v k = k (updL 5 t i v) := uN_eq (l := 4) (nx := u4) u4_eq t i v k
theorem u6_eq (t : PT α) (i : Nat) (v : Option α) (k : PT α → Res) : u6 t i v k = k (updL 6 t i v) := uN_eq (l := 5) (nx := u5) u5_eq t i v k
theorem uS_eq (i : Nat) (v : Option α) (k : PT α → Res) (a0 a1 a2 a3 a4 a5 a6 a7 : PT α) : uS (dg 0 i) a0 a1 a2 a3 a4 a5 a6 a7 i v k = k (sm8 (updL 1 (.nd a0 a1 a2 a3 a4 a5 a6 a7) i v)) := by
  rw [updL]
  cases dg 0 i <;> exact u0_eq _ i v _
theorem ch_nil (d : I8) : ch (.nil : PT α) .nil .nil .nil .nil .nil .nil .nil d = .nil := by cases d <;> rfl
theorem updL_nil (l i : Nat) (v : Option α) : updL (l + 1) .nil i v = updL (l + 1) (.nd .nil .nil .nil .nil .nil .nil .nil .nil) i v := by
  have h1 : updL (l + 1) (.nd .nil .nil .nil .nil .nil .nil .nil .nil) i v = putC .nil .nil .nil .nil .nil .nil .nil .nil (updL l (ch .nil .nil .nil .nil .nil .nil .nil .nil (dg l i)) i v) (dg l i) := by rw [updL]
  rw [h1, ch_nil, updL]
  all_goals (intros; contradiction)
theorem updK_eq {f : Nat} {t : PT α} {i : Nat} {v : Option α} {k : PT α → Res} (hi : i ≤ 262143) : updK f t i v k = k (updF t i v) := by
  have big : ∀ a0 a1 a2 a3 a4 a5 a6 a7 : PT α, uR a0 a1 a2 a3 a4 a5 a6 a7 i v k = k (updL 6 (.nd a0 a1 a2 a3 a4 a5 a6 a7) i v) := by
    intro a0 a1 a2 a3 a4 a5 a6 a7
    unfold uR
    rw [ble_of hi]
    exact u6_eq (.nd a0 a1 a2 a3 a4 a5 a6 a7) i v k
  have nil : Bool.rec (motive := fun _ => Res) (uR .nil .nil .nil .nil .nil .nil .nil .nil i v k) (uS (d0 i) .nil .nil .nil .nil .nil .nil .nil .nil i v k) (Nat.ble i 7) = k (if i < 8 then sm8 (updL 1 .nil i v) else updL 6 .nil i v) := by
    by_cases h : i ≤ 7
    · rw [ble_of h, if_pos (by omega)]
      refine (uS_eq i v k .nil .nil .nil .nil .nil .nil .nil .nil).trans ?_
      rw [updL_nil 0 i v]
    · rw [ble_not h, if_neg (by omega)]
      refine (big .nil .nil .nil .nil .nil .nil .nil .nil).trans ?_
      rw [updL_nil 5 i v]
  cases t with
  | nil => exact nil
  | lf x => exact nil
  | nd a0 a1 a2 a3 a4 a5 a6 a7 => exact big a0 a1 a2 a3 a4 a5 a6 a7
  | s1 a0 a1 a2 a3 a4 a5 a6 a7 =>
    show Bool.rec (motive := fun _ => Res) (uR (n1 (n1 (n1 (n1 (.nd a0 a1 a2 a3 a4 a5 a6 a7))))) .nil .nil .nil .nil .nil .nil .nil i v k) (uS (d0 i) a0 a1 a2 a3 a4 a5 a6 a7 i v k) (Nat.ble i 7) = k (if i < 8 then sm8 (updL 1 (.nd a0 a1 a2 a3 a4 a5 a6 a7) i v) else updL 6 (up (.nd a0 a1 a2 a3 a4 a5 a6 a7)) i v)
    by_cases h : i ≤ 7
    · rw [ble_of h, if_pos (by omega)]
      exact uS_eq i v k a0 a1 a2 a3 a4 a5 a6 a7
    · rw [ble_not h, if_neg (by omega)]
      exact big (n1 (n1 (n1 (n1 (.nd a0 a1 a2 a3 a4 a5 a6 a7))))) .nil .nil .nil .nil .nil .nil .nil
theorem updK_good {f : Nat} {t : PT α} {i : Nat} {v : Option α} {k : PT α → Res} (h : (updK f t i v k).good) :
    ∃ t', (∀ j, t'.get j = if j = i then v else t.get j) ∧ (k t').good := by
  by_cases hi : i ≤ 262143
  · rw [updK_eq hi] at h
    exact ⟨_, fun j => upd_get t i (by omega) v j, h⟩
  · have bad : ∀ a0 a1 a2 a3 a4 a5 a6 a7 : PT α, uR a0 a1 a2 a3 a4 a5 a6 a7 i v k = .fail 1 := by
      intro a0 a1 a2 a3 a4 a5 a6 a7
      unfold uR
      rw [ble_not hi]
    have h7 : Nat.ble i 7 = false := ble_not (by omega)
    have : updK f t i v k = .fail 1 := by
      cases t with
      | nil => unfold updK; dsimp only; rw [h7]; exact bad _ _ _ _ _ _ _ _
      | lf x => unfold updK; dsimp only; rw [h7]; exact bad _ _ _ _ _ _ _ _
      | nd a0 a1 a2 a3 a4 a5 a6 a7 => exact bad a0 a1 a2 a3 a4 a5 a6 a7
      | s1 a0 a1 a2 a3 a4 a5 a6 a7 => unfold updK; dsimp only; rw [h7]; exact bad _ _ _ _ _ _ _ _
    rw [this] at h
    exact absurd h Res.not_good_fail

/-! What stands at a number, or behind it, goes. -/

abbrev DT (α : Type) := PT α → Nat → (PT α → Res) → Res
noncomputable def p0 : DT α := fun _ _ k => k .nil
noncomputable def pN (d : Nat → I8) (nx : DT α) : DT α := fun t i k =>
  PT.rec (motive := fun _ => (Nat → I8) → DT α → Nat → (PT α → Res) → Res) (fun _ _ _ k => k .nil) (fun _ _ _ _ k => k .nil)
    (fun a0 a1 a2 a3 a4 a5 a6 a7 _ _ _ _ _ _ _ _ d nx i k => I8.rec (motive := fun _ => PT α → PT α → PT α → PT α → PT α → PT α → PT α → PT α → DT α → Nat → (PT α → Res) → Res)
      (fun a0 _ _ _ _ _ _ _ nx i k => nx a0 i fun x => k (.nd x .nil .nil .nil .nil .nil .nil .nil))
      (fun a0 a1 _ _ _ _ _ _ nx i k => nx a1 i fun x => k (.nd a0 x .nil .nil .nil .nil .nil .nil))
      (fun a0 a1 a2 _ _ _ _ _ nx i k => nx a2 i fun x => k (.nd a0 a1 x .nil .nil .nil .nil .nil))
      (fun a0 a1 a2 a3 _ _ _ _ nx i k => nx a3 i fun x => k (.nd a0 a1 a2 x .nil .nil .nil .nil))
      (fun a0 a1 a2 a3 a4 _ _ _ nx i k => nx a4 i fun x => k (.nd a0 a1 a2 a3 x .nil .nil .nil))
      (fun a0 a1 a2 a3 a4 a5 _ _ nx i k => nx a5 i fun x => k (.nd a0 a1 a2 a3 a4 x .nil .nil))
      (fun a0 a1 a2 a3 a4 a5 a6 _ nx i k => nx a6 i fun x => k (.nd a0 a1 a2 a3 a4 a5 x .nil))
      (fun a0 a1 a2 a3 a4 a5 a6 a7 nx i k => nx a7 i fun x => k (.nd a0 a1 a2 a3 a4 a5 a6 x))
      (d i) a0 a1 a2 a3 a4 a5 a6 a7 nx i k) (fun _ _ _ _ _ _ _ _ _ _ _ _ _ _ _ _ _ _ _ k => k .nil) t d nx i k
noncomputable def p1 : DT α := pN d0 p0
noncomputable def p2 : DT α := pN d1 p1
noncomputable def p3 : DT α := pN d2 p2
noncomputable def p4 : DT α := pN d3 p3
noncomputable def p5 : DT α := pN d4 p4
noncomputable def p6 : DT α := pN d5 p5
noncomputable def pruneK (t : PT α) (i : Nat) (k : PT α → Res) : Res :=
  PT.rec (motive := fun _ => Nat → (PT α → Res) → Res) (fun _ k => k .nil) (fun _ _ k => k .nil) (fun a0 a1 a2 a3 a4 a5 a6 a7 _ _ _ _ _ _ _ _ i k => p6 (.nd a0 a1 a2 a3 a4 a5 a6 a7) i fun t => PT.rec (motive := fun _ => Res) (k .nil) (fun _ => k .nil) (fun a0 a1 a2 a3 a4 a5 a6 a7 _ _ _ _ _ _ _ _ => k (.nd a0 a1 a2 a3 a4 a5 a6 a7)) (fun _ _ _ _ _ _ _ _ _ _ _ _ _ _ _ _ => k .nil) t)
    (fun a0 a1 a2 a3 a4 a5 a6 a7 _ _ _ _ _ _ _ _ i k => Bool.rec (motive := fun _ => Res) (k (.s1 a0 a1 a2 a3 a4 a5 a6 a7))
      (p1 (.nd a0 a1 a2 a3 a4 a5 a6 a7) i fun t => PT.rec (motive := fun _ => Res) (k .nil) (fun _ => k .nil) (fun a0 a1 a2 a3 a4 a5 a6 a7 _ _ _ _ _ _ _ _ => k (.s1 a0 a1 a2 a3 a4 a5 a6 a7)) (fun _ _ _ _ _ _ _ _ _ _ _ _ _ _ _ _ => k .nil) t) (Nat.ble i 7)) t i k

theorem p0_good {t : PT α} {i : Nat} {k : PT α → Res} (h : (p0 t i k).good) : ∃ t', (∀ j, getL 0 t' j = none ∨ getL 0 t' j = getL 0 t j) ∧ (k t').good := ⟨.nil, fun _ => .inl rfl, h⟩
theorem pN_good {d : Nat → I8} {l : Nat} {nx : DT α} (hx : ∀ {t i k}, (nx t i k).good → ∃ t', (∀ j, getL l t' j = none ∨ getL l t' j = getL l t j) ∧ (k t').good) {t : PT α} {i : Nat} {k : PT α → Res} (h : (pN d nx t i k).good) :
    ∃ t', (∀ j, getL (l + 1) t' j = none ∨ getL (l + 1) t' j = getL (l + 1) t j) ∧ (k t').good := by
  cases t with
  | nil => exact ⟨.nil, fun _ => .inl rfl, h⟩
  | lf x => exact ⟨.nil, fun _ => .inl rfl, h⟩
  | s1 a0 a1 a2 a3 a4 a5 a6 a7 => exact ⟨.nil, fun _ => .inl rfl, h⟩
  | nd a0 a1 a2 a3 a4 a5 a6 a7 =>
    have h : (I8.rec (motive := fun _ => PT α → PT α → PT α → PT α → PT α → PT α → PT α → PT α → DT α → Nat → (PT α → Res) → Res) _ _ _ _ _ _ _ _ (d i) a0 a1 a2 a3 a4 a5 a6 a7 nx i k).good := h
    cases hd : d i <;> rw [hd] at h
    · obtain ⟨x, h1, h2⟩ := hx (show (nx a0 i fun x => k (.nd x .nil .nil .nil .nil .nil .nil .nil)).good from h)
      refine ⟨_, fun j => ?_, h2⟩
      rw [getL, getL]
      cases dg l j <;> first | exact .inr rfl | exact .inl (getL_nil _ _) | exact h1 j
    · obtain ⟨x, h1, h2⟩ := hx (show (nx a1 i fun x => k (.nd a0 x .nil .nil .nil .nil .nil .nil)).good from h)
      refine ⟨_, fun j => ?_, h2⟩
      rw [getL, getL]
      cases dg l j <;> first | exact .inr rfl | exact .inl (getL_nil _ _) | exact h1 j
    · obtain ⟨x, h1, h2⟩ := hx (show (nx a2 i fun x => k (.nd a0 a1 x .nil .nil .nil .nil .nil)).good from h)
      refine ⟨_, fun j => ?_, h2⟩
      rw [getL, getL]
      cases dg l j <;> first | exact .inr rfl | exact .inl (getL_nil _ _) | exact h1 j
    · obtain ⟨x, h1, h2⟩ := hx (show (nx a3 i fun x => k (.nd a0 a1 a2 x .nil .nil .nil .nil)).good from h)
      refine ⟨_, fun j => ?_, h2⟩
      rw [getL, getL]
      cases dg l j <;> first | exact .inr rfl | exact .inl (getL_nil _ _) | exact h1 j
    · obtain ⟨x, h1, h2⟩ := hx (show (nx a4 i fun x => k (.nd a0 a1 a2 a3 x .nil .nil .nil)).good from h)
      refine ⟨_, fun j => ?_, h2⟩
      rw [getL, getL]
      cases dg l j <;> first | exact .inr rfl | exact .inl (getL_nil _ _) | exact h1 j
    · obtain ⟨x, h1, h2⟩ := hx (show (nx a5 i fun x => k (.nd a0 a1 a2 a3 a4 x .nil .nil)).good from h)
      refine ⟨_, fun j => ?_, h2⟩
      rw [getL, getL]
      cases dg l j <;> first | exact .inr rfl | exact .inl (getL_nil _ _) | exact h1 j
    · obtain ⟨x, h1, h2⟩ := hx (show (nx a6 i fun x => k (.nd a0 a1 a2 a3 a4 a5 x .nil)).good from h)
      refine ⟨_, fun j => ?_, h2⟩
      rw [getL, getL]
      cases dg l j <;> first | exact .inr rfl | exact .inl (getL_nil _ _) | exact h1 j
    · obtain ⟨x, h1, h2⟩ := hx (show (nx a7 i fun x => k (.nd a0 a1 a2 a3 a4 a5 a6 x)).good from h)
      refine ⟨_, fun j => ?_, h2⟩
      rw [getL, getL]
      cases dg l j <;> first | exact .inr rfl | exact .inl (getL_nil _ _) | exact h1 j
theorem p1_good {t : PT α} {i : Nat} {k : PT α → Res} (h : (p1 t i k).good) : ∃ t', (∀ j, getL 1 t' j = none ∨ getL 1 t' j = getL 1 t j) ∧ (k t').good := pN_good (l := 0) (nx := p0) p0_good h
theorem p2_good {t : PT α} {i : Nat} {k : PT α → Res} (h : (p2 t i k).good) : ∃ t', (∀ j, getL 2 t' j = none ∨ getL 2 t' j = getL 2 t j) ∧ (k t').good := pN_good (l := 1) (nx := p1) p1_good h
theorem p3_good {t : PT α} {i : Nat} {k : PT α → Res} (h : (p3 t i k).good) : ∃ t', (∀ j, getL 3 t' j = none ∨ getL 3 t' j = getL 3 t j) ∧ (k t').good := pN_good (l := 2) (nx := p2) p2_good h
theorem p4_good {t : PT α} {i : Nat} {k : PT α → Res} (h : (p4 t i k).good) : ∃ t', (∀ j, getL 4 t' j = none ∨ getL 4 t' j = getL 4 t j) ∧ (k t').good := pN_good (l := 3) (nx := p3) p3_good h
theorem p5_good {t : PT α} {i : Nat} {k : PT α → Res} (h : (p5 t i k).good) : ∃ t', (∀ j, getL 5 t' j = none ∨ getL 5 t' j = getL 5 t j) ∧ (k t').good := pN_good (l := 4) (nx := p4) p4_good h
theorem p6_good {t : PT α} {i : Nat} {k : PT α → Res} (h : (p6 t i k).good) : ∃ t', (∀ j, getL 6 t' j = none ∨ getL 6 t' j = getL 6 t j) ∧ (k t').good := pN_good (l := 5) (nx := p5) p5_good h
theorem pruneK_good {t : PT α} {i : Nat} {k : PT α → Res} (h : (pruneK t i k).good) : ∃ t', (∀ j, t'.get j = none ∨ t'.get j = t.get j) ∧ (k t').good := by
  cases t with
  | nil => exact ⟨.nil, fun j => .inl (get_nil j), h⟩
  | lf x => exact ⟨.nil, fun j => .inl (get_nil j), h⟩
  | nd a0 a1 a2 a3 a4 a5 a6 a7 =>
    obtain ⟨t', h1, h2⟩ := p6_good (show (p6 (.nd a0 a1 a2 a3 a4 a5 a6 a7) i fun t => PT.rec (motive := fun _ => Res) (k .nil) (fun _ => k .nil) (fun a0 a1 a2 a3 a4 a5 a6 a7 _ _ _ _ _ _ _ _ => k (.nd a0 a1 a2 a3 a4 a5 a6 a7)) (fun _ _ _ _ _ _ _ _ _ _ _ _ _ _ _ _ => k .nil) t).good from h)
    cases t' with
    | nd b0 b1 b2 b3 b4 b5 b6 b7 =>
      refine ⟨.nd b0 b1 b2 b3 b4 b5 b6 b7, fun j => ?_, h2⟩
      show (if j < 262144 then getL 6 (PT.nd b0 b1 b2 b3 b4 b5 b6 b7) j else none) = none ∨ (if j < 262144 then getL 6 (PT.nd b0 b1 b2 b3 b4 b5 b6 b7) j else none) = if j < 262144 then getL 6 (PT.nd a0 a1 a2 a3 a4 a5 a6 a7) j else none
      split
      · exact h1 j
      · exact .inl rfl
    | _ => exact ⟨.nil, fun j => .inl (get_nil j), h2⟩
  | s1 a0 a1 a2 a3 a4 a5 a6 a7 =>
    have h : (Bool.rec (motive := fun _ => Res) (k (.s1 a0 a1 a2 a3 a4 a5 a6 a7)) (p1 (.nd a0 a1 a2 a3 a4 a5 a6 a7) i fun t => PT.rec (motive := fun _ => Res) (k .nil) (fun _ => k .nil) (fun a0 a1 a2 a3 a4 a5 a6 a7 _ _ _ _ _ _ _ _ => k (.s1 a0 a1 a2 a3 a4 a5 a6 a7)) (fun _ _ _ _ _ _ _ _ _ _ _ _ _ _ _ _ => k .nil) t) (Nat.ble i 7)).good := h
    cases hb : Nat.ble i 7 with
    | false => rw [hb] at h; exact ⟨_, fun j => .inr rfl, h⟩
    | true =>
      rw [hb] at h
      obtain ⟨t', h1, h2⟩ := p1_good (show (p1 (.nd a0 a1 a2 a3 a4 a5 a6 a7) i fun t => PT.rec (motive := fun _ => Res) (k .nil) (fun _ => k .nil) (fun a0 a1 a2 a3 a4 a5 a6 a7 _ _ _ _ _ _ _ _ => k (.s1 a0 a1 a2 a3 a4 a5 a6 a7)) (fun _ _ _ _ _ _ _ _ _ _ _ _ _ _ _ _ => k .nil) t).good from h)
      cases t' with
      | nd b0 b1 b2 b3 b4 b5 b6 b7 =>
        refine ⟨.s1 b0 b1 b2 b3 b4 b5 b6 b7, fun j => ?_, h2⟩
        show (if j < 8 then getL 1 (PT.nd b0 b1 b2 b3 b4 b5 b6 b7) j else none) = none ∨ (if j < 8 then getL 1 (PT.nd b0 b1 b2 b3 b4 b5 b6 b7) j else none) = if j < 8 then getL 1 (PT.nd a0 a1 a2 a3 a4 a5 a6 a7) j else none
        split
        · exact h1 j
        · exact .inl rfl
      | _ => exact ⟨.nil, fun j => .inl (get_nil j), h2⟩

end PT

/-! ### Environments -/

inductive N8 (α : Type) where
  | mk (a0 a1 a2 a3 a4 a5 a6 a7 : α)

namespace N8
variable {α : Type}
def get : N8 α → I8 → α
  | .mk a0 a1 a2 a3 a4 a5 a6 a7, i => match i with | .i0 => a0 | .i1 => a1 | .i2 => a2 | .i3 => a3 | .i4 => a4 | .i5 => a5 | .i6 => a6 | .i7 => a7
def set : N8 α → I8 → α → N8 α
  | .mk a0 a1 a2 a3 a4 a5 a6 a7, i, x => match i with
    | .i0 => .mk x a1 a2 a3 a4 a5 a6 a7 | .i1 => .mk a0 x a2 a3 a4 a5 a6 a7 | .i2 => .mk a0 a1 x a3 a4 a5 a6 a7 | .i3 => .mk a0 a1 a2 x a4 a5 a6 a7
    | .i4 => .mk a0 a1 a2 a3 x a5 a6 a7 | .i5 => .mk a0 a1 a2 a3 a4 x a6 a7 | .i6 => .mk a0 a1 a2 a3 a4 a5 x a7 | .i7 => .mk a0 a1 a2 a3 a4 a5 a6 x
theorem get_set (t : N8 α) (i j : I8) (x : α) : (t.set i x).get j = if j = i then x else t.get j := by
  cases t; cases i <;> cases j <;> rfl

def gK (i : I8) (k : α → Res) (n : N8 α) : Res :=
  match n with
  | .mk a0 a1 a2 a3 a4 a5 a6 a7 => match i with | .i0 => k a0 | .i1 => k a1 | .i2 => k a2 | .i3 => k a3 | .i4 => k a4 | .i5 => k a5 | .i6 => k a6 | .i7 => k a7
def uK (i : I8) (m : α → (α → Res) → Res) (k : N8 α → Res) (n : N8 α) : Res :=
  match n with
  | .mk a0 a1 a2 a3 a4 a5 a6 a7 => match i with
    | .i0 => m a0 fun x => k (.mk x a1 a2 a3 a4 a5 a6 a7) | .i1 => m a1 fun x => k (.mk a0 x a2 a3 a4 a5 a6 a7) | .i2 => m a2 fun x => k (.mk a0 a1 x a3 a4 a5 a6 a7) | .i3 => m a3 fun x => k (.mk a0 a1 a2 x a4 a5 a6 a7)
    | .i4 => m a4 fun x => k (.mk a0 a1 a2 a3 x a5 a6 a7) | .i5 => m a5 fun x => k (.mk a0 a1 a2 a3 a4 x a6 a7) | .i6 => m a6 fun x => k (.mk a0 a1 a2 a3 a4 a5 x a7) | .i7 => m a7 fun x => k (.mk a0 a1 a2 a3 a4 a5 a6 x)
theorem gK_eq (i : I8) (k : α → Res) (n : N8 α) : gK i k n = k (n.get i) := by cases n; cases i <;> rfl
theorem uK_eq (i : I8) (m : α → (α → Res) → Res) (k : N8 α → Res) (n : N8 α) : uK i m k n = m (n.get i) fun x => k (n.set i x) := by cases n; cases i <;> rfl
end N8

/-- The place of a temporary: below 64, or above. -/
inductive Ix0 where
  | a (hi lo : I8)
  | c (top hi lo : I8)
  deriving DecidableEq

def Ix0.toNat : Ix0 → Nat
  | .a hi lo => 8 * hi.toNat + lo.toNat
  | .c top hi lo => 64 + (64 * top.toNat + 8 * hi.toNat + lo.toNat)

theorem I8.toNat_lt (i : I8) : i.toNat < 8 := by cases i <;> decide
theorem I8.toNat_inj {i j : I8} (h : i.toNat = j.toNat) : i = j := by cases i <;> cases j <;> first | rfl | (exact absurd h (by decide))
theorem Ix0.toNat_inj {i j : Ix0} (h : i.toNat = j.toNat) : i = j := by
  cases i with
  | a h1 l1 =>
    cases j with
    | a h2 l2 =>
      simp only [Ix0.toNat] at h
      have := h1.toNat_lt; have := h2.toNat_lt; have := l1.toNat_lt; have := l2.toNat_lt
      rw [I8.toNat_inj (i := h1) (j := h2) (by omega), I8.toNat_inj (i := l1) (j := l2) (by omega)]
    | c t2 h2 l2 =>
      simp only [Ix0.toNat] at h
      have := h1.toNat_lt; have := l1.toNat_lt
      omega
  | c t1 h1 l1 =>
    cases j with
    | a h2 l2 =>
      simp only [Ix0.toNat] at h
      have := h2.toNat_lt; have := l2.toNat_lt
      omega
    | c t2 h2 l2 =>
      simp only [Ix0.toNat] at h
      have := h1.toNat_lt; have := h2.toNat_lt; have := l1.toNat_lt; have := l2.toNat_lt
      rw [I8.toNat_inj (i := t1) (j := t2) (by omega), I8.toNat_inj (i := h1) (j := h2) (by omega), I8.toNat_inj (i := l1) (j := l2) (by omega)]

inductive Env where
  | mk (s : N8 (N8 AV)) (g : N8 (N8 (N8 AV)))

namespace Env
def get0 : Env → Ix0 → AV
  | .mk s g, i => match i with | .a hi lo => (s.get hi).get lo | .c top hi lo => ((g.get top).get hi).get lo
def set0 : Env → Ix0 → AV → Env
  | .mk s g, i, v => match i with
    | .a hi lo => .mk (s.set hi ((s.get hi).set lo v)) g
    | .c top hi lo => .mk s (g.set top ((g.get top).set hi (((g.get top).get hi).set lo v)))
theorem get_set0 (e : Env) (i j : Ix0) (v : AV) : (e.set0 i v).get0 j = if j = i then v else e.get0 j := by
  cases e; cases i <;> cases j <;> simp only [set0, get0, N8.get_set]
  · split
    · subst_vars; rw [N8.get_set]; split <;> simp_all
    · rw [if_neg (by simp_all)]
  · rw [if_neg (by simp)]
  · rw [if_neg (by simp)]
  · split
    · subst_vars; rw [N8.get_set]
      split
      · subst_vars; rw [N8.get_set]; split <;> simp_all
      · rw [if_neg (by simp_all)]
    · rw [if_neg (by simp_all)]

def getK0 (i : Ix0) (k : AV → Res) (e : Env) : Res :=
  match e with
  | .mk s g => match i with | .a hi lo => N8.gK hi (N8.gK lo k) s | .c top hi lo => N8.gK top (N8.gK hi (N8.gK lo k)) g
theorem getK0_eq (i : Ix0) (k : AV → Res) (e : Env) : getK0 i k e = k (e.get0 i) := by
  cases e; cases i <;> simp only [getK0, get0, N8.gK_eq]

def setK0 (i : Ix0) (v : AV) (k : Env → Res) (e : Env) : Res :=
  match e with
  | .mk s g => match i with
    | .a hi lo => N8.uK hi (fun n kk => N8.uK lo (fun _ kk => kk v) kk n) (fun s' => k (.mk s' g)) s
    | .c top hi lo => N8.uK top (fun n kk => N8.uK hi (fun n kk => N8.uK lo (fun _ kk => kk v) kk n) kk n) (fun g' => k (.mk s g')) g
theorem setK0_eq (i : Ix0) (v : AV) (k : Env → Res) (e : Env) : setK0 i v k e = k (e.set0 i v) := by
  cases e; cases i <;> simp only [setK0, set0, N8.uK_eq]
end Env

/-- A place, and how it is read and written. -/
structure Ix where
  n : Ix0
  g : (AV → Res) → Env → Res
  s : AV → (Env → Res) → Env → Res
  hg : g = Env.getK0 n
  hs : s = Env.setK0 n

def Ix.of (n : Ix0) : Ix := ⟨n, Env.getK0 n, Env.setK0 n, rfl, rfl⟩
def Ix.toNat (i : Ix) : Nat := i.n.toNat
theorem Ix.ext {i j : Ix} (h : i.n = j.n) : i = j := by
  obtain ⟨n, g, s, hg, hs⟩ := i
  obtain ⟨n', g', s', hg', hs'⟩ := j
  simp only at h
  subst h; subst hg; subst hs; subst hg'; subst hs'
  rfl
theorem Ix.toNat_inj {i j : Ix} (h : i.toNat = j.toNat) : i = j := Ix.ext (Ix0.toNat_inj h)
instance : DecidableEq Ix := fun i j => if h : i.n = j.n then .isTrue (Ix.ext h) else .isFalse fun e => h (by rw [e])

namespace Env
def get (e : Env) (i : Ix) : AV := e.get0 i.n
def set (e : Env) (i : Ix) (v : AV) : Env := e.set0 i.n v
theorem get_set (e : Env) (i j : Ix) (v : AV) : (e.set i v).get j = if j = i then v else e.get j := by
  unfold get set
  rw [get_set0]
  by_cases h : j = i
  · rw [if_pos h, if_pos (by rw [h])]
  · rw [if_neg h, if_neg fun q => h (Ix.ext q)]
noncomputable def getK (i : Ix) (k : AV → Res) (e : Env) : Res := Ix.rec (motive := fun _ => (AV → Res) → Env → Res) (fun _ g _ _ _ k e => g k e) i k e
theorem getK_eq (i : Ix) (k : AV → Res) (e : Env) : getK i k e = k (e.get i) := by
  have : getK i k e = i.g k e := by cases i; rfl
  rw [this, i.hg]; exact getK0_eq _ _ _
noncomputable def setK (i : Ix) (v : AV) (k : Env → Res) (e : Env) : Res := Ix.rec (motive := fun _ => AV → (Env → Res) → Env → Res) (fun _ _ s _ _ v k e => s v k e) i v k e
theorem setK_eq (i : Ix) (v : AV) (k : Env → Res) (e : Env) : setK i v k e = k (e.set i v) := by
  have : setK i v k e = i.s v k e := by cases i; rfl
  rw [this, i.hs]; exact setK0_eq _ _ _ _
end Env

end Go.Ev
