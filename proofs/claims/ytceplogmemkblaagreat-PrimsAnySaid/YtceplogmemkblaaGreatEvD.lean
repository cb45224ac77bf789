/-
  An abstract evaluator for Go code under the model: operations on two numbers, two strings.
-/
import Derived.Test.YtceplogmemkblaaGreatEvC
import GoSem.Dispatch
import Derived.Laws.Entries
import Derived.Laws.StructEq
namespace Go.Ev

noncomputable def forceN (m : Nat) (k : Nat → Res) : Res := Nat.rec (motive := fun _ => (Nat → Res) → Res) (fun k => k 0) (fun m _ k => k (Nat.succ m)) m k
theorem forceN_eq (m : Nat) (k : Nat → Res) : forceN m k = k m := by cases m <;> rfl

noncomputable def iteK (b : Bool) (x y : Res) : Res := Bool.rec (motive := fun _ => Res → Res → Res) (fun _ y => y) (fun x _ => x) b x y
theorem iteK_eq (b : Bool) (x y : Res) : iteK b x y = if b then x else y := by cases b <;> rfl
theorem iteK_good {b : Bool} {x : Res} {c : Nat} (h : (iteK b x (.fail c)).good) : b = true ∧ x.good := by
  cases b
  · exact absurd h Res.not_good_fail
  · exact ⟨rfl, h⟩

noncomputable def boolK (b : Bool) (k : AV → Res) : Res := Bool.rec (motive := fun _ => (AV → Res) → Res) (fun k => k (.b false)) (fun k => k (.b true)) b k
theorem boolK_eq (b : Bool) (k : AV → Res) : boolK b k = k (.b b) := by cases b <;> rfl

noncomputable def isP (x : AV) (k : Nat → Res) (f : Res) : Res := AV.rec (motive := fun _ => (Nat → Res) → Res → Res) (fun _ f => f) (fun _ => fun _ f => f) (fun m k _ => k m) (fun _ => fun _ f => f) (fun _ _ => fun _ f => f) (fun _ _ => fun _ f => f) (fun _ _ => fun _ f => f) (fun _ f => f) (fun _ _ _ _ _ => fun _ f => f) (fun _ f => f) (fun _ f => f) (fun _ => fun _ f => f) (fun _ f => f) (fun _ _ _ _ _ => fun _ f => f) (fun _ f => f) (fun _ _ => fun _ f => f) (fun _ _ => fun _ f => f) (fun _ f => f) (fun _ _ _ _ => fun _ f => f) x k f
theorem isP_eq (x : AV) (k : Nat → Res) (f : Res) : isP x k f = match x with | .p m => k m | _ => f := by cases x <;> rfl
noncomputable def isW (x : AV) (k : IntKind → Nat → Res) (f : Res) : Res := AV.rec (motive := fun _ => (IntKind → Nat → Res) → Res → Res) (fun _ f => f) (fun _ => fun _ f => f) (fun _ => fun _ f => f) (fun _ => fun _ f => f) (fun kd m k _ => k kd m) (fun _ _ => fun _ f => f) (fun _ _ => fun _ f => f) (fun _ f => f) (fun _ _ _ _ _ => fun _ f => f) (fun _ f => f) (fun _ f => f) (fun _ => fun _ f => f) (fun _ f => f) (fun _ _ _ _ _ => fun _ f => f) (fun _ f => f) (fun _ _ => fun _ f => f) (fun _ _ => fun _ f => f) (fun _ f => f) (fun _ _ _ _ => fun _ f => f) x k f
theorem isW_eq (x : AV) (k : IntKind → Nat → Res) (f : Res) : isW x k f = match x with | .w kd m => k kd m | _ => f := by cases x <;> rfl
noncomputable def isS (x : AV) (k : Nat → Nat → Res) (f : Res) : Res := AV.rec (motive := fun _ => (Nat → Nat → Res) → Res → Res) (fun _ f => f) (fun _ => fun _ f => f) (fun _ => fun _ f => f) (fun _ => fun _ f => f) (fun _ _ => fun _ f => f) (fun l m k _ => k l m) (fun _ _ => fun _ f => f) (fun _ f => f) (fun _ _ _ _ _ => fun _ f => f) (fun _ f => f) (fun _ f => f) (fun _ => fun _ f => f) (fun _ f => f) (fun _ _ _ _ _ => fun _ f => f) (fun _ f => f) (fun _ _ => fun _ f => f) (fun _ _ => fun _ f => f) (fun _ f => f) (fun _ _ _ _ => fun _ f => f) x k f
theorem isS_eq (x : AV) (k : Nat → Nat → Res) (f : Res) : isS x k f = match x with | .s l m => k l m | _ => f := by cases x <;> rfl
noncomputable def isB (x : AV) (k : Bool → Res) (f : Res) : Res := AV.rec (motive := fun _ => (Bool → Res) → Res → Res) (fun _ f => f) (fun m k _ => k m) (fun _ => fun _ f => f) (fun _ => fun _ f => f) (fun _ _ => fun _ f => f) (fun _ _ => fun _ f => f) (fun _ _ => fun _ f => f) (fun _ f => f) (fun _ _ _ _ _ => fun _ f => f) (fun _ f => f) (fun _ f => f) (fun _ => fun _ f => f) (fun _ f => f) (fun _ _ _ _ _ => fun _ f => f) (fun _ f => f) (fun _ _ => fun _ f => f) (fun _ _ => fun _ f => f) (fun _ f => f) (fun _ _ _ _ => fun _ f => f) x k f
theorem isB_eq (x : AV) (k : Bool → Res) (f : Res) : isB x k f = match x with | .b m => k m | _ => f := by cases x <;> rfl

theorem isP_or {x : AV} {k : Nat → Res} {f : Res} (h : (isP x k f).good) : (∃ m, x = .p m ∧ (k m).good) ∨ f.good := by
  rw [isP_eq] at h; cases x <;> first | exact .inl ⟨_, rfl, h⟩ | exact .inr h
theorem isW_or {x : AV} {k : IntKind → Nat → Res} {f : Res} (h : (isW x k f).good) : (∃ kd m, x = .w kd m ∧ (k kd m).good) ∨ f.good := by
  rw [isW_eq] at h; cases x <;> first | exact .inl ⟨_, _, rfl, h⟩ | exact .inr h
theorem isS_or {x : AV} {k : Nat → Nat → Res} {f : Res} (h : (isS x k f).good) : (∃ l m, x = .s l m ∧ (k l m).good) ∨ f.good := by
  rw [isS_eq] at h; cases x <;> first | exact .inl ⟨_, _, rfl, h⟩ | exact .inr h
theorem isB_or {x : AV} {k : Bool → Res} {f : Res} (h : (isB x k f).good) : (∃ m, x = .b m ∧ (k m).good) ∨ f.good := by
  rw [isB_eq] at h; cases x <;> first | exact .inl ⟨_, rfl, h⟩ | exact .inr h
theorem isP_good {x : AV} {k : Nat → Res} {c : Nat} (h : (isP x k (.fail c)).good) : ∃ m, x = .p m ∧ (k m).good := by
  rw [isP_eq] at h; cases x <;> first | exact ⟨_, rfl, h⟩ | exact absurd h Res.not_good_fail
theorem isS_good {x : AV} {k : Nat → Nat → Res} {c : Nat} (h : (isS x k (.fail c)).good) : ∃ l m, x = .s l m ∧ (k l m).good := by
  rw [isS_eq] at h; cases x <;> first | exact ⟨_, _, rfl, h⟩ | exact absurd h Res.not_good_fail
theorem isB_good {x : AV} {k : Bool → Res} {c : Nat} (h : (isB x k (.fail c)).good) : ∃ m, x = .b m ∧ (k m).good := by
  rw [isB_eq] at h; cases x <;> first | exact ⟨_, rfl, h⟩ | exact absurd h Res.not_good_fail

/-- A value as a whole number of its kind. -/
def toZ : AV → Option (IntKind × Int)
  | .p m => some (.i64, Int.ofNat m)
  | .n m => some (.i64, Int.negSucc m)
  | .w k m => some (k, Int.ofNat m)
  | _ => none

theorem toZ_VR {x : AV} {k : IntKind} {z : Int} (h : toZ x = some (k, z)) {μ : Nat → Nat} {nx : Nat} {w : World} {v : Value} (hv : VR μ nx w x v) : v = .int k z := by
  cases x <;> simp [toZ] at h <;> obtain ⟨rfl, rfl⟩ := h <;> exact hv

noncomputable def zK (x : AV) (k : IntKind → Int → Res) : Res := AV.rec (motive := fun _ => (IntKind → Int → Res) → Res) (fun _ => .fail 10) (fun _ => fun _ => .fail 10) (fun m k => k .i64 (Int.ofNat m)) (fun m k => k .i64 (Int.negSucc m)) (fun kd m k => k kd (Int.ofNat m)) (fun _ _ => fun _ => .fail 10) (fun _ _ => fun _ => .fail 10) (fun _ => .fail 10) (fun _ _ _ _ _ => fun _ => .fail 10) (fun _ => .fail 10) (fun _ => .fail 10) (fun _ => fun _ => .fail 10) (fun _ => .fail 10) (fun _ _ _ _ _ => fun _ => .fail 10) (fun _ => .fail 10) (fun _ _ => fun _ => .fail 10) (fun _ _ => fun _ => .fail 10) (fun _ => .fail 10) (fun _ _ _ _ => fun _ => .fail 10) x k
theorem zK_good {x : AV} {k : IntKind → Int → Res} (h : (zK x k).good) : ∃ kd z, toZ x = some (kd, z) ∧ (k kd z).good := by
  cases x <;> first | exact ⟨_, _, rfl, h⟩ | exact absurd h Res.not_good_fail

noncomputable def mkPos (kd : IntKind) (m : Nat) (k : AV → Res) : Res :=
  IntKind.rec (motive := fun _ => Nat → (AV → Res) → Res) (fun m k => k (.w .i8 m)) (fun m k => k (.w .i16 m)) (fun m k => k (.w .i32 m)) (fun m k => k (.p m))
    (fun m k => k (.w .u8 m)) (fun m k => k (.w .u16 m)) (fun m k => k (.w .u32 m)) (fun m k => k (.w .u64 m)) kd m k
noncomputable def mkNeg (kd : IntKind) (m : Nat) (k : AV → Res) : Res :=
  IntKind.rec (motive := fun _ => Nat → (AV → Res) → Res) (fun _ _ => .fail 11) (fun _ _ => .fail 11) (fun _ _ => .fail 11) (fun m k => k (.n m))
    (fun _ _ => .fail 11) (fun _ _ => .fail 11) (fun _ _ => .fail 11) (fun _ _ => .fail 11) kd m k
noncomputable def mkZ (kd : IntKind) (z : Int) (k : AV → Res) : Res :=
  Int.rec (motive := fun _ => IntKind → (AV → Res) → Res) (fun m kd k => forceN m fun m => mkPos kd m k) (fun m kd k => forceN m fun m => mkNeg kd m k) z kd k

def posOf : IntKind → Nat → AV
  | .i64, m => .p m
  | k, m => .w k m
theorem mkPos_eq (kd : IntKind) (m : Nat) (k : AV → Res) : mkPos kd m k = k (posOf kd m) := by cases kd <;> rfl
theorem posOf_VR (kd : IntKind) (m : Nat) (μ : Nat → Nat) (nx : Nat) (w : World) : VR μ nx w (posOf kd m) (.int kd (Int.ofNat m)) := by cases kd <;> rfl
theorem mkNeg_good {kd : IntKind} {m : Nat} {k : AV → Res} (h : (mkNeg kd m k).good) : kd = .i64 ∧ (k (.n m)).good := by
  cases kd <;> first | exact ⟨rfl, h⟩ | (obtain ⟨v, hh, e⟩ := h; cases e)

theorem mkZ_good {kd : IntKind} {z : Int} {k : AV → Res} (h : (mkZ kd z k).good) : ∃ r, (∀ μ nx w, VR μ nx w r (.int kd z)) ∧ (k r).good := by
  cases z with
  | ofNat m =>
    have h' : (forceN m fun m => mkPos kd m k).good := h
    rw [forceN_eq, mkPos_eq] at h'
    exact ⟨_, posOf_VR kd m, h'⟩
  | negSucc m =>
    have h' : (forceN m fun m => mkNeg kd m k).good := h
    rw [forceN_eq] at h'
    obtain ⟨rfl, h2⟩ := mkNeg_good h'
    exact ⟨.n m, fun _ _ _ => rfl, h2⟩

/-- What the model answers at two numbers, where it does not end. -/
def binZ (op : BinOp) (k : IntKind) (a : Int) (k' : IntKind) (b : Int) : Option (IntKind × Int) :=
  match op with
  | .shl => if b < 0 then none else some (k, k.wrap (a * 2 ^ (min b.toNat k.bits)))
  | .shr => if b < 0 then none else some (k, a.fdiv (2 ^ (min b.toNat k.bits)))
  | .add => if k = k' then some (k, k.wrap (a + b)) else none
  | .sub => if k = k' then some (k, k.wrap (a - b)) else none
  | .mul => if k = k' then some (k, k.wrap (a * b)) else none
  | .quo => if k = k' ∧ b ≠ 0 then some (k, k.wrap (a.tdiv b)) else none
  | .rem => if k = k' ∧ b ≠ 0 then some (k, a.tmod b) else none
  | .and => if k = k' then some (k, k.wrap (BitVec.ofInt k.bits a &&& BitVec.ofInt k.bits b).toNat) else none
  | .or => if k = k' then some (k, k.wrap (BitVec.ofInt k.bits a ||| BitVec.ofInt k.bits b).toNat) else none
  | .xor => if k = k' then some (k, k.wrap (BitVec.ofInt k.bits a ^^^ BitVec.ofInt k.bits b).toNat) else none
  | _ => none
def cmpZ (op : BinOp) (k : IntKind) (a : Int) (k' : IntKind) (b : Int) : Option Bool :=
  if k ≠ k' then none else
  match op with
  | .eql => some (a == b)
  | .neq => some (a != b)
  | .lss => some (a < b)
  | .leq => some (a ≤ b)
  | .gtr => some (a > b)
  | .geq => some (a ≥ b)
  | _ => none

def guarded (op : BinOp) (t : TypeId) (x y : Operand) (a b : Value) : Sem Value := do eqGuard op t x y a b; binOp op t a b

theorem binZ_run {op : BinOp} {k k' kd : IntKind} {a b z : Int} (h : binZ op k a k' b = some (kd, z)) (P : Program) (w : World) (t : TypeId) (x y : Operand) :
    (guarded op t x y (.int k a) (.int k' b)).run P w = .ok (.int kd z) w := by
  unfold guarded
  rw [eqGuard_at_int]
  show (binOp op t (.int k a) (.int k' b)).run P w = _
  cases op <;> simp only [binZ] at h <;> first | (cases h; done) | skip
  case shl => split at h; (exact absurd h (by simp)); rename_i hb; obtain ⟨rfl, rfl⟩ := Prod.mk.inj (Option.some.inj h); rw [binOp_shl]; unfold Op.shift; rw [if_neg hb]; rfl
  case shr => split at h; (exact absurd h (by simp)); rename_i hb; obtain ⟨rfl, rfl⟩ := Prod.mk.inj (Option.some.inj h); rw [binOp_shr]; unfold Op.shift; rw [if_neg hb]; rfl
  case quo => split at h; rename_i hb; obtain ⟨rfl, rfl⟩ := Prod.mk.inj (Option.some.inj h); obtain ⟨rfl, hb⟩ := hb; rw [binOp_quo]; unfold Op.intDiv; rw [if_neg hb]; rfl; exact absurd h (by simp)
  case rem => split at h; rename_i hb; obtain ⟨rfl, rfl⟩ := Prod.mk.inj (Option.some.inj h); obtain ⟨rfl, hb⟩ := hb; rw [binOp_rem]; unfold Op.intDiv; rw [if_neg hb]; rfl; exact absurd h (by simp)
  case add => split at h; rename_i hb; obtain ⟨rfl, rfl⟩ := Prod.mk.inj (Option.some.inj h); subst hb; rw [binOp_add]; rfl; exact absurd h (by simp)
  case sub => split at h; rename_i hb; obtain ⟨rfl, rfl⟩ := Prod.mk.inj (Option.some.inj h); subst hb; rw [binOp_sub]; rfl; exact absurd h (by simp)
  case mul => split at h; rename_i hb; obtain ⟨rfl, rfl⟩ := Prod.mk.inj (Option.some.inj h); subst hb; rw [binOp_mul]; rfl; exact absurd h (by simp)
  case and => split at h; rename_i hb; obtain ⟨rfl, rfl⟩ := Prod.mk.inj (Option.some.inj h); subst hb; rw [binOp_and]; rfl; exact absurd h (by simp)
  case or => split at h; rename_i hb; obtain ⟨rfl, rfl⟩ := Prod.mk.inj (Option.some.inj h); subst hb; rw [binOp_or]; rfl; exact absurd h (by simp)
  case xor => split at h; rename_i hb; obtain ⟨rfl, rfl⟩ := Prod.mk.inj (Option.some.inj h); subst hb; rw [binOp_xor]; rfl; exact absurd h (by simp)

theorem cmpZ_run {op : BinOp} {k k' : IntKind} {a b : Int} {r : Bool} (h : cmpZ op k a k' b = some r) (P : Program) (w : World) (t : TypeId) (x y : Operand) :
    (guarded op t x y (.int k a) (.int k' b)).run P w = .ok (.bool r) w := by
  unfold guarded
  rw [eqGuard_at_int]
  show (binOp op t (.int k a) (.int k' b)).run P w = _
  unfold cmpZ at h
  split at h
  · exact absurd h (by simp)
  · rename_i hk
    have hk : k = k' := Decidable.not_not.1 hk
    subst hk
    cases op <;> simp only [Option.some.injEq, reduceCtorEq] at h <;> subst h
    · rw [binOp_eql]; rfl
    · rw [binOp_neq]; rfl
    · rw [binOp_lss]; rfl
    · rw [binOp_leq]; rfl
    · rw [binOp_gtr]; rfl
    · rw [binOp_geq]; rfl

/-- What an operation comes to at two values, whatever its type. -/
def BinS (op : BinOp) (x y r : AV) : Prop := ∀ μ nx w vx vy, VR μ nx w x vx → VR μ nx w y vy → ∃ v, (∀ (P : Program) (t : TypeId) (xo yo : Operand), (guarded op t xo yo vx vy).run P w = .ok v w) ∧ VR μ nx w r v

noncomputable def slowBin (op : BinOp) (x y : AV) (k : AV → Res) : Res := zK x fun kx a => zK y fun ky b => Option.rec (.fail 12) (fun r => mkZ r.1 r.2 k) (binZ op kx a ky b)
theorem slowBin_good {op : BinOp} {x y : AV} {k : AV → Res} (h : (slowBin op x y k).good) : ∃ r, BinS op x y r ∧ (k r).good := by
  obtain ⟨kx, a, hx, h⟩ := zK_good h
  obtain ⟨ky, b, hy, h⟩ := zK_good h
  cases hr : binZ op kx a ky b with
  | none => rw [hr] at h; exact absurd h Res.not_good_fail
  | some q =>
    rw [hr] at h
    obtain ⟨r, hv, hk⟩ := mkZ_good h
    refine ⟨r, fun μ nx w vx vy hvx hvy => ⟨.int q.1 q.2, fun P t xo yo => ?_, hv _ _ _⟩, hk⟩
    rw [toZ_VR hx hvx, toZ_VR hy hvy]; exact binZ_run hr P w t xo yo

noncomputable def slowCmp (op : BinOp) (x y : AV) (k : AV → Res) : Res := zK x fun kx a => zK y fun ky b => Option.rec (.fail 13) (fun r => boolK r k) (cmpZ op kx a ky b)
theorem slowCmp_good {op : BinOp} {x y : AV} {k : AV → Res} (h : (slowCmp op x y k).good) : ∃ r, BinS op x y r ∧ (k r).good := by
  obtain ⟨kx, a, hx, h⟩ := zK_good h
  obtain ⟨ky, b, hy, h⟩ := zK_good h
  cases hr : cmpZ op kx a ky b with
  | none => rw [hr] at h; exact absurd h Res.not_good_fail
  | some q =>
    rw [hr] at h
    have h : (boolK q k).good := h
    rw [boolK_eq] at h
    refine ⟨.b q, fun μ nx w vx vy hvx hvy => ⟨.bool q, fun P t xo yo => ?_, rfl⟩, h⟩
    rw [toZ_VR hx hvx, toZ_VR hy hvy]; exact cmpZ_run hr P w t xo yo

theorem wrap_in {z : Int} (h0 : -9223372036854775808 ≤ z) (h1 : z ≤ 9223372036854775807) : IntKind.i64.wrap z = z := by
  simp [IntKind.wrap, IntKind.bits, IntKind.signed]; split <;> omega

/-- 2^63 - 1, under a name. -/
def top63 : Nat := 9223372036854775807

noncomputable def okP (r : Nat) (k : AV → Res) : Res := forceN r fun r => iteK (Nat.ble r top63) (k (.p r)) (.fail 14)
theorem okP_good {r : Nat} {k : AV → Res} (h : (okP r k).good) : r ≤ top63 ∧ (k (.p r)).good := by
  unfold okP at h
  rw [forceN_eq] at h
  obtain ⟨h1, h2⟩ := iteK_good h
  exact ⟨Nat.le_of_ble_eq_true h1, h2⟩
noncomputable def okN (r : Nat) (k : AV → Res) : Res := forceN r fun r => iteK (Nat.ble r top63) (k (.n r)) (.fail 15)
theorem okN_good {r : Nat} {k : AV → Res} (h : (okN r k).good) : r ≤ top63 ∧ (k (.n r)).good := by
  unfold okN at h
  rw [forceN_eq] at h
  obtain ⟨h1, h2⟩ := iteK_good h
  exact ⟨Nat.le_of_ble_eq_true h1, h2⟩

theorem binS_p {op : BinOp} {m n r : Nat} (h : binZ op .i64 m .i64 n = some (.i64, (r : Int))) : BinS op (.p m) (.p n) (.p r) :=
  fun μ nx w vx vy hx hy => ⟨.int .i64 r, fun P t xo yo => by rw [show vx = .int .i64 m from hx, show vy = .int .i64 n from hy]; exact binZ_run h P w t xo yo, rfl⟩
theorem binS_n {op : BinOp} {m n r : Nat} (h : binZ op .i64 m .i64 n = some (.i64, Int.negSucc r)) : BinS op (.p m) (.p n) (.n r) :=
  fun μ nx w vx vy hx hy => ⟨.int .i64 (Int.negSucc r), fun P t xo yo => by rw [show vx = .int .i64 m from hx, show vy = .int .i64 n from hy]; exact binZ_run h P w t xo yo, rfl⟩

noncomputable def addP (m n : Nat) (k : AV → Res) : Res := okP (Nat.add m n) k
noncomputable def subP (m n : Nat) (k : AV → Res) : Res := iteK (Nat.ble n m) (okP (Nat.sub m n) k) (okN (Nat.sub (Nat.sub n m) 1) k)
noncomputable def mulP (m n : Nat) (k : AV → Res) : Res := okP (Nat.mul m n) k
noncomputable def quoP (m n : Nat) (k : AV → Res) : Res := iteK (Nat.ble 1 n) (okP (Nat.div m n) k) (.fail 16)
noncomputable def remP (m n : Nat) (k : AV → Res) : Res := iteK (Nat.ble 1 n) (okP (Nat.mod m n) k) (.fail 16)
noncomputable def andP (m n : Nat) (k : AV → Res) : Res := okP (Nat.land m n) k
noncomputable def orP (m n : Nat) (k : AV → Res) : Res := okP (Nat.lor m n) k
noncomputable def shlP (m n : Nat) (k : AV → Res) : Res := iteK (Nat.ble n 63) (okP (Nat.shiftLeft m n) k) (.fail 17)
noncomputable def shrP (m n : Nat) (k : AV → Res) : Res := iteK (Nat.ble n 63) (okP (Nat.shiftRight m n) k) (.fail 17)

/-- 'f' is the op's way at two plain numbers. -/
def FastS (op : BinOp) (f : Nat → Nat → (AV → Res) → Res) : Prop := ∀ m n k, (f m n k).good → ∃ r, BinS op (.p m) (.p n) r ∧ (k r).good

theorem addP_fast : FastS .add addP := fun m n k h => by
  obtain ⟨h1, h2⟩ := okP_good h
  exact ⟨_, binS_p (by simp only [binZ, if_true]; rw [wrap_in (by omega) (by simp only [top63, Nat.add_eq] at h1; omega)]; simp), h2⟩
theorem mulP_fast : FastS .mul mulP := fun m n k h => by
  obtain ⟨h1, h2⟩ := okP_good h
  refine ⟨_, binS_p (r := m * n) ?_, h2⟩
  have e : ((m : Int) * n) = ((m * n : Nat) : Int) := by simp
  simp only [binZ, if_true]; rw [e, wrap_in (by omega) (by simp only [top63, Nat.mul_eq] at h1; omega)]
theorem subP_fast : FastS .sub subP := fun m n k h => by
  unfold subP at h
  rw [iteK_eq] at h
  split at h
  · rename_i hb
    have hb := Nat.le_of_ble_eq_true hb
    obtain ⟨h1, h2⟩ := okP_good h
    refine ⟨_, binS_p (r := m - n) ?_, h2⟩
    simp only [top63, Nat.sub_eq] at h1
    simp only [binZ, if_true]; rw [wrap_in (by omega) (by omega)]; congr 2; omega
  · rename_i hb
    have hb : ¬ n ≤ m := fun hle => hb (Nat.ble_eq_true_of_le hle)
    obtain ⟨h1, h2⟩ := okN_good h
    refine ⟨_, binS_n (r := n - m - 1) ?_, h2⟩
    simp only [top63, Nat.sub_eq] at h1
    simp only [binZ, if_true]; rw [wrap_in (by omega) (by omega)]; congr 2; omega
theorem quoP_fast : FastS .quo quoP := fun m n k h => by
  obtain ⟨hn, h⟩ := iteK_good h
  have hn := Nat.le_of_ble_eq_true hn
  obtain ⟨h1, h2⟩ := okP_good h
  refine ⟨_, binS_p (r := m / n) ?_, h2⟩
  have e : Int.tdiv (m : Int) n = ((m / n : Nat) : Int) := by simp
  have h1 : m / n ≤ 9223372036854775807 := h1
  generalize m / n = q at *
  simp only [binZ]; rw [if_pos ⟨trivial, by omega⟩, e, wrap_in (by omega) (by omega)]
theorem remP_fast : FastS .rem remP := fun m n k h => by
  obtain ⟨hn, h⟩ := iteK_good h
  have hn := Nat.le_of_ble_eq_true hn
  obtain ⟨h1, h2⟩ := okP_good h
  refine ⟨_, binS_p (r := m % n) ?_, h2⟩
  have e : Int.tmod (m : Int) n = ((m % n : Nat) : Int) := by rw [Int.tmod_eq_emod_of_nonneg (by omega)]; simp
  simp only [binZ]; rw [if_pos ⟨trivial, by omega⟩, e]

theorem ofInt_nat (m : Nat) : BitVec.ofInt 64 (m : Int) = BitVec.ofNat 64 m := by simp
theorem andP_fast : FastS .and andP := fun m n k h => by
  obtain ⟨h1, h2⟩ := okP_good h
  refine ⟨_, binS_p (r := m &&& n) ?_, h2⟩
  have h1 : m &&& n ≤ 9223372036854775807 := h1
  have e : (BitVec.ofInt 64 (m : Int) &&& BitVec.ofInt 64 (n : Int)).toNat = m &&& n := by
    rw [ofInt_nat, ofInt_nat, ← BitVec.ofNat_and, BitVec.toNat_ofNat]; exact Nat.mod_eq_of_lt (by omega)
  show some (IntKind.i64, IntKind.i64.wrap ((BitVec.ofInt 64 (m : Int) &&& BitVec.ofInt 64 (n : Int)).toNat : Int)) = _
  rw [e, wrap_in (by omega) (by omega)]
theorem orP_fast : FastS .or orP := fun m n k h => by
  obtain ⟨h1, h2⟩ := okP_good h
  refine ⟨_, binS_p (r := m ||| n) ?_, h2⟩
  have h1 : m ||| n ≤ 9223372036854775807 := h1
  have e : (BitVec.ofInt 64 (m : Int) ||| BitVec.ofInt 64 (n : Int)).toNat = m ||| n := by
    rw [ofInt_nat, ofInt_nat, ← BitVec.ofNat_or, BitVec.toNat_ofNat]; exact Nat.mod_eq_of_lt (by omega)
  show some (IntKind.i64, IntKind.i64.wrap ((BitVec.ofInt 64 (m : Int) ||| BitVec.ofInt 64 (n : Int)).toNat : Int)) = _
  rw [e, wrap_in (by omega) (by omega)]
theorem shlP_fast : FastS .shl shlP := fun m n k h => by
  obtain ⟨hn, h⟩ := iteK_good h
  have hn := Nat.le_of_ble_eq_true hn
  obtain ⟨h1, h2⟩ := okP_good h
  refine ⟨_, binS_p (r := m <<< n) ?_, h2⟩
  have h1 : m <<< n ≤ 9223372036854775807 := h1
  have e : (m : Int) * 2 ^ (min n 64) = ((m <<< n : Nat) : Int) := by
    rw [Nat.min_eq_left (by omega), Nat.shiftLeft_eq]; simp
  clear h2
  generalize m <<< n = q at h1 e ⊢
  show (if (n : Int) < 0 then none else some (IntKind.i64, IntKind.i64.wrap ((m : Int) * 2 ^ (min n 64)))) = _
  rw [if_neg (by omega), e, wrap_in (by omega) (by omega)]
theorem shrP_fast : FastS .shr shrP := fun m n k h => by
  obtain ⟨hn, h⟩ := iteK_good h
  have hn := Nat.le_of_ble_eq_true hn
  obtain ⟨h1, h2⟩ := okP_good h
  refine ⟨_, binS_p (r := m >>> n) ?_, h2⟩
  have e : (m : Int).fdiv (2 ^ (min n 64)) = ((m >>> n : Nat) : Int) := by
    rw [Nat.min_eq_left (by omega), Nat.shiftRight_eq_div_pow, Int.fdiv_eq_ediv_of_nonneg _ (by exact_mod_cast Nat.zero_le _)]; simp
  show (if (n : Int) < 0 then none else some (IntKind.i64, (m : Int).fdiv (2 ^ (min n 64)))) = _
  rw [if_neg (by omega), e]

noncomputable def arK (f : Nat → Nat → (AV → Res) → Res) (op : BinOp) (x y : AV) (k : AV → Res) : Res := isP x (fun m => isP y (fun n => f m n k) (slowBin op x y k)) (slowBin op x y k)
theorem arK_good {f : Nat → Nat → (AV → Res) → Res} {op : BinOp} (hf : FastS op f) {x y : AV} {k : AV → Res} (h : (arK f op x y k).good) : ∃ r, BinS op x y r ∧ (k r).good := by
  unfold arK at h
  rcases isP_or h with ⟨m, rfl, h⟩ | h
  · rcases isP_or h with ⟨n, rfl, h⟩ | h
    · exact hf _ _ _ h
    · exact slowBin_good h
  · exact slowBin_good h

/-- 'f' is a comparison's way at two numbers that are not below nought. -/
def CmpS (op : BinOp) (f : Nat → Nat → Bool) : Prop := ∀ (kd : IntKind) (m n : Nat), cmpZ op kd m kd n = some (f m n)
theorem eq_cmp : CmpS .eql Nat.beq := fun kd m n => by
  simp only [cmpZ, ne_eq, not_true_eq_false, if_false, Option.some.injEq]
  rw [Bool.eq_iff_iff, beq_iff_eq, Nat.beq_eq]; omega
theorem ne_cmp : CmpS .neq fun m n => Bool.not (Nat.beq m n) := fun kd m n => by
  simp only [cmpZ, ne_eq, not_true_eq_false, if_false, Option.some.injEq]
  rw [Bool.eq_iff_iff, bne_iff_ne, Bool.not_eq_true', ← Bool.not_eq_true, Nat.beq_eq]; omega
theorem lt_cmp : CmpS .lss fun m n => Nat.ble (Nat.succ m) n := fun kd m n => by
  simp only [cmpZ, ne_eq, not_true_eq_false, if_false, Option.some.injEq]
  rw [Bool.eq_iff_iff, decide_eq_true_eq, Nat.ble_eq]; omega
theorem le_cmp : CmpS .leq Nat.ble := fun kd m n => by
  simp only [cmpZ, ne_eq, not_true_eq_false, if_false, Option.some.injEq]
  rw [Bool.eq_iff_iff, decide_eq_true_eq, Nat.ble_eq]; omega
theorem gt_cmp : CmpS .gtr fun m n => Nat.ble (Nat.succ n) m := fun kd m n => by
  simp only [cmpZ, ne_eq, not_true_eq_false, if_false, Option.some.injEq]
  rw [Bool.eq_iff_iff, decide_eq_true_eq, Nat.ble_eq]; omega
theorem ge_cmp : CmpS .geq fun m n => Nat.ble n m := fun kd m n => by
  simp only [cmpZ, ne_eq, not_true_eq_false, if_false, Option.some.injEq]
  rw [Bool.eq_iff_iff, decide_eq_true_eq, Nat.ble_eq]; omega

def kcode : IntKind → Nat
  | .i8 => 0 | .i16 => 1 | .i32 => 2 | .i64 => 3 | .u8 => 4 | .u16 => 5 | .u32 => 6 | .u64 => 7
theorem kcode_inj {a b : IntKind} (h : Nat.beq (kcode a) (kcode b) = true) : a = b := by cases a <;> cases b <;> first | rfl | (exact absurd h (by decide))

noncomputable def cmpK (f : Nat → Nat → Bool) (op : BinOp) (x y : AV) (k : AV → Res) : Res :=
  isP x (fun m => isP y (fun n => boolK (f m n) k) (slowCmp op x y k))
    (isW x (fun kd m => isW y (fun kd' n => iteK (Nat.beq (kcode kd) (kcode kd')) (boolK (f m n) k) (.fail 18)) (.fail 18)) (slowCmp op x y k))
theorem cmpK_good {f : Nat → Nat → Bool} {op : BinOp} (hf : CmpS op f) {x y : AV} {k : AV → Res} (h : (cmpK f op x y k).good) : ∃ r, BinS op x y r ∧ (k r).good := by
  unfold cmpK at h
  rcases isP_or h with ⟨m, rfl, h1⟩ | h1
  · rcases isP_or h1 with ⟨n, rfl, h2⟩ | h2
    · rw [boolK_eq] at h2
      refine ⟨.b (f m n), fun μ nx w vx vy hx hy => ⟨.bool (f m n), fun P t xo yo => ?_, rfl⟩, h2⟩
      rw [show vx = .int .i64 m from hx, show vy = .int .i64 n from hy]; exact cmpZ_run (hf .i64 m n) P w t xo yo
    · exact slowCmp_good h2
  · rcases isW_or h1 with ⟨kd, m, rfl, h2⟩ | h2
    · rcases isW_or h2 with ⟨kd', n, rfl, h3⟩ | h3
      · obtain ⟨hk, h4⟩ := iteK_good h3
        have hk := kcode_inj hk
        subst hk
        rw [boolK_eq] at h4
        refine ⟨.b (f m n), fun μ nx w vx vy hx hy => ⟨.bool (f m n), fun P t xo yo => ?_, rfl⟩, h4⟩
        rw [show vx = .int kd m from hx, show vy = .int kd n from hy]; exact cmpZ_run (hf kd m n) P w t xo yo
      · exact absurd h3 Res.not_good_fail
    · exact slowCmp_good h2

/-! ### Two strings -/

noncomputable def addS (l1 b1 l2 b2 : Nat) (k : AV → Res) : Res :=
  forceN (Nat.add l1 l2) fun l => iteK (Nat.ble l top63) (forceN (Nat.add b1 (Nat.shiftLeft b2 (Nat.mul 8 l1))) fun b => k (.s l b)) (.fail 19)

theorem pow256 (n : Nat) : 256 ^ n = 2 ^ (8 * n) := by rw [show (256 : Nat) = 2 ^ 8 from rfl, ← Nat.pow_mul]

theorem addS_good {l1 b1 l2 b2 : Nat} {k : AV → Res} (h : (addS l1 b1 l2 b2 k).good) : ∃ r, BinS .add (.s l1 b1) (.s l2 b2) r ∧ (k r).good := by
  unfold addS at h
  rw [forceN_eq] at h
  obtain ⟨hl, h⟩ := iteK_good h
  have hl : l1 + l2 ≤ 9223372036854775807 := Nat.le_of_ble_eq_true hl
  rw [forceN_eq] at h
  refine ⟨_, fun μ nx w vx vy hx hy => ?_, h⟩
  obtain ⟨rfl, h1⟩ := hx
  obtain ⟨rfl, h2⟩ := hy
  have e : Nat.add b1 (Nat.shiftLeft b2 (Nat.mul 8 l1)) = b1 + b2 * 256 ^ l1 := by
    show b1 + b2 <<< (8 * l1) = _
    rw [Nat.shiftLeft_eq, pow256]
  refine ⟨.string (dec l1 b1 ++ dec l2 b2), fun P t xo yo => ?_, ?_⟩
  · unfold guarded
    rw [eqGuard_at_string]
    show (Op.stringOp .add _ _).run P w = _
    exact run_string_add_sum w (dec l1 b1) (dec l2 b2) (by rw [dec_size, dec_size]; exact hl)
  · show _ = _ ∧ _
    rw [e]
    exact ⟨by rw [dec_append _ _ _ _ h1]; rfl, sum_lt h1 h2⟩

theorem toList_beq (a b : ByteArray) : (a.toList == b.toList) = decide (a = b) := by
  rw [Bool.eq_iff_iff, beq_iff_eq, decide_eq_true_eq, ByteArray.toList_eq, ByteArray.toList_eq]
  refine ⟨fun h => ?_, fun h => by rw [h]⟩
  apply ByteArray.ext
  exact Array.toList_inj.1 h

noncomputable def eqS (l1 b1 l2 b2 : Nat) : Bool := Bool.rec false (Nat.beq b1 b2) (Nat.beq l1 l2)
theorem eqS_eq {l1 b1 l2 b2 : Nat} (h1 : b1 < 256 ^ l1) (h2 : b2 < 256 ^ l2) : eqS l1 b1 l2 b2 = decide (dec l1 b1 = dec l2 b2) := by
  unfold eqS
  by_cases hl : l1 = l2
  · subst hl
    rw [show Nat.beq l1 l1 = true by simp]
    show Nat.beq b1 b2 = _
    rw [Bool.eq_iff_iff, Nat.beq_eq, decide_eq_true_eq]
    exact ⟨fun h => by rw [h], fun h => (dec_inj h1 h2 h).2⟩
  · have : Nat.beq l1 l2 = false := by rw [← Bool.not_eq_true, Nat.beq_eq]; exact hl
    rw [this]
    show false = _
    symm; rw [decide_eq_false_iff_not]
    exact fun h => hl (dec_inj h1 h2 h).1

noncomputable def eqK (x y : AV) (k : AV → Res) : Res := isS x (fun l1 b1 => isS y (fun l2 b2 => boolK (eqS l1 b1 l2 b2) k) (.fail 20)) (cmpK Nat.beq .eql x y k)
noncomputable def neK (x y : AV) (k : AV → Res) : Res := isS x (fun l1 b1 => isS y (fun l2 b2 => boolK (Bool.not (eqS l1 b1 l2 b2)) k) (.fail 20)) (cmpK (fun m n => Bool.not (Nat.beq m n)) .neq x y k)
noncomputable def plusK (x y : AV) (k : AV → Res) : Res := isS x (fun l1 b1 => isS y (fun l2 b2 => addS l1 b1 l2 b2 k) (.fail 20)) (arK addP .add x y k)

theorem eqK_good {x y : AV} {k : AV → Res} (h : (eqK x y k).good) : ∃ r, BinS .eql x y r ∧ (k r).good := by
  unfold eqK at h
  rcases isS_or h with ⟨l1, b1, rfl, h1⟩ | h1
  · obtain ⟨l2, b2, rfl, h2⟩ := isS_good h1
    rw [boolK_eq] at h2
    refine ⟨_, fun μ nx w vx vy hx hy => ?_, h2⟩
    obtain ⟨rfl, h1⟩ := hx
    obtain ⟨rfl, h2⟩ := hy
    refine ⟨.bool (eqS l1 b1 l2 b2), fun P t xo yo => ?_, rfl⟩
    unfold guarded
    rw [eqGuard_at_string, eqS_eq h1 h2, ← toList_beq]
    rfl
  · exact cmpK_good eq_cmp h1
theorem neK_good {x y : AV} {k : AV → Res} (h : (neK x y k).good) : ∃ r, BinS .neq x y r ∧ (k r).good := by
  unfold neK at h
  rcases isS_or h with ⟨l1, b1, rfl, h1⟩ | h1
  · obtain ⟨l2, b2, rfl, h2⟩ := isS_good h1
    rw [boolK_eq] at h2
    refine ⟨_, fun μ nx w vx vy hx hy => ?_, h2⟩
    obtain ⟨rfl, h1⟩ := hx
    obtain ⟨rfl, h2⟩ := hy
    refine ⟨.bool (!eqS l1 b1 l2 b2), fun P t xo yo => ?_, rfl⟩
    unfold guarded
    rw [eqGuard_at_string, eqS_eq h1 h2, ← toList_beq]
    rfl
  · exact cmpK_good ne_cmp h1
theorem plusK_good {x y : AV} {k : AV → Res} (h : (plusK x y k).good) : ∃ r, BinS .add x y r ∧ (k r).good := by
  unfold plusK at h
  rcases isS_or h with ⟨l1, b1, rfl, h1⟩ | h1
  · obtain ⟨l2, b2, rfl, h2⟩ := isS_good h1
    exact addS_good h2
  · exact arK_good addP_fast h1

/-- An operation on two values, by its sign. -/
noncomputable def binK (op : BinOp) : AV → AV → (AV → Res) → Res :=
  BinOp.rec (motive := fun _ => AV → AV → (AV → Res) → Res) plusK (arK subP .sub) (arK mulP .mul) (arK quoP .quo) (arK remP .rem) (arK andP .and) (arK orP .or) (slowBin .xor) (arK shlP .shl) (arK shrP .shr) (slowBin .andNot)
    eqK neK (cmpK (fun m n => Nat.ble (Nat.succ m) n) .lss) (cmpK Nat.ble .leq) (cmpK (fun m n => Nat.ble (Nat.succ n) m) .gtr) (cmpK (fun m n => Nat.ble n m) .geq) op

theorem binK_good {op : BinOp} {x y : AV} {k : AV → Res} (h : (binK op x y k).good) : ∃ r, BinS op x y r ∧ (k r).good := by
  cases op
  · exact plusK_good h
  · exact arK_good subP_fast h
  · exact arK_good mulP_fast h
  · exact arK_good quoP_fast h
  · exact arK_good remP_fast h
  · exact arK_good andP_fast h
  · exact arK_good orP_fast h
  · exact slowBin_good h
  · exact arK_good shlP_fast h
  · exact arK_good shrP_fast h
  · exact slowBin_good h
  · exact eqK_good h
  · exact neK_good h
  · exact cmpK_good lt_cmp h
  · exact cmpK_good le_cmp h
  · exact cmpK_good gt_cmp h
  · exact cmpK_good ge_cmp h

end Go.Ev
