/-
  An abstract evaluator for Go code under the model: written lists; operands; what the model's tables say of types.
-/
import Derived.Test.YtceplogmemkblaaGreatEvD
namespace Go.Ev

/-- Values of one cell. -/
def AV.one : AV → Bool
  | .u | .ag _ | .tu _ | .nil | .cons _ _ => false
  | _ => true
theorem AV.one_cell {a : AV} (h : a.one = true) {μ : Nat → Nat} {nx : Nat} {w : World} {v : Value} (hv : VR μ nx w a v) : v.oneCell' = true := by
  cases a <;> first | (simp [AV.one] at h; done) | skip
  case b => rw [show v = _ from hv]; rfl
  case p => rw [show v = _ from hv]; rfl
  case n => rw [show v = _ from hv]; rfl
  case w => rw [show v = _ from hv]; rfl
  case s => rw [hv.1]; rfl
  case pt => rw [hv.2]; rfl
  case np => rw [show v = _ from hv]; rfl
  case sl => obtain ⟨_, _, c, e, _⟩ := hv; rw [e]; rfl
  case ns => rw [show v = _ from hv]; rfl
  case ez => obtain ⟨a, c, e⟩ := hv; rw [e]; rfl
  case mp => rw [hv.2]; rfl
  case nm => rw [show v = _ from hv]; rfl
  case fn => obtain ⟨xs, ys, e, _⟩ := hv; rw [e]; rfl
  case nf => rw [show v = _ from hv]; rfl
theorem cells_one {v : Value} (h : v.oneCell' = true) : v.cells = #[v] := by cases v <;> first | rfl | (exact absurd h (by simp [Value.oneCell']))

/-! ### Written lists -/

theorem VRL_nil {μ : Nat → Nat} {nx : Nat} {w : World} {l : List Value} : VRL μ nx w .nil l ↔ l = [] := Iff.rfl
theorem VRL_cons {μ : Nat → Nat} {nx : Nat} {w : World} {h t : AV} {l : List Value} : VRL μ nx w (.cons h t) l ↔ ∃ x xs, l = x :: xs ∧ VR μ nx w h x ∧ VRL μ nx w t xs := Iff.rfl

noncomputable def consK (x : AV) (k : AV → AV → Res) (z f : Res) : Res := AV.rec (motive := fun _ => (AV → AV → Res) → Res → Res → Res) (fun _ _ f => f) (fun _ => fun _ _ f => f) (fun _ => fun _ _ f => f) (fun _ => fun _ _ f => f) (fun _ _ => fun _ _ f => f) (fun _ _ => fun _ _ f => f) (fun _ _ => fun _ _ f => f) (fun _ _ f => f) (fun _ _ _ _ _ => fun _ _ f => f) (fun _ _ f => f) (fun _ _ f => f) (fun _ => fun _ _ f => f) (fun _ _ f => f) (fun _ _ _ _ _ => fun _ _ f => f) (fun _ _ f => f) (fun _ _ => fun _ _ f => f) (fun _ _ => fun _ _ f => f) (fun _ z _ => z) (fun h t _ _ k _ _ => k h t) x k z f
theorem consK_or {x : AV} {k : AV → AV → Res} {z : Res} {c : Nat} (h : (consK x k z (.fail c)).good) : (∃ a t, x = .cons a t ∧ (k a t).good) ∨ (x = .nil ∧ z.good) := by
  cases x <;> first | exact .inr ⟨rfl, h⟩ | exact .inl ⟨_, _, rfl, h⟩ | (obtain ⟨v, hh, e⟩ := h; cases e)

/-- The i-th of a written list. -/
noncomputable def nthK (i : Nat) : AV → (AV → Res) → Res :=
  Nat.rec (motive := fun _ => AV → (AV → Res) → Res) (fun l k => consK l (fun a _ => k a) (.fail 30) (.fail 30)) (fun _ ih l k => consK l (fun _ t => ih t k) (.fail 30) (.fail 30)) i
def NthS (l : AV) (i : Nat) (v : AV) : Prop := ∀ μ nx w xs, VRL μ nx w l xs → ∃ x, xs[i]? = some x ∧ VR μ nx w v x
theorem nthK_good : ∀ (i : Nat) {l : AV} {k : AV → Res}, (nthK i l k).good → ∃ v, NthS l i v ∧ (k v).good
  | 0, l, k, h => by
    rcases consK_or (show (consK l (fun a _ => k a) (.fail 30) (.fail 30)).good from h) with ⟨a, t, rfl, h1⟩ | ⟨_, h1⟩
    · exact ⟨a, fun μ nx w xs hx => by obtain ⟨x, r, rfl, h1, h2⟩ := hx; exact ⟨x, rfl, h1⟩, h1⟩
    · exact absurd h1 Res.not_good_fail
  | i + 1, l, k, h => by
    rcases consK_or (show (consK l (fun _ t => nthK i t k) (.fail 30) (.fail 30)).good from h) with ⟨a, t, rfl, h1⟩ | ⟨_, h1⟩
    · obtain ⟨v, hv, hk⟩ := nthK_good i h1
      exact ⟨v, fun μ nx w xs hx => by obtain ⟨x, r, rfl, h1, h2⟩ := hx; exact hv μ nx w r h2, hk⟩
    · exact absurd h1 Res.not_good_fail

/-- A written list without its first i. -/
noncomputable def dropK (i : Nat) : AV → (AV → Res) → Res :=
  Nat.rec (motive := fun _ => AV → (AV → Res) → Res) (fun l k => k l) (fun _ ih l k => consK l (fun _ t => ih t k) (.fail 31) (.fail 31)) i
theorem dropK_good : ∀ (i : Nat) {l : AV} {k : AV → Res}, (dropK i l k).good → ∃ r, (∀ μ nx w xs, VRL μ nx w l xs → VRL μ nx w r (xs.drop i)) ∧ (k r).good
  | 0, l, k, h => ⟨l, fun μ nx w xs hx => hx, h⟩
  | i + 1, l, k, h => by
    rcases consK_or (show (consK l (fun _ t => dropK i t k) (.fail 31) (.fail 31)).good from h) with ⟨a, t, rfl, h1⟩ | ⟨_, h1⟩
    · obtain ⟨r, hr, hk⟩ := dropK_good i h1
      exact ⟨r, fun μ nx w xs hx => by obtain ⟨x, r', rfl, h1, h2⟩ := hx; exact hr μ nx w r' h2, hk⟩
    · exact absurd h1 Res.not_good_fail

/-- The first i of a written list. -/
noncomputable def takeK (i : Nat) : AV → (AV → Res) → Res :=
  Nat.rec (motive := fun _ => AV → (AV → Res) → Res) (fun _ k => k .nil) (fun _ ih l k => consK l (fun a t => ih t fun r => k (.cons a r)) (.fail 32) (.fail 32)) i
theorem takeK_good : ∀ (i : Nat) {l : AV} {k : AV → Res}, (takeK i l k).good → ∃ r, (∀ μ nx w xs, VRL μ nx w l xs → VRL μ nx w r (xs.take i) ∧ i ≤ xs.length) ∧ (k r).good
  | 0, l, k, h => ⟨.nil, fun μ nx w xs hx => ⟨by simp [VRL_nil], Nat.zero_le _⟩, h⟩
  | i + 1, l, k, h => by
    rcases consK_or (show (consK l (fun a t => takeK i t fun r => k (.cons a r)) (.fail 32) (.fail 32)).good from h) with ⟨a, t, rfl, h1⟩ | ⟨_, h1⟩
    · obtain ⟨r, hr, hk⟩ := takeK_good i h1
      refine ⟨.cons a r, fun μ nx w xs hx => ?_, hk⟩
      obtain ⟨x, r', rfl, h1, h2⟩ := hx
      obtain ⟨h3, h4⟩ := hr μ nx w r' h2
      exact ⟨⟨x, r'.take i, rfl, h1, h3⟩, by simp; exact h4⟩
    · exact absurd h1 Res.not_good_fail

/-- The first n of the written list l, replaced by the n of cs. -/
noncomputable def overK (m : Nat) : AV → AV → (AV → Res) → Res :=
  Nat.rec (motive := fun _ => AV → AV → (AV → Res) → Res) (fun cs l k => consK cs (fun _ _ => .fail 33) (k l) (.fail 33))
    (fun _ ih cs l k => consK cs (fun c cs' => consK l (fun _ t => ih cs' t fun r => k (.cons c r)) (.fail 33) (.fail 33)) (.fail 33) (.fail 33)) m
def spl (xs : List Value) (o : Nat) (ys : List Value) : List Value := xs.take o ++ (ys ++ xs.drop (o + ys.length))
theorem overK_good : ∀ (m : Nat) {cs l : AV} {k : AV → Res}, (overK m cs l k).good →
    ∃ r, (∀ μ nx w xs ys, VRL μ nx w l xs → VRL μ nx w cs ys → ys.length = m ∧ m ≤ xs.length ∧ VRL μ nx w r (ys ++ xs.drop m)) ∧ (k r).good
  | 0, cs, l, k, h => by
    rcases consK_or (show (consK cs (fun _ _ => .fail 33) (k l) (.fail 33)).good from h) with ⟨a, t, rfl, h1⟩ | ⟨rfl, h1⟩
    · exact absurd h1 Res.not_good_fail
    · exact ⟨l, fun μ nx w xs ys hx hy => by rw [VRL_nil] at hy; subst hy; exact ⟨rfl, Nat.zero_le _, hx⟩, h1⟩
  | m + 1, cs, l, k, h => by
    rcases consK_or (show (consK cs (fun c cs' => consK l (fun _ t => overK m cs' t fun r => k (.cons c r)) (.fail 33) (.fail 33)) (.fail 33) (.fail 33)).good from h) with ⟨c, cs', rfl, h1⟩ | ⟨rfl, h1⟩
    · rcases consK_or h1 with ⟨a, t, rfl, h2⟩ | ⟨rfl, h2⟩
      · obtain ⟨r, hr, hk⟩ := overK_good m h2
        refine ⟨.cons c r, fun μ nx w xs ys hx hy => ?_, hk⟩
        obtain ⟨x, xs', rfl, _, hx2⟩ := hx
        obtain ⟨y, ys', rfl, hy1, hy2⟩ := hy
        obtain ⟨h3, h4, h5⟩ := hr μ nx w xs' ys' hx2 hy2
        exact ⟨by simp [h3], by simp; exact h4, ⟨y, ys' ++ xs'.drop m, rfl, hy1, h5⟩⟩
      · exact absurd h2 Res.not_good_fail
    · exact absurd h1 Res.not_good_fail

/-- The written list l with the m of cs from the place o on. -/
noncomputable def splK (o : Nat) : Nat → AV → AV → (AV → Res) → Res :=
  Nat.rec (motive := fun _ => Nat → AV → AV → (AV → Res) → Res) (fun m cs l k => overK m cs l k)
    (fun _ ih m cs l k => consK l (fun a t => ih m cs t fun r => k (.cons a r)) (.fail 34) (.fail 34)) o
theorem splK_good : ∀ (o : Nat) {m : Nat} {cs l : AV} {k : AV → Res}, (splK o m cs l k).good →
    ∃ r, (∀ μ nx w xs ys, VRL μ nx w l xs → VRL μ nx w cs ys → ys.length = m ∧ o + m ≤ xs.length ∧ VRL μ nx w r (spl xs o ys)) ∧ (k r).good
  | 0, m, cs, l, k, h => by
    obtain ⟨r, hr, hk⟩ := overK_good m (show (overK m cs l k).good from h)
    refine ⟨r, fun μ nx w xs ys hx hy => ?_, hk⟩
    obtain ⟨h1, h2, h3⟩ := hr μ nx w xs ys hx hy
    exact ⟨h1, by omega, by simpa [spl, h1] using h3⟩
  | o + 1, m, cs, l, k, h => by
    rcases consK_or (show (consK l (fun a t => splK o m cs t fun r => k (.cons a r)) (.fail 34) (.fail 34)).good from h) with ⟨a, t, rfl, h1⟩ | ⟨rfl, h1⟩
    · obtain ⟨r, hr, hk⟩ := splK_good o h1
      refine ⟨.cons a r, fun μ nx w xs ys hx hy => ?_, hk⟩
      obtain ⟨x, xs', rfl, hx1, hx2⟩ := hx
      obtain ⟨h2, h3, h4⟩ := hr μ nx w xs' ys hx2 hy
      refine ⟨h2, by simp; omega, ⟨x, spl xs' o ys, ?_, hx1, h4⟩⟩
      simp [spl, show o + 1 + ys.length = (o + ys.length) + 1 by omega]
    · exact absurd h1 Res.not_good_fail

theorem foldl_set (o : Nat) : ∀ (ys : List Value) (k : Nat) (cells : Array Value), o + k + ys.length ≤ cells.size →
    ((ys.zipIdx k).foldl (fun cs (x : Value × Nat) => cs.setIfInBounds (o + x.2) x.1) cells).toList = spl cells.toList (o + k) ys
  | [], k, cells, _ => by simp [spl]
  | y :: ys, k, cells, h => by
    simp only [List.length_cons] at h
    simp only [List.zipIdx_cons, List.foldl_cons]
    rw [foldl_set o ys (k + 1) _ (by simp; omega)]
    have hlt : o + k < cells.toList.length := by simp; omega
    simp only [Array.toList_setIfInBounds, spl]
    rw [show o + (k + 1) = (o + k) + 1 by omega]
    rw [List.take_set, List.take_succ_eq_append_getElem hlt, List.drop_set_of_lt (by omega)]
    rw [List.set_append_right _ _ (by simp; omega)]
    simp only [List.length_take, Nat.min_eq_left (Nat.le_of_lt hlt), Nat.sub_self, List.set_cons_zero, List.append_assoc, List.length_cons, List.nil_append, List.cons_append]
    rw [show o + k + 1 + ys.length = o + k + (ys.length + 1) by omega]

theorem fold_spl (o : Nat) (ys : List Value) (cells : Array Value) (h : o + ys.length ≤ cells.size) :
    (ys.toArray.zipIdx.foldl (fun cs (c, j) => cs.setIfInBounds (o + j) c) cells).toList = spl cells.toList o ys := by
  rw [← Array.foldl_toList, Array.toList_zipIdx]
  exact foldl_set o ys 0 cells (by omega)

theorem spl_length (xs : List Value) (o : Nat) (ys : List Value) (h : o + ys.length ≤ xs.length) : (spl xs o ys).length = xs.length := by simp [spl]; omega
theorem spl_mem {xs : List Value} {o : Nat} {ys : List Value} {x : Value} (h : x ∈ spl xs o ys) : x ∈ xs ∨ x ∈ ys := by
  simp only [spl, List.mem_append] at h
  rcases h with h | h | h
  · exact .inl (List.mem_of_mem_take h)
  · exact .inr h
  · exact .inl (List.mem_of_mem_drop h)

/-! ### Operands -/

inductive OA where
  | t (i : Ix)
  | c (v : AV)
  | f (id : Nat)

def oV (e : Ix → AV) : OA → AV
  | .t i => e i
  | .c v => v
  | .f id => .fn id .nil .nil
noncomputable def oK (x : OA) : (AV → Res) → Env → Res := OA.rec (motive := fun _ => (AV → Res) → Env → Res) (fun i k e => Env.getK i k e) (fun v k _ => k v) (fun id k _ => k (.fn id .nil .nil)) x
theorem oK_eq (x : OA) (k : AV → Res) (e : Env) : oK x k e = k (oV e.get x) := by cases x <;> first | exact Env.getK_eq _ _ _ | rfl

def i8Of (t : Nat) : I8 :=
  match t % 8 with | 0 => .i0 | 1 => .i1 | 2 => .i2 | 3 => .i3 | 4 => .i4 | 5 => .i5 | 6 => .i6 | _ => .i7
theorem i8Of_toNat (t : Nat) : (i8Of t).toNat = t % 8 := by
  have : t % 8 < 8 := Nat.mod_lt _ (by decide)
  unfold i8Of
  split <;> simp_all [I8.toNat] <;> omega
def ixOf0 (t : Nat) : Option Ix0 :=
  if t < 64 then some (.a (i8Of (t / 8)) (i8Of t)) else if t < 576 then some (.c (i8Of ((t - 64) / 64)) (i8Of ((t - 64) / 8)) (i8Of (t - 64))) else none
theorem ixOf0_toNat {t : Nat} {i : Ix0} (h : ixOf0 t = some i) : i.toNat = t := by
  unfold ixOf0 at h
  split at h
  · cases h; simp only [Ix0.toNat, i8Of_toNat]; omega
  · split at h
    · cases h; simp only [Ix0.toNat, i8Of_toNat]; omega
    · cases h

def ixOf (t : Nat) : Option Ix := (ixOf0 t).map Ix.of
theorem ixOf_toNat {t : Nat} {i : Ix} (h : ixOf t = some i) : i.toNat = t := by
  obtain ⟨j, hj, rfl⟩ := Option.map_eq_some_iff.1 h
  exact ixOf0_toNat hj

/-- A constant's abstract value. -/
def constAV1 : Value → Option AV
  | .bool b => some (.b b)
  | .int .i64 (.ofNat m) => some (.p m)
  | .int .i64 (.negSucc m) => some (.n m)
  | .int k (.ofNat m) => some (.w k m)
  | .string s => some (.s s.size (enc s.data.toList))
  | .pointer none => some .np
  | .slice none 0 0 => some .ns
  | .map none => some .nm
  | .nilFunc => some .nf
  | _ => none
def constL : List Value → Option AV
  | [] => some .nil
  | v :: l => match constAV1 v, constL l with | some a, some b => some (.cons a b) | _, _ => none
def constAV (v : Value) : Option AV :=
  match v with
  | .agg cs => (constL cs.toList).map .ag
  | .tuple cs => if cs.toList.isEmpty then some (.tu .nil) else none
  | v => constAV1 v

theorem constAV1_VR {v : Value} {a : AV} (h : constAV1 v = some a) (μ : Nat → Nat) (nx : Nat) (w : World) : VR μ nx w a v := by
  unfold constAV1 at h
  split at h <;> cases h
  case h_5 s => exact ⟨by rw [dec_enc], enc_lt _⟩
  all_goals rfl
theorem constAV1_one {v : Value} {a : AV} (h : constAV1 v = some a) : v.oneCell' = true := by
  unfold constAV1 at h
  split at h <;> first | (cases h; done) | rfl
theorem constL_VRL : ∀ {l : List Value} {a : AV}, constL l = some a → ∀ (μ : Nat → Nat) (nx : Nat) (w : World), VRL μ nx w a l ∧ ∀ x ∈ l, x.oneCell' = true
  | [], a, h, μ, nx, w => by cases h; exact ⟨rfl, by simp⟩
  | v :: l, a, h, μ, nx, w => by
    unfold constL at h
    split at h
    · rename_i a1 b1 h1 h2
      cases h
      obtain ⟨h3, h4⟩ := constL_VRL h2 μ nx w
      refine ⟨⟨v, l, rfl, constAV1_VR h1 μ nx w, h3⟩, fun x hx => ?_⟩
      rcases List.mem_cons.1 hx with rfl | hx
      · exact constAV1_one h1
      · exact h4 x hx
    · cases h
theorem constAV_VR {v : Value} {a : AV} (h : constAV v = some a) (μ : Nat → Nat) (nx : Nat) (w : World) : VR μ nx w a v := by
  unfold constAV at h
  split at h
  · rename_i cs
    obtain ⟨l, hl, rfl⟩ := Option.map_eq_some_iff.1 h
    obtain ⟨h1, h2⟩ := constL_VRL hl μ nx w
    exact ⟨cs, rfl, h1, h2⟩
  · rename_i cs
    split at h
    · rename_i hc; cases h
      exact ⟨cs, rfl, by rw [List.isEmpty_iff.1 hc]; rfl⟩
    · cases h
  · exact constAV1_VR h μ nx w

def opndOf : Operand → Option OA
  | .tmp t => (ixOf t).map .t
  | .const v => (constAV v).map .c
  | .func f => some (.f f)
  | .global _ => none

/-- What is known of the operands xs. -/
def Rho (μ : Nat → Nat) (nx : Nat) (w : World) (ρ : OA → AV) (a : Act) (xs : Array Operand) : Prop := ∀ x ∈ xs, ∀ oa, opndOf x = some oa → VR μ nx w (ρ oa) (a.eval x)

theorem Rho.of_env {μ : Nat → Nat} {nx : Nat} {w : World} {e : Ix → AV} {a : Act} (h : ∀ i, VR μ nx w (e i) (a.tmps.getD i.toNat undef)) (xs : Array Operand) : Rho μ nx w (oV e) a xs := by
  intro x _ oa ho
  cases x with
  | tmp t => obtain ⟨i, hi, rfl⟩ := Option.map_eq_some_iff.1 ho; have := h i; rw [ixOf_toNat hi] at this; exact this
  | const v => obtain ⟨i, hi, rfl⟩ := Option.map_eq_some_iff.1 ho; exact constAV_VR hi μ nx w
  | func f => cases ho; exact ⟨#[], #[], rfl, rfl, rfl⟩
  | global g => cases ho

/-! ### What the tables say -/

def szOf (P : Program) (t : TypeId) : Option Nat := (P.info? t).map (·.size)
def aggOf (P : Program) (t : TypeId) : Option Bool :=
  match P.underlying t with
  | some (.struct _) | some (.array _ _) => some true
  | some _ => some false
  | none => none
def zeroOf (P : Program) (t : TypeId) : Option Value := (P.info? t).bind (·.zero)

section
variable {P : Program} {w : World} {t : TypeId}
theorem run_typeInfo' {i : TypeInfo} (h : P.info? t = some i) : (typeInfo t).run P w = .ok i w := by simp [typeInfo, h]
theorem run_szOf {n : Nat} (h : szOf P t = some n) : (sizeOf t).run P w = .ok n w := by
  obtain ⟨i, hi, rfl⟩ := Option.map_eq_some_iff.1 h
  simp [sizeOf, run_typeInfo' hi]
theorem run_aggOf {b : Bool} (h : aggOf P t = some b) : (isAgg t).run P w = .ok b w := by
  unfold aggOf at h
  unfold isAgg
  cases hu : P.underlying t with
  | none => rw [hu] at h; cases h
  | some d => rw [hu] at h; rw [Sem.run_bind, run_underlying hu, Result.andThen_ok]; cases d <;> cases h <;> rfl
theorem run_zeroOf {z : Value} (h : zeroOf P t = some z) : (zeroValue t).run P w = .ok z w := by
  unfold zeroOf at h
  obtain ⟨i, hi, hz⟩ := Option.bind_eq_some_iff.1 h
  simp [zeroValue, run_typeInfo' hi, hz]
end

end Go.Ev
