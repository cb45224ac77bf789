/-
  An abstract evaluator for Go code under the model: calls, guards: single operations of a region.
-/
import Derived.Test.YtceplogmemkblaaGreatEvO
import Derived.Tactics
import Derived.Orders
namespace Go.Ev

/-- What looks at the heap, and leaves it as it is. -/
inductive LO where
  | l (x : LOp)
  | b (x : OA)

noncomputable def hLO (l : LO) : Env → H → (AV → Res) → Res :=
  LO.rec (motive := fun _ => Env → H → (AV → Res) → Res) (fun x e h k => hL x e h k) (fun x e h k => wB2s x e h fun v _ => k v) l

def compLO (P : Program) (o : Oper) : Option LO :=
  match o.op with
  | .load _ _ => (compL P o).map .l
  | .convert src dst x =>
    match P.underlying src, P.underlying dst, opndOf x with
    | some (.slice el), some .string, some x' => match P.underlying el with | some (.int .u8) => some (.b x') | _ => none
    | _, _, _ => none
  | _ => none

theorem compLO_good {P : Program} {o : Oper} {e : Env} {h : H} {k : AV → Res} {l : LO} (hc : compLO P o = some l) (hg : (hLO l e h k).good) : ∃ v, RSem P o (oV e.get) h v h ∧ (k v).good := by
  unfold compLO at hc
  split at hc
  · obtain ⟨x, hx, rfl⟩ := Option.map_eq_some_iff.1 hc
    exact compL_good hx hg
  · rename_i src dst x ho
    split at hc
    · rename_i el x' hs hd hx
      split at hc
      · rename_i hel; cases hc
        exact b2s_good (k := fun v _ => k v) ho hs hd hel hx hg
      · cases hc
    · cases hc
  · cases hc

inductive AOp where
  | P (p : POp)
  | L (l : LO)
  | W (w : WOp)
  | S (f : Nat) (args : List OA)
  | V (x : OA) (args : List OA)

inductive GD where
  | no
  | ye (x : Ix) (want : Bool)

inductive DD where
  | no
  | ye (i : Ix)

abbrev CK := Nat → AV → H → (AV → H → Res) → Res

/-- What a call of the function f on the written list l comes to, from one abstract heap to another. -/
def CSem (P : Program) (f : Nat) (l : AV) (h : H) (v : AV) (h' : H) : Prop :=
  ∀ μ w vs, VRL μ h.nx w l vs → HR μ h w →
    ((callFunc f vs.toArray).run P w = .ok (.enter f vs.toArray) w ∧
      Calls P f vs.toArray w fun e w' => ∃ v', e = .returned v' ∧ ∃ μ', Ext μ h w μ' h' w' ∧ HR μ' h' w' ∧ VR μ' h'.nx w' v v') ∨
    ∃ v' μ' w', (callFunc f vs.toArray).run P w = .ok (.value v') w' ∧ Ext μ h w μ' h' w' ∧ HR μ' h' w' ∧ VR μ' h'.nx w' v v'

def SemF (P : Program) (ck : CK) : Prop := ∀ f l h k, (ck f l h k).good → ∃ v h', CSem P f l h v h' ∧ (k v h').good

/-! ### Written lists, one behind the other -/

noncomputable def appLK (x : AV) : AV → (AV → Res) → Res := AV.rec (motive := fun _ => AV → (AV → Res) → Res) (fun _ _ => .fail 102) (fun _ => fun _ _ => .fail 102) (fun _ => fun _ _ => .fail 102) (fun _ => fun _ _ => .fail 102) (fun _ _ => fun _ _ => .fail 102) (fun _ _ => fun _ _ => .fail 102) (fun _ _ => fun _ _ => .fail 102) (fun _ _ => .fail 102) (fun _ _ _ _ _ => fun _ _ => .fail 102) (fun _ _ => .fail 102) (fun _ _ => .fail 102) (fun _ => fun _ _ => .fail 102) (fun _ _ => .fail 102) (fun _ _ _ _ _ => fun _ _ => .fail 102) (fun _ _ => .fail 102) (fun _ _ => fun _ _ => .fail 102) (fun _ _ => fun _ _ => .fail 102) (fun r k => k r) (fun a _ _ it r k => it r fun s => k (.cons a s)) x
theorem appLK_good : ∀ {x r : AV} {k : AV → Res}, (appLK x r k).good → ∃ s, (∀ μ nx w xs ys, VRL μ nx w x xs → VRL μ nx w r ys → VRL μ nx w s (xs ++ ys)) ∧ (k s).good := by
  intro x
  induction x with
  | nil => intro r k h; exact ⟨r, fun μ nx w xs ys hx hy => by rw [VRL_nil] at hx; subst hx; simpa using hy, h⟩
  | cons a t _ it =>
    intro r k h
    obtain ⟨s, hs, hk⟩ := it (show (appLK t r fun s => k (.cons a s)).good from h)
    refine ⟨_, fun μ nx w xs ys hx hy => ?_, hk⟩
    obtain ⟨x, xs', rfl, h1, h2⟩ := hx
    exact ⟨x, xs' ++ ys, rfl, h1, hs μ nx w xs' ys h2 hy⟩
  | _ => intro r k h; exact absurd h Res.not_good_fail

noncomputable def isFn (x : AV) (k : Nat → AV → AV → Res) : Res := AV.rec (motive := fun _ => (Nat → AV → AV → Res) → Res) (fun _ => .fail 103) (fun _ => fun _ => .fail 103) (fun _ => fun _ => .fail 103) (fun _ => fun _ => .fail 103) (fun _ _ => fun _ => .fail 103) (fun _ _ => fun _ => .fail 103) (fun _ _ => fun _ => .fail 103) (fun _ => .fail 103) (fun _ _ _ _ _ => fun _ => .fail 103) (fun _ => .fail 103) (fun _ => .fail 103) (fun _ => fun _ => .fail 103) (fun _ => .fail 103) (fun f l c _ _ k => k f l c) (fun _ => .fail 103) (fun _ _ => fun _ => .fail 103) (fun _ _ => fun _ => .fail 103) (fun _ => .fail 103) (fun _ _ _ _ => fun _ => .fail 103) x k
theorem isFn_good {x : AV} {k : Nat → AV → AV → Res} (h : (isFn x k).good) : ∃ f l c, x = .fn f l c ∧ (k f l c).good := by
  cases x <;> first | exact ⟨_, _, _, rfl, h⟩ | exact absurd h Res.not_good_fail

/-! ### An operation's way -/

noncomputable def oP (p : POp) (_ck : CK) (e : Env) (h : H) (k : AV → H → Res) : Res := hP p e fun v => k v h
noncomputable def oL (l : LO) (_ck : CK) (e : Env) (h : H) (k : AV → H → Res) : Res := hLO l e h fun v => k v h
noncomputable def oW (w : WOp) (_ck : CK) (e : Env) (h : H) (k : AV → H → Res) : Res := hW w e h k
noncomputable def oS (f : Nat) (xs : List OA) (ck : CK) (e : Env) (h : H) (k : AV → H → Res) : Res := oLK xs e fun l => ck f l h k
noncomputable def oVal (x : OA) (xs : List OA) (ck : CK) (e : Env) (h : H) (k : AV → H → Res) : Res :=
  oK x (fun x => isFn x fun f first cap => oLK xs e fun l => appLK l cap fun l => appLK first l fun l => ck f l h k) e
noncomputable def opK (o : AOp) : CK → Env → H → (AV → H → Res) → Res := AOp.rec oP oL oW oS oVal o

def cmpO (P : Program) (o : Oper) : Option AOp :=
  match compP P o with
  | some p => some (.P p)
  | none => match compLO P o with
    | some l => some (.L l)
    | none => match compW P o with
      | some w => some (.W w)
      | none => match o.op with
        | .call { callee := .value (.func f), args := xs, argTypes := _ } => (opndL xs.toList).map (.S f)
        | .call { callee := .value x, args := xs, argTypes := _ } => match opndOf x, opndL xs.toList with | some x', some xs' => some (.V x' xs') | _, _ => none
        | _ => none

section
variable {P : Program} {o : Oper} {e : Env} {h : H} {k : AV → H → Res} {ck : CK}

theorem call_osem {fv : Operand} {xs : Array Operand} {ts : Array TypeId} {ρ : OA → AV} {f : Nat} {first cap l : AV} {h' : H} {v : AV} (ho : o.op = .call { callee := .value fv, args := xs, argTypes := ts })
    (hf : ∀ μ w a, Rho μ h.nx w ρ a o.op.operands → ∃ xs ys, a.eval fv = .func (.func f) xs ys ∧ VRL μ h.nx w first xs.toList ∧ VRL μ h.nx w cap ys.toList)
    (hl : ∀ μ w a, Rho μ h.nx w ρ a o.op.operands → ∀ fs cs, VRL μ h.nx w first fs → VRL μ h.nx w cap cs → VRL μ h.nx w l (fs ++ (xs.toList.map a.eval ++ cs)))
    (hc : CSem P f l h v h') : OSem P o ρ h v h' := by
  intro μ w a K Q hrho hh hk
  obtain ⟨fs, cs, h1, h2, h3⟩ := hf μ w a hrho
  have h4 := hl μ w a hrho _ _ h2 h3
  have h7 : (execOp a.eval o).run P w = (callFunc f (fs.toList ++ (xs.toList.map a.eval ++ cs.toList)).toArray).run P w := by
    simp only [execOp, ho, resolve, h1, Deferred.ofValue, invoke, Sem.run_bind, Sem.run_pure, Result.andThen_ok]
    have : fs ++ xs.map a.eval ++ cs = (fs.toList ++ (xs.toList.map a.eval ++ cs.toList)).toArray := by
      apply Array.ext'; simp
    rw [this]
  unfold Oper.wp
  rcases hc μ w _ h4 hh with ⟨h5, h6⟩ | ⟨v', μ', w', h5, q1, q2, q3⟩
  · rw [h7, h5, Oper.upon_enter]
    refine h6.mono ?_
    rintro e w' ⟨v', rfl, μ', q1, q2, q3⟩
    exact hk μ' v' w' q1 q2 q3
  · rw [h7, h5, Oper.upon_value]
    exact hk μ' v' w' q1 q2 q3

theorem opK_good (hck : SemF P ck) {ao : AOp} (ho : cmpO P o = some ao) (hg : (opK ao ck e h k).good) : ∃ v h', OSem P o (oV e.get) h v h' ∧ (k v h').good := by
  unfold cmpO at ho
  split at ho
  · rename_i p hp; cases ho
    obtain ⟨v, h1, h2⟩ := compP_good hp (show (hP p e fun v => k v h).good from hg)
    exact ⟨v, h, (h1.rsem h).osem, h2⟩
  · split at ho
    · rename_i l hl; cases ho
      obtain ⟨v, h1, h2⟩ := compLO_good hl (show (hLO l e h fun v => k v h).good from hg)
      exact ⟨v, h, h1.osem, h2⟩
    · split at ho
      · rename_i w hw; cases ho
        obtain ⟨v, h', h1, h2⟩ := compW_good hw (show (hW w e h k).good from hg)
        exact ⟨v, h', h1.osem, h2⟩
      · split at ho
        · rename_i f xs ts hop
          obtain ⟨xs', hxs, rfl⟩ := Option.map_eq_some_iff.1 ho
          obtain ⟨l, hl, hg⟩ := oLK_good (show (oLK xs' e fun l => ck f l h k).good from hg)
          obtain ⟨v, h', h1, h2⟩ := hck f l h k hg
          refine ⟨v, h', call_osem (first := .nil) (cap := .nil) hop (fun μ w a hrho => ⟨#[], #[], rfl, rfl, rfl⟩) (fun μ w a hrho fs cs hf hc => ?_) h1, h2⟩
          rw [VRL_nil] at hf hc
          subst hf; subst hc
          simpa using hl _ hxs μ h.nx w a _ hrho (fun y hy => by simp [hop, Op.operands, Call.operands]; exact .inr (by simpa using hy))
        · rename_i x xs ts _ hop
          split at ho
          · rename_i x' xs' hx hxs; cases ho
            have hg : (oK x' (fun x => isFn x fun f first cap => oLK xs' e fun l => appLK l cap fun l => appLK first l fun l => ck f l h k) e).good := hg
            rw [oK_eq] at hg
            obtain ⟨f, first, cap, hx2, hg⟩ := isFn_good hg
            obtain ⟨l, hl, hg⟩ := oLK_good hg
            obtain ⟨l2, hl2, hg⟩ := appLK_good hg
            obtain ⟨l3, hl3, hg⟩ := appLK_good hg
            obtain ⟨v, h', h1, h2⟩ := hck f l3 h k hg
            refine ⟨v, h', call_osem (first := first) (cap := cap) hop (fun μ w a hrho => ?_) (fun μ w a hrho fs cs hf hc => ?_) h1, h2⟩
            · have := hrho x (by simp [hop, Op.operands, Call.operands]) _ hx
              rw [hx2] at this
              obtain ⟨xs, ys, h3, h4, h5⟩ := this
              exact ⟨xs, ys, h3, h4, h5⟩
            · exact hl3 μ h.nx w _ _ hf (hl2 μ h.nx w _ _ (hl _ hxs μ h.nx w a _ hrho (fun y hy => by simp [hop, Op.operands, Call.operands]; exact .inr (by simpa using hy))) hc)
          · cases ho
        · cases ho
end

/-! ### Guards, and where the answer goes -/

def cmpG (ops : Array Oper) : Option (Nat × Bool) → Option GD
  | none => some .no
  | some (g, want) => match (ops[g]?).bind (·.dst) with | some t => (ixOf t).map fun i => .ye i want | none => none
def cmpD (nt : Nat) : Option Tmp → Option DD
  | none => some .no
  | some d => if d < nt then (ixOf d).map .ye else none

noncomputable def isBs (x : AV) (k : Bool → Res) : Res := isB x k (.fail 104)
/-- By a guard's value: run, or skip. (What was skipped itself bears the empty tuple: no truth.) -/
noncomputable def gvK (v : AV) : Bool → Res → Res → Res :=
  AV.rec (motive := fun _ => Bool → Res → Res → Res) (fun _ _ _ => .fail 117) (fun b => Bool.rec (motive := fun _ => Bool → Res → Res → Res) (fun want run skip => iteK want skip run) (fun want run skip => iteK want run skip) b) (fun _ => fun _ _ _ => .fail 117) (fun _ => fun _ _ _ => .fail 117) (fun _ _ => fun _ _ _ => .fail 117) (fun _ _ => fun _ _ _ => .fail 117) (fun _ _ => fun _ _ _ => .fail 117) (fun _ _ _ => .fail 117) (fun _ _ _ _ _ => fun _ _ _ => .fail 117) (fun _ _ _ => .fail 117) (fun _ _ _ => .fail 117) (fun _ => fun _ _ _ => .fail 117) (fun _ _ _ => .fail 117) (fun _ _ _ _ _ => fun _ _ _ => .fail 117) (fun _ _ _ => .fail 117) (fun _ _ => fun _ _ _ => .fail 117) (fun l _ _ _ skip => consK l (fun _ _ => .fail 117) skip (.fail 117)) (fun _ _ _ => .fail 117) (fun _ _ _ _ => fun _ _ _ => .fail 117) v
noncomputable def gdBK (g : GD) : Res → Res → Env → Res :=
  GD.rec (motive := fun _ => Res → Res → Env → Res) (fun run _ _ => run) (fun x want run skip e => Env.getK x (fun v => gvK v want run skip) e) g
def dset : DD → Env → AV → Env
  | .no, e, _ => e
  | .ye i, e, v => e.set i v
noncomputable def ddK (d : DD) : AV → (Env → Res) → Env → Res := DD.rec (motive := fun _ => AV → (Env → Res) → Env → Res) (fun _ k e => k e) (fun i v k e => Env.setK i v k e) d
theorem ddK_eq (d : DD) (v : AV) (k : Env → Res) (e : Env) : ddK d v k e = k (dset d e v) := by cases d <;> first | rfl | exact Env.setK_eq _ _ _ _

noncomputable def stepK (g : GD) (d : DD) (o : AOp) (ck : CK) (e : Env) (h : H) (k : Env → H → Res) : Res :=
  gdBK g (opK o ck e h fun v h' => ddK d v (fun e' => k e' h') e) (ddK d (.tu .nil) (fun e' => k e' h) e) e

/-- What is known of the temporaries that an operation looks at. -/
def GRho (μ : Nat → Nat) (nx : Nat) (w : World) (ρ : Ix → AV) (a : Act) (ops : Array Oper) (o : Oper) : Prop :=
  ∀ t ∈ o.looksAt ops, ∀ i, ixOf t = some i → VR μ nx w (ρ i) (a.tmps.getD t undef)

/-- What the operation o of the region comes to. -/
def StepS (P : Program) (ops : Array Oper) (o : Oper) (ρ : Ix → AV) (h : H) (v : AV) (h' : H) : Prop :=
  ∀ μ w a Q (K : Act → World → Prop), GRho μ h.nx w ρ a ops o → HR μ h w → (∀ μ' v' w', Ext μ h w μ' h' w' → HR μ' h' w' → VR μ' h'.nx w' v v' → K (a.put o.dst v') w') →
    if Region.wanted o (yielded ops a.tmps) then o.wp P a w K Q else K (a.put o.dst undef) w

section
variable {P : Program} {ops : Array Oper} {o : Oper} {e : Env} {h h' : H} {ck : CK} {v : AV}

theorem GRho.rho {μ : Nat → Nat} {nx : Nat} {w : World} {ρ : Ix → AV} {a : Act} (hr : GRho μ nx w ρ a ops o) : Rho μ nx w (oV ρ) a o.op.operands := by
  intro x hx oa ho
  cases x with
  | tmp t =>
    obtain ⟨i, hi, rfl⟩ := Option.map_eq_some_iff.1 ho
    exact hr t (List.mem_append_left _ (List.mem_filterMap.2 ⟨.tmp t, by simpa using hx, rfl⟩)) i hi
  | const v => obtain ⟨i, hi, rfl⟩ := Option.map_eq_some_iff.1 ho; exact constAV_VR hi μ nx w
  | func f => cases ho; exact ⟨#[], #[], rfl, rfl, rfl⟩
  | global g => cases ho

theorem getD_some {tmps : Array Value} {t : Nat} {v : Value} (h : tmps.getD t undef = v) (hv : v ≠ undef) : tmps[t]? = some v := by
  rcases Nat.lt_or_ge t tmps.size with hl | hl
  · simp [hl] at h; simp [hl, h]
  · simp [Array.getElem?_eq_none hl] at h; exact absurd h.symm hv

theorem gdBK_good {g : GD} {run skip : Res} (hc : cmpG ops o.guard = some g) (hg : (gdBK g run skip e).good) :
    ((∀ μ nx w a, GRho μ nx w e.get a ops o → Region.wanted o (yielded ops a.tmps) = true) ∧ run.good) ∨
    ((∀ μ nx w a, GRho μ nx w e.get a ops o → Region.wanted o (yielded ops a.tmps) = false) ∧ skip.good) := by
  unfold cmpG at hc
  split at hc
  · rename_i hn; cases hc
    exact .inl ⟨fun _ _ _ _ _ => by simp [Region.wanted, hn], hg⟩
  · rename_i gi want hn
    split at hc
    · rename_i t ht
      obtain ⟨i, hi, rfl⟩ := Option.map_eq_some_iff.1 hc
      have hg : (Env.getK i (fun v => gvK v want run skip) e).good := hg
      rw [Env.getK_eq] at hg
      have bool : ∀ b, e.get i = .b b → ∀ μ nx w a, GRho μ nx w e.get a ops o → Region.wanted o (yielded ops a.tmps) = (b == want) := by
        intro b hb μ nx w a hr
        have h1 := hr t (List.mem_append_right _ (by simp [hn, ht])) i hi
        rw [hb] at h1
        have h2 := getD_some (show a.tmps.getD t undef = .bool b from h1) (by simp [undef])
        simp only [Region.wanted, hn, yielded, ht, Option.bind_some, h2]
        cases b <;> cases want <;> rfl
      cases hv : e.get i with
      | b b =>
        rw [hv] at hg
        cases b <;> cases want
        · exact .inl ⟨fun μ nx w a hr => by rw [bool _ hv μ nx w a hr]; rfl, hg⟩
        · exact .inr ⟨fun μ nx w a hr => by rw [bool _ hv μ nx w a hr]; rfl, hg⟩
        · exact .inr ⟨fun μ nx w a hr => by rw [bool _ hv μ nx w a hr]; rfl, hg⟩
        · exact .inl ⟨fun μ nx w a hr => by rw [bool _ hv μ nx w a hr]; rfl, hg⟩
      | tu l =>
        rw [hv] at hg
        rcases consK_or (show (consK l (fun _ _ => .fail 117) skip (.fail 117)).good from hg) with ⟨_, _, _, h1⟩ | ⟨rfl, h1⟩
        · exact absurd h1 Res.not_good_fail
        · refine .inr ⟨fun μ nx w a hr => ?_, h1⟩
          have h2 := hr t (List.mem_append_right _ (by simp [hn, ht])) i hi
          rw [hv] at h2
          obtain ⟨xs, hx, hxs⟩ := h2
          have hy : yielded ops a.tmps gi = none := by
            simp only [yielded, ht, Option.bind_some]
            rcases Nat.lt_or_ge t a.tmps.size with hl | hl
            · have h3 : a.tmps[t]? = some (.tuple xs) := by
                simp [hl] at hx; simp [hl, hx]
              rw [h3]
            · rw [Array.getElem?_eq_none hl]
          simp only [Region.wanted, hn, hy]
          rfl
      | _ => rw [hv] at hg; exact absurd hg Res.not_good_fail
    · cases hc

theorem stepK_good {g : GD} {d : DD} {ao : AOp} {k : Env → H → Res} (hck : SemF P ck) (hg : cmpG ops o.guard = some g) (ho : cmpO P o = some ao) (hgood : (stepK g d ao ck e h k).good) :
    ∃ v h', StepS P ops o e.get h v h' ∧ (k (dset d e v) h').good := by
  rcases gdBK_good hg hgood with ⟨hw, hgood⟩ | ⟨hw, hgood⟩
  · obtain ⟨v, h', h1, h2⟩ := opK_good hck ho hgood
    rw [ddK_eq] at h2
    refine ⟨v, h', fun μ w a Q K hr hh hk => ?_, h2⟩
    rw [if_pos (hw μ _ w a hr)]
    exact h1 μ w a K Q hr.rho hh hk
  · rw [ddK_eq] at hgood
    refine ⟨.tu .nil, h, fun μ w a Q K hr hh hk => ?_, hgood⟩
    rw [if_neg (by rw [hw μ _ w a hr]; simp)]
    exact hk μ undef w (Ext.refl μ h w hh) hh ⟨#[], rfl, rfl⟩
end

/-! ### The state of a function under way -/

structure SR (nt : Nat) (μ : Nat → Nat) (e : Env) (h : H) (a : Act) (w : World) : Prop where
  size : a.tmps.size = nt
  defers : a.defers = []
  env : ∀ i : Ix, VR μ h.nx w (e.get i) (a.tmps.getD i.toNat undef)
  heap : HR μ h w

theorem SR.grho {nt : Nat} {μ : Nat → Nat} {e : Env} {h : H} {a : Act} {w : World} (s : SR nt μ e h a w) (ops : Array Oper) (o : Oper) : GRho μ h.nx w e.get a ops o := by
  intro t _ i hi
  have := s.env i
  rwa [ixOf_toNat hi] at this

theorem put_size (a : Act) (d : Option Tmp) (v : Value) : (a.put d v).tmps.size = a.tmps.size := by cases d <;> simp [Act.put]
theorem put_defers' (a : Act) (d : Option Tmp) (v : Value) : (a.put d v).defers = a.defers := by cases d <;> rfl
theorem put_getD (a : Act) {d : Tmp} (v : Value) (hd : d < a.tmps.size) (t : Nat) : (a.put (some d) v).tmps.getD t undef = if t = d then v else a.tmps.getD t undef := by
  simp only [Act.put]
  by_cases e : t = d
  · subst e; simp [hd]
  · rw [if_neg e]
    simp [Array.getElem?_setIfInBounds_ne (Ne.symm e)]

theorem SR.put {nt : Nat} {μ μ' : Nat → Nat} {e : Env} {h h' : H} {a : Act} {w w' : World} {o : Oper} {d : DD} {v : AV} {v' : Value} (s : SR nt μ e h a w) (hd : cmpD nt o.dst = some d)
    (hx : Ext μ h w μ' h' w') (hh : HR μ' h' w') (hv : VR μ' h'.nx w' v v') : SR nt μ' (dset d e v) h' (a.put o.dst v') w' := by
  refine ⟨by rw [put_size]; exact s.size, by rw [put_defers']; exact s.defers, fun i => ?_, hh⟩
  unfold cmpD at hd
  split at hd
  · rename_i hn; cases hd; rw [hn]; exact (s.env i).ext hx
  · rename_i t hn
    split at hd
    · rename_i hlt
      obtain ⟨j, hj, rfl⟩ := Option.map_eq_some_iff.1 hd
      rw [hn, put_getD a v' (by rw [s.size]; exact hlt)]
      simp only [dset, Env.get_set]
      by_cases e : i = j
      · subst e; rw [if_pos rfl, if_pos (ixOf_toNat hj)]; exact hv
      · rw [if_neg e, if_neg (fun q => e (Ix.toNat_inj (by rw [q, ixOf_toNat hj])))]; exact (s.env i).ext hx
    · cases hd

/-! ### The operations of a region, one behind the other -/

inductive AOps where
  | nil
  | m (d x : Ix) (r : AOps)
  | p (d : Ix) (p : POp) (r : AOps)
  | l (d : Ix) (x : OA) (r : AOps)
  | s (d : Ix) (f : Nat) (xs : List OA) (r : AOps)
  | cons (g : GD) (d : DD) (o : AOp) (r : AOps)

noncomputable def opsK (l : AOps) : CK → Env → H → (Env → H → Res) → Res :=
  AOps.rec (motive := fun _ => CK → Env → H → (Env → H → Res) → Res) (fun _ e h k => k e h)
    (fun d x _ ih ck e h k => Env.getK x (fun v => Env.setK d v (fun e => ih ck e h k) e) e)
    (fun d p _ ih ck e h k => hP p e fun v => Env.setK d v (fun e => ih ck e h k) e)
    (fun d x _ ih ck e h k => oK x (fun v => isPt v fun b o => atK h b fun ao => rowK ao fun m t df => iteK (Nat.ble (Nat.succ o) m) (cellK t df o fun v => Env.setK d v (fun e => ih ck e h k) e) (.fail 62)) e)
    (fun d f xs _ ih ck e h k => oLK xs e fun l => ck f l h fun v h => Env.setK d v (fun e => ih ck e h k) e)
    (fun g d o _ ih ck e h k => stepK g d o ck e h fun e h => ih ck e h k) l

def mkOp (g : GD) (d : DD) (o : AOp) (r : AOps) : AOps :=
  match g, d, o with
  | .no, .ye d, .P (.mv (.t x)) => .m d x r
  | .no, .ye d, .P p => .p d p r
  | .no, .ye d, .L (.l (.one x)) => .l d x r
  | .no, .ye d, .S f xs => .s d f xs r
  | g, d, o => .cons g d o r

theorem mkOp_eq (g : GD) (d : DD) (o : AOp) (r : AOps) (ck : CK) (e : Env) (h : H) (k : Env → H → Res) : opsK (mkOp g d o r) ck e h k = stepK g d o ck e h fun e h => opsK r ck e h k := by
  unfold mkOp
  split <;> rfl

def cmpOps (P : Program) (nt : Nat) (ops : Array Oper) : List Oper → Option AOps
  | [] => some .nil
  | o :: r => match cmpG ops o.guard, cmpD nt o.dst, cmpO P o, cmpOps P nt ops r with
    | some g, some d, some a, some l => some (mkOp g d a l)
    | _, _, _, _ => none

theorem opsK_good {P : Program} {nt : Nat} {ops : Array Oper} {ck : CK} (hck : SemF P ck) : ∀ (l : List Oper) {al : AOps} {e : Env} {h : H} {k : Env → H → Res}, cmpOps P nt ops l = some al → (opsK al ck e h k).good →
    ∃ e' h', (k e' h').good ∧ ∀ μ a w Q, SR nt μ e h a w → (∀ μ' a' w', Ext μ h w μ' h' w' → SR nt μ' e' h' a' w' → Q .normal a' w') → wpList P ops Q l a w := by
  intro l
  induction l with
  | nil =>
    intro al e h k hc hg
    cases hc
    exact ⟨e, h, hg, fun μ a w Q s hq => hq μ a w (Ext.refl μ h w s.heap) s⟩
  | cons o r ih =>
    intro al e h k hc hg
    unfold cmpOps at hc
    split at hc
    · rename_i g d ao al' h1 h2 h3 h4
      cases hc
      rw [mkOp_eq] at hg
      obtain ⟨v, h', hs, hg⟩ := stepK_good hck h1 h3 hg
      obtain ⟨e'', h'', hg, hrest⟩ := ih h4 hg
      refine ⟨e'', h'', hg, fun μ a w Q s hq => ?_⟩
      refine wpList_step fun K hK => hs μ w a Q K (s.grho ops o) s.heap fun μ' v' w' q1 q2 q3 => hK _ _ ?_
      have s' := s.put h2 q1 q2 q3
      exact hrest μ' _ w' Q s' fun μ'' a'' w'' x s'' => hq μ'' a'' w'' (q1.trans x) s''
    · cases hc

end Go.Ev
