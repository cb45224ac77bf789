/-
  An abstract evaluator for Go code under the model: code, functions, fuel; what it comes to is what the model comes to.
-/
import Derived.Test.YtceplogmemkblaaGreatEvSc
import Derived.LoopN
import Derived.Scope
namespace Go.Ev

inductive ACode where
  | skip
  | ops (l : AOps)
  | draw (l : DL)
  | seq (a b : ACode)
  | cond (x : OA) (a b : ACode)
  | blk (id : Nat) (a : ACode)
  | loop (a : ACode)
  | exit (id : Nat)
  | ret
  | two (i1 i2 : Ix) (rs : List Ix) (c : ACode)

inductive AEx where
  | n
  | x (id : Nat)
  | r

/-- A result: a temporary, or what stands in a variable. -/
inductive RE where
  | t (i : Ix)
  | c (l : LOp)

inductive RSt where
  | none
  | one (i : Ix)
  | onec (l : LOp)
  | many (l : List RE)

inductive AF where
  | no
  | fn (ps : List Ix) (body : ACode) (rs : RSt)
  | hk (g : AV → H → (AV → H → Res) → Res)
  | fg (keep : List Nat) (ps : List Ix) (body : ACode) (rs : RSt)

abbrev KX := AEx → Env → H → Res
abbrev IH := ACode → Env → H → KX → Res
abbrev Tb := N8 (N8 (N8 (N8 AF)))

noncomputable def seqX (rb : CK → IH → Env → H → KX → Res) (ck : CK) (ih : IH) (k : KX) : KX := fun x e h =>
  AEx.rec (motive := fun _ => (CK → IH → Env → H → KX → Res) → CK → IH → Env → H → KX → Res) (fun rb ck ih e h k => rb ck ih e h k) (fun id _ _ _ e h k => k (.x id) e h) (fun _ _ _ e h k => k .r e h) x rb ck ih e h k
noncomputable def blkX (id : Nat) (k : KX) : KX := fun x e h =>
  AEx.rec (motive := fun _ => Nat → KX → Env → H → Res) (fun _ k e h => k .n e h) (fun id' id k e h => iteK (Nat.beq id' id) (k .n e h) (k (.x id') e h)) (fun _ k e h => k .r e h) x id k e h
noncomputable def loopX (c : ACode) (ih : IH) (k : KX) : KX := fun x e h =>
  AEx.rec (motive := fun _ => ACode → IH → KX → Env → H → Res) (fun c ih k e h => ih c e h k) (fun id _ _ k e h => k (.x id) e h) (fun _ _ k e h => k .r e h) x c ih k e h
noncomputable def twoX (ra rb : CK → IH → Env → H → KX → Res) (ck : CK) (ih : IH) (e : Env) (h : H) (k : KX) (b : Bool) : Res :=
  Bool.rec (motive := fun _ => (CK → IH → Env → H → KX → Res) → (CK → IH → Env → H → KX → Res) → CK → IH → Env → H → KX → Res) (fun _ rb ck ih e h k => rb ck ih e h k) (fun ra _ ck ih e h k => ra ck ih e h k) b ra rb ck ih e h k

/-- Only the end that goes on. -/
noncomputable def onN (x : AEx) (r : Res) : Res := AEx.rec (motive := fun _ => Res → Res) (fun r => r) (fun _ _ => .fail 115) (fun _ => .fail 115) x r
noncomputable def endsK (C : AV) (t : PT AO) (nx : Nat) (eA : Env) (hA : H) (eB : Env) (hB : H) (k : KX) : Res :=
  H.rec (motive := fun _ => Res) (fun tA nA => H.rec (motive := fun _ => Res) (fun tB nB => iteK (Nat.beq nA nB) (newL (Nat.sub nA nx) nx C fun C => joinH C tA tB t fun t' => joinE eA eB fun e' => k .n e' ⟨t', nA⟩) (.fail 116)) hB) hA
/-- The code c twice, on a part of the heap: with the one truth, with the other. -/
noncomputable def bothK (i1 i2 : Ix) (rs : List Ix) (rc : CK → IH → Env → H → KX → Res) (ck : CK) (ih : IH) (e : Env) (h : H) (k : KX) : Res :=
  rootsK rs e fun l => collK l .nil fun K => nextK K h K fun C => H.rec (motive := fun _ => Res) (fun t nx => partK C h .nil fun tp =>
    Env.setK i1 .u (fun e1 => Env.setK i2 (.b true) (fun eT => rc ck ih eT ⟨tp, nx⟩ fun x eA hA => onN x
      (Env.setK i2 (.b false) (fun eF => rc ck ih eF ⟨tp, nx⟩ fun y eB hB => onN y (endsK C t nx eA hA eB hB k)) e1)) e1) e) h

noncomputable def cK (c : ACode) : CK → IH → Env → H → KX → Res :=
  ACode.rec (motive := fun _ => CK → IH → Env → H → KX → Res)
    (fun _ _ e h k => k .n e h)
    (fun l ck _ e h k => opsK l ck e h (k .n))
    (fun l ck _ e h k => dlK l ck e h (k .n))
    (fun _ _ ra rb ck ih e h k => ra ck ih e h (seqX rb ck ih k))
    (fun x _ _ ra rb ck ih e h k => oK x (fun v => isBs v (twoX ra rb ck ih e h k)) e)
    (fun id _ ra ck ih e h k => ra ck ih e h (blkX id k))
    (fun a ra ck ih e h k => ra ck ih e h (loopX (.loop a) ih k))
    (fun id _ _ e h k => k (.x id) e h)
    (fun _ _ e h k => k .r e h)
    (fun i1 i2 rs _ rc ck ih e h k => bothK i1 i2 rs rc ck ih e h k) c

/-! ### Functions -/

noncomputable def bindK (ps : List Ix) : AV → Env → (Env → Res) → Res :=
  List.rec (motive := fun _ => AV → Env → (Env → Res) → Res) (fun l e k => consK l (fun _ _ => .fail 110) (k e) (.fail 110))
    (fun i _ ih l e k => consK l (fun a t => Env.setK i a (fun e' => ih t e' k) e) (k e) (.fail 110)) ps

noncomputable def reK (r : RE) : Env → H → (AV → Res) → Res := RE.rec (motive := fun _ => Env → H → (AV → Res) → Res) (fun i e _ k => Env.getK i k e) (fun l e h k => hL l e h k) r
noncomputable def getsK (l : List RE) : Env → H → (AV → Res) → Res :=
  List.rec (motive := fun _ => Env → H → (AV → Res) → Res) (fun _ _ k => k .nil) (fun i _ ih e h k => reK i e h fun v => ih e h fun r => k (.cons v r)) l

noncomputable def resK (r : RSt) : Env → H → (AV → H → Res) → Res :=
  RSt.rec (motive := fun _ => Env → H → (AV → H → Res) → Res) (fun _ h k => k (.tu .nil) h) (fun i e h k => Env.getK i (fun v => k v h) e) (fun l e h k => hL l e h fun v => k v h) (fun l e h k => getsK l e h fun r => k (.tu r) h) r

noncomputable def retX (rs : RSt) (k : AV → H → Res) : KX := fun x e h =>
  AEx.rec (motive := fun _ => RSt → Env → H → (AV → H → Res) → Res) (fun rs e h k => resK rs e h k) (fun _ _ _ _ _ => .fail 111) (fun rs e h k => resK rs e h k) x rs e h k

def n8 {α : Type} (a : α) : N8 α := .mk a a a a a a a a
/-- Are there so many places? -/
noncomputable def lenK (ps : List Ix) : Nat → Bool := List.rec (motive := fun _ => Nat → Bool) (fun n => Nat.beq n 0) (fun _ _ ih n => Nat.rec (motive := fun _ => Bool) true (fun m _ => ih m) n) ps
def env0 : Env := .mk (n8 (n8 .u)) (n8 (n8 (n8 .u)))
def t0 : N8 AF := n8 .no
def t1 : N8 (N8 AF) := n8 t0
def t2 : N8 (N8 (N8 AF)) := n8 t1

/-- Up to eight arguments at once. -/
noncomputable def bind8 (ps : List Ix) (l : AV) (k : Env → Res) : Res :=
  let e8 : AV → AV → AV → AV → AV → AV → AV → AV → Res := fun a0 a1 a2 a3 a4 a5 a6 a7 => k (.mk (.mk (.mk a0 a1 a2 a3 a4 a5 a6 a7) (n8 .u) (n8 .u) (n8 .u) (n8 .u) (n8 .u) (n8 .u) (n8 .u)) (n8 (n8 (n8 .u))))
  consK l (fun a0 l1 => consK l1 (fun a1 l2 => consK l2 (fun a2 l3 => consK l3 (fun _ _ => bindK ps l env0 k)
    (iteK (lenK ps 3) (e8 a0 a1 a2 .u .u .u .u .u) (.fail 114)) (.fail 114)) (iteK (lenK ps 2) (e8 a0 a1 .u .u .u .u .u .u) (.fail 114)) (.fail 114)) (iteK (lenK ps 1) (e8 a0 .u .u .u .u .u .u .u) (.fail 114)) (.fail 114)) (bindK ps l env0 k) (.fail 114)

noncomputable def digK (m : Nat) (k : I8 → Res) : Res :=
  Nat.rec (motive := fun _ => (I8 → Res) → Res) (fun k => k .i0) (fun m _ => Nat.rec (motive := fun _ => (I8 → Res) → Res) (fun k => k .i1) (fun m _ => Nat.rec (motive := fun _ => (I8 → Res) → Res) (fun k => k .i2)
    (fun m _ => Nat.rec (motive := fun _ => (I8 → Res) → Res) (fun k => k .i3) (fun m _ => Nat.rec (motive := fun _ => (I8 → Res) → Res) (fun k => k .i4) (fun m _ => Nat.rec (motive := fun _ => (I8 → Res) → Res) (fun k => k .i5)
    (fun m _ => Nat.rec (motive := fun _ => (I8 → Res) → Res) (fun k => k .i6) (fun _ _ k => k .i7) m) m) m) m) m) m) m k
theorem digK_eq (f : Nat) (k : I8 → Res) : digK (Nat.mod f 8) k = k (i8Of f) := by
  have h : f % 8 < 8 := Nat.mod_lt _ (by decide)
  show digK (f % 8) k = _
  unfold i8Of
  generalize f % 8 = m at h
  match m, h with
  | 0, _ => rfl | 1, _ => rfl | 2, _ => rfl | 3, _ => rfl | 4, _ => rfl | 5, _ => rfl | 6, _ => rfl | 7, _ => rfl

noncomputable def lookK (T : Tb) (f : Nat) (k : AF → Res) : Res :=
  iteK (Nat.ble f 4095) (digK (Nat.mod (Nat.div f 512) 8) fun a => digK (Nat.mod (Nat.div f 64) 8) fun b => digK (Nat.mod (Nat.div f 8) 8) fun c => digK (Nat.mod f 8) fun d => N8.gK a (N8.gK b (N8.gK c (N8.gK d k))) T) (.fail 112)
def tget (T : Tb) (f : Nat) : AF := (((T.get (i8Of (f / 512))).get (i8Of (f / 64))).get (i8Of (f / 8))).get (i8Of f)
theorem lookK_good {T : Tb} {f : Nat} {k : AF → Res} (h : (lookK T f k).good) : f < 4096 ∧ (k (tget T f)).good := by
  unfold lookK at h
  obtain ⟨h1, h2⟩ := iteK_good h
  have h1 : f ≤ 4095 := Nat.le_of_ble_eq_true h1
  refine ⟨by omega, ?_⟩
  rw [digK_eq, digK_eq, digK_eq, digK_eq, N8.gK_eq, N8.gK_eq, N8.gK_eq, N8.gK_eq] at h2
  exact h2

/-- What stands in t at these numbers, too. -/
noncomputable def backK (keep : List Nat) : PT AO → PT AO → (PT AO → Res) → Res :=
  List.rec (motive := fun _ => PT AO → PT AO → (PT AO → Res) → Res) (fun _ acc k => k acc) (fun b _ ih t acc k => PT.getK t b (fun o => PT.updK 40 acc b (some o) fun acc => ih t acc k) (ih t acc k)) keep
theorem backK_good {t : PT AO} : ∀ {keep : List Nat} {acc : PT AO} {k : PT AO → Res}, (∀ j, acc.get j = none ∨ acc.get j = t.get j) → (backK keep t acc k).good → ∃ t', (∀ j, t'.get j = none ∨ t'.get j = t.get j) ∧ (k t').good
  | [], acc, k, ha, h => ⟨acc, ha, h⟩
  | b :: keep, acc, k, ha, h => by
    have h : (PT.getK t b (fun o => PT.updK 40 acc b (some o) fun acc => backK keep t acc k) (backK keep t acc k)).good := h
    rw [PT.getK_eq] at h
    split at h
    · rename_i o ho
      obtain ⟨t1, ht1, h⟩ := PT.updK_good h
      refine backK_good (acc := t1) (fun j => ?_) h
      rw [ht1 j]
      by_cases e : j = b
      · rw [if_pos e, e]; exact .inr ho.symm
      · rw [if_neg e]; exact ha j
    · exact backK_good ha h
/-- Of the blocks i, i + 1 .. only those stay that are in the list. -/
noncomputable def gcK (keep : List Nat) (i : Nat) (t : PT AO) (k : PT AO → Res) : Res := PT.pruneK t i fun t0 => backK keep t t0 k
theorem gcK_good {keep : List Nat} {i : Nat} {t : PT AO} {k : PT AO → Res} (h : (gcK keep i t k).good) : ∃ t', (∀ j, t'.get j = none ∨ t'.get j = t.get j) ∧ (k t').good := by
  obtain ⟨t0, h0, h⟩ := PT.pruneK_good (show (PT.pruneK t i fun t0 => backK keep t t0 k).good from h)
  exact backK_good h0 h
noncomputable def gcX (keep : List Nat) (nx0 : Nat) (k : AV → H → Res) (v : AV) (h : H) : Res := H.rec (motive := fun _ => Res) (fun t nx => gcK keep nx0 t fun t => k v ⟨t, nx⟩) h

noncomputable def afK (ih : IH) (l : AV) (h : H) (k : AV → H → Res) (a : AF) : Res :=
  AF.rec (motive := fun _ => IH → AV → H → (AV → H → Res) → Res) (fun _ _ _ _ => .fail 113) (fun ps body rs ih l h k => bind8 ps l fun e => ih body e h (retX rs k)) (fun g _ l h k => g l h k) (fun keep ps body rs ih l h k => bind8 ps l fun e => ih body e h (retX rs (gcX keep (H.rec (motive := fun _ => Nat) (fun _ nx => nx) h) k))) a ih l h k
noncomputable def callX (T : Tb) (ih : IH) (f : Nat) (l : AV) (h : H) (k : AV → H → Res) : Res := lookK T f (afK ih l h k)

noncomputable def ev (T : Tb) (fuel : Nat) : IH := Nat.rec (motive := fun _ => IH) (fun _ _ _ _ => .fail 2) (fun _ ih c e h k => cK c (callX T ih) ih e h k) fuel

/-! ### From the program -/

def flipOf (P : Program) (nt : Nat) : Code → Option (Ix × Ix)
  | .region _ ops true => flipB P nt ops
  | _ => none
def rootsOf (nt : Nat) : List Ix := (List.range (min nt 64)).filterMap ixOf

def cmpC (P : Program) (nt : Nat) : Code → Option ACode
  | .skip => some .skip
  | .label _ => some .skip
  | .region _ ops false => (cmpOps P nt ops ops.toList).map .ops
  | .region _ ops true => (cmpDraw P nt ops).map .draw
  | .seq a b => match cmpC P nt a, cmpC P nt b with
    | some a', some b' => some (.seq a' b')
    | none, some b' => match flipOf P nt a with | some (i1, i2) => some (.two i1 i2 (rootsOf nt) b') | none => none
    | _, _ => none
  | .cond x a b => match opndOf x, cmpC P nt a, cmpC P nt b with | some x', some a', some b' => some (.cond x' a' b') | _, _, _ => none
  | .block id a => (cmpC P nt a).map (.blk id)
  | .loop a => (cmpC P nt a).map .loop
  | .exit id => some (.exit id)
  | .scope a => cmpC P nt a
  | .ret => some .ret
  | .goto _ => none
  | .rangeFunc _ _ _ _ => none
  | .refuse _ => none

def cmpRE (P : Program) : ResultVar → Option RE
  | .tmp t => (ixOf t).map .t
  | .cell a t => match ixOf a, aggOf P t with
    | some i, some false => some (.c (.one (.t i)))
    | some i, some true => (szOf P t).map fun m => .c (.many (.t i) m)
    | _, _ => none
def ixL (P : Program) : List ResultVar → Option (List RE)
  | [] => some []
  | x :: r => match cmpRE P x, ixL P r with | some i, some l => some (i :: l) | _, _ => none
def cmpR (P : Program) (rs : List ResultVar) : Option RSt :=
  match rs with
  | [] => some .none
  | [x] => match cmpRE P x with | some (.t i) => some (.one i) | some (.c l) => some (.onec l) | none => none
  | rs => (ixL P rs).map .many

def ps16 : List Ix := List.map Ix.of [.a .i0 .i0, .a .i0 .i1, .a .i0 .i2, .a .i0 .i3, .a .i0 .i4, .a .i0 .i5, .a .i0 .i6, .a .i0 .i7, .a .i1 .i0, .a .i1 .i1, .a .i1 .i2, .a .i1 .i3, .a .i1 .i4, .a .i1 .i5, .a .i1 .i6, .a .i1 .i7]

def cmpF (P : Program) (f : Nat) : Option AF :=
  match P.funcs[f]? with
  | some F => match F.body with
    | some c => match cmpC P F.ntmps c, cmpR P F.results.toList with
      | some a, some r => if F.name == "runtime.NumGoroutine" then none else some (.fn (ps16.take F.ntmps) a r)
      | _, _ => none
    | none => none
  | none => none

/-- The table says of each of its functions what the program says. -/
def FRel (P : Program) (f : Nat) : AF → Prop
  | .no => True
  | .fn ps a r => cmpF P f = some (.fn ps a r)
  | .hk g => ∀ l h k, (g l h k).good → ∃ v h', CSem P f l h v h' ∧ (k v h').good
  | .fg _ ps a r => cmpF P f = some (.fn ps a r)
def TRel (P : Program) (T : Tb) : Prop := ∀ f, f < 4096 → FRel P f (tget T f)

/-! ### Why it is right -/

def exOf : AEx → Exit
  | .n => .normal
  | .x id => .exit id
  | .r => .ret

section
variable {P : Program} {nt : Nat}

def CodeS (P : Program) (nt : Nat) (c : Code) (e : Env) (h : H) (x : AEx) (e' : Env) (h' : H) : Prop :=
  ∀ μ a w Q, SR nt μ e h a w → (∀ μ' a' w', Ext μ h w μ' h' w' → SR nt μ' e' h' a' w' → Q (exOf x) a' w') → c.wp P Q a w
def LoopS (P : Program) (nt : Nat) (c : Code) (e : Env) (h : H) (x : AEx) (e' : Env) (h' : H) : Prop :=
  ∃ n, ∀ μ a w Q, SR nt μ e h a w → (∀ μ' a' w', Ext μ h w μ' h' w' → SR nt μ' e' h' a' w' → Q (exOf x) a' w') → Code.rounds P c Q n a w

structure SemI (P : Program) (ih : IH) : Prop where
  code : ∀ nt c ac e h k, cmpC P nt c = some ac → (ih ac e h k).good → ∃ x e' h', CodeS P nt c e h x e' h' ∧ (k x e' h').good
  loop : ∀ nt c a e h k, cmpC P nt c = some a → (ih (.loop a) e h k).good → ∃ x e' h', LoopS P nt c e h x e' h' ∧ (k x e' h').good

theorem loop_good {ck : CK} {ih : IH} (hi : SemI P ih) {c : Code} {a : ACode} (hc : cmpC P nt c = some a)
    (body : ∀ e h k, (cK a ck ih e h k).good → ∃ x e' h', CodeS P nt c e h x e' h' ∧ (k x e' h').good) :
    ∀ e h k, (cK (.loop a) ck ih e h k).good → ∃ x e' h', LoopS P nt c e h x e' h' ∧ (k x e' h').good := by
  intro e h k hg
  obtain ⟨x, e1, h1, hs, hg⟩ := body e h _ (show (cK a ck ih e h (loopX (.loop a) ih k)).good from hg)
  cases x with
  | n =>
    obtain ⟨x, e2, h2, ⟨n, hs2⟩, hg⟩ := hi.loop nt c a e1 h1 k hc hg
    refine ⟨x, e2, h2, ⟨n + 1, fun μ ac w Q s hq => ?_⟩, hg⟩
    exact hs μ ac w _ s fun μ' a' w' x1 s' => hs2 μ' a' w' Q s' fun μ'' a'' w'' x2 s'' => hq μ'' a'' w'' (x1.trans x2) s''
  | x id => exact ⟨.x id, e1, h1, ⟨1, fun μ ac w Q s hq => hs μ ac w _ s fun μ' a' w' x1 s' => hq μ' a' w' x1 s'⟩, hg⟩
  | r => exact ⟨.r, e1, h1, ⟨1, fun μ ac w Q s hq => hs μ ac w _ s fun μ' a' w' x1 s' => hq μ' a' w' x1 s'⟩, hg⟩

theorem onN_good {x : AEx} {r : Res} (h : (onN x r).good) : x = .n ∧ r.good := by cases x <;> first | exact ⟨rfl, h⟩ | exact absurd h Res.not_good_fail

theorem rootsK_good : ∀ {rs : List Ix} {e : Env} {k : AV → Res}, (rootsK rs e k).good → ∃ l, (k l).good
  | [], e, k, h => ⟨_, h⟩
  | i :: rs, e, k, h => by
    have h : (Env.getK i (fun v => rootsK rs e fun l => k (.cons v l)) e).good := h
    rw [Env.getK_eq] at h
    obtain ⟨l, hl⟩ := rootsK_good (k := fun l => k (.cons (e.get i) l)) h
    exact ⟨_, hl⟩

theorem collK_good : ∀ {l acc : AV} {k : AV → Res}, (collK l acc k).good → ∃ r, (k r).good := by
  intro l
  induction l with
  | cons v r _ it => intro acc k h; exact it h
  | _ => intro acc k h; exact ⟨_, h⟩

theorem nextK_good {h : H} : ∀ {l acc : AV} {k : AV → Res}, (nextK l h acc k).good → ∃ r, (k r).good := by
  intro l
  induction l with
  | cons v r _ it =>
    intro acc k hg
    cases v with
    | p b =>
      have hg : (PT.getK h.t b (fun ao => AO.rec (motive := fun _ => Res) (fun m t df => iteK (Nat.ble m 64) (cellsOfK t df m 0 fun l => collK l acc fun acc => nextK r h acc k) (nextK r h acc k)) (fun _ _ _ => nextK r h acc k) (fun _ _ => nextK r h acc k) (fun _ _ _ => nextK r h acc k) ao) (nextK r h acc k)).good := hg
      rw [PT.getK_eq] at hg
      split at hg
      · rename_i ao hao
        cases ao with
        | row m t df =>
          have hg : (iteK (Nat.ble m 64) (cellsOfK t df m 0 fun l => collK l acc fun acc => nextK r h acc k) (nextK r h acc k)).good := hg
          rw [iteK_eq] at hg
          split at hg
          · obtain ⟨l, _, hg⟩ := cellsOfK_good m 0 hg
            obtain ⟨acc', hg⟩ := collK_good hg
            exact it hg
          · exact it hg
        | _ => exact it hg
      · exact it hg
    | _ => exact it hg
  | _ => intro acc k hg; exact ⟨_, hg⟩

theorem both_good (hmix : P.follows .mixedOrders = true) {ck : CK} {ih : IH} {id : Nat} {ops : Array Oper} {i1 i2 : Ix} {rs : List Ix} {c : Code} {ac : ACode} (hf : flipB P nt ops = some (i1, i2))
    (body : ∀ e h k, (cK ac ck ih e h k).good → ∃ x e' h', CodeS P nt c e h x e' h' ∧ (k x e' h').good) :
    ∀ e h k, (cK (.two i1 i2 rs ac) ck ih e h k).good → ∃ x e' h', CodeS P nt (.seq (.region id ops true) c) e h x e' h' ∧ (k x e' h').good := by
  intro e h k hg
  obtain ⟨l, hg⟩ := rootsK_good (show (rootsK rs e fun l => collK l .nil fun K => nextK K h K fun C => partK C h .nil fun tp =>
    Env.setK i1 .u (fun e1 => Env.setK i2 (.b true) (fun eT => cK ac ck ih eT ⟨tp, h.nx⟩ fun x eA hA => onN x
      (Env.setK i2 (.b false) (fun eF => cK ac ck ih eF ⟨tp, h.nx⟩ fun y eB hB => onN y (endsK C h.t h.nx eA hA eB hB k)) e1)) e1) e).good from hg)
  obtain ⟨K, hg⟩ := collK_good hg
  obtain ⟨C, hg⟩ := nextK_good hg
  obtain ⟨tp, htp, hg⟩ := partK_good hg
  simp only [Env.setK_eq] at hg
  obtain ⟨x, eA, hA, hsA, hg⟩ := body _ _ _ hg
  obtain ⟨rfl, hg⟩ := onN_good hg
  obtain ⟨y, eB, hB, hsB, hg⟩ := body _ _ _ hg
  obtain ⟨rfl, hg⟩ := onN_good hg
  have hg : (iteK (Nat.beq hA.nx hB.nx) (newL (Nat.sub hA.nx h.nx) h.nx C fun C => joinH C hA.t hB.t h.t fun t' => joinE eA eB fun e' => k .n e' ⟨t', hA.nx⟩) (.fail 116)).good := hg
  obtain ⟨hnn, hg⟩ := iteK_good hg
  have hnn : hA.nx = hB.nx := beq_eq hnn
  obtain ⟨C', hCC, hg⟩ := newL_good hg
  obtain ⟨t', ht', hg⟩ := joinH_good hg
  obtain ⟨e', he', hg⟩ := joinE_good hg
  have hsub : Sub ⟨tp, h.nx⟩ h (keys C') := ⟨rfl, fun j o hj => (htp j o hj).elim (fun hh => by simp at hh) fun hh => hh.1, fun j o hj => hCC j ((htp j o hj).elim (fun hh => by simp at hh) fun hh => hh.2)⟩
  refine ⟨.n, e', ⟨t', hA.nx⟩, fun μ a w Q s hq => wp_seq (flip_wp hmix hf s fun v a' w' x s' hv => ?_), hg⟩
  have start : SR nt μ ((e.set i1 .u).set i2 (.b v)) ⟨tp, h.nx⟩ a' w' := by
    refine ⟨s'.size, s'.defers, fun i => ?_, hsub.hr s'.heap⟩
    have := s'.env i
    rw [Env.get_set] at this ⊢
    by_cases e1 : i = i2
    · subst e1; rw [if_pos rfl]; exact hv
    · rw [if_neg e1] at this ⊢; exact this
  cases v with
  | true =>
    refine hsA μ a' w' Q start fun μ' a'' w'' x2 s'' => ?_
    obtain ⟨q1, q2⟩ := lift (t' := t') hsub s'.heap x2 s''.heap (fun j hj => ((ht' j).1 hj).imp (fun q => q) fun hh => hh.1) (fun j hj => (ht' j).2 hj)
    refine hq μ' a'' w'' (x.trans q1) ⟨s''.size, s''.defers, fun i => ?_, q2⟩
    rcases he' i with h0 | ⟨h0, _⟩
    · rw [h0]; trivial
    · rw [h0]; exact s''.env i
  | false =>
    refine hsB μ a' w' Q start fun μ' a'' w'' x2 s'' => ?_
    obtain ⟨q1, q2⟩ := lift (t' := t') hsub s'.heap x2 s''.heap (fun j hj => ((ht' j).1 hj).imp (fun q => q) fun hh => hh.2) (fun j hj => (ht' j).2 hj)
    rw [← hnn] at q1 q2
    refine hq μ' a'' w'' (x.trans q1) ⟨s''.size, s''.defers, fun i => ?_, q2⟩
    rcases he' i with h0 | ⟨_, h0⟩
    · rw [h0]; trivial
    · rw [h0]
      have := s''.env i
      rw [← hnn] at this
      exact this

theorem cK_good (hmix : P.follows .mixedOrders = true) {ck : CK} {ih : IH} (hck : SemF P ck) (hi : SemI P ih) :
    ∀ (c : Code) {ac : ACode} (e : Env) (h : H) (k : KX), cmpC P nt c = some ac → (cK ac ck ih e h k).good → ∃ x e' h', CodeS P nt c e h x e' h' ∧ (k x e' h').good := by
  intro c
  induction c with
  | skip => intro ac e h k hc hg; cases hc; exact ⟨.n, e, h, fun μ a w Q s hq => wp_skip (hq μ a w (Ext.refl μ h w s.heap) s), hg⟩
  | label l => intro ac e h k hc hg; cases hc; exact ⟨.n, e, h, fun μ a w Q s hq => wp_label (hq μ a w (Ext.refl μ h w s.heap) s), hg⟩
  | exit id => intro ac e h k hc hg; cases hc; exact ⟨.x id, e, h, fun μ a w Q s hq => wp_exit (hq μ a w (Ext.refl μ h w s.heap) s), hg⟩
  | ret => intro ac e h k hc hg; cases hc; exact ⟨.r, e, h, fun μ a w Q s hq => wp_ret (hq μ a w (Ext.refl μ h w s.heap) s), hg⟩
  | goto l => intro ac e h k hc hg; cases hc
  | rangeFunc f ps a b _ _ => intro ac e h k hc hg; cases hc
  | refuse w => intro ac e h k hc hg; cases hc
  | region id ops d =>
    intro ac e h k hc hg
    cases d with
    | false =>
      obtain ⟨al, h1, rfl⟩ := Option.map_eq_some_iff.1 hc
      obtain ⟨e', h', h2, h3⟩ := opsK_good hck ops.toList h1 (show (opsK al ck e h (k .n)).good from hg)
      exact ⟨.n, e', h', fun μ a w Q s hq => wp_region_list (h3 μ a w Q s hq), h2⟩
    | true =>
      obtain ⟨al, h1, rfl⟩ := Option.map_eq_some_iff.1 hc
      obtain ⟨e', h', h2, h3⟩ := cmpDraw_good (id := id) hmix hck h1 (show (dlK al ck e h (k .n)).good from hg)
      exact ⟨.n, e', h', fun μ a w Q s hq => h3 μ a w Q s hq, h2⟩
  | seq c1 c2 ih1 ih2 =>
    intro ac e h k hc hg
    unfold cmpC at hc
    split at hc
    · rename_i a b h1 h2
      cases hc
      obtain ⟨x, e1, hh1, hs, hg⟩ := ih1 e h _ h1 (show (cK a ck ih e h (seqX (cK b) ck ih k)).good from hg)
      cases x with
      | n =>
        obtain ⟨x, e2, hh2, hs2, hg⟩ := ih2 e1 hh1 k h2 hg
        refine ⟨x, e2, hh2, fun μ ac w Q s hq => wp_seq (hs μ ac w _ s fun μ' a' w' x1 s' => hs2 μ' a' w' Q s' fun μ'' a'' w'' x2 s'' => hq μ'' a'' w'' (x1.trans x2) s''), hg⟩
      | x id => exact ⟨.x id, e1, hh1, fun μ ac w Q s hq => wp_seq (hs μ ac w _ s fun μ' a' w' x1 s' => hq μ' a' w' x1 s'), hg⟩
      | r => exact ⟨.r, e1, hh1, fun μ ac w Q s hq => wp_seq (hs μ ac w _ s fun μ' a' w' x1 s' => hq μ' a' w' x1 s'), hg⟩
    · rename_i b _ h2
      split at hc
      · rename_i i1 i2 hf
        cases hc
        unfold flipOf at hf
        split at hf
        · rename_i id ops
          exact both_good hmix hf (fun e h k hg => ih2 e h k h2 hg) e h k hg
        · cases hf
      · cases hc
    · cases hc
  | cond x c1 c2 ih1 ih2 =>
    intro ac e h k hc hg
    unfold cmpC at hc
    split at hc
    · rename_i x' a b h0 h1 h2
      cases hc
      have hg : (oK x' (fun v => isB v (fun t => twoX (cK a) (cK b) ck ih e h k t) (.fail 104)) e).good := hg
      rw [oK_eq] at hg
      obtain ⟨t, ht, hg⟩ := isB_good hg
      have hev : ∀ μ ac w, SR nt μ e h ac w → ac.eval x = .bool t := by
        intro μ ac w s
        have := Rho.of_env s.env #[x] x (by simp) x' h0
        rw [ht] at this
        exact this
      cases t with
      | true =>
        obtain ⟨x2, e2, hh2, hs2, hg⟩ := ih1 e h k h1 hg
        exact ⟨x2, e2, hh2, fun μ ac w Q s hq => wp_cond_true (hev μ ac w s) (hs2 μ ac w Q s hq), hg⟩
      | false =>
        obtain ⟨x2, e2, hh2, hs2, hg⟩ := ih2 e h k h2 hg
        exact ⟨x2, e2, hh2, fun μ ac w Q s hq => wp_cond_false (hev μ ac w s) (hs2 μ ac w Q s hq), hg⟩
    · cases hc
  | block id c ih1 =>
    intro ac e h k hc hg
    obtain ⟨a, h1, rfl⟩ := Option.map_eq_some_iff.1 hc
    obtain ⟨x, e1, hh1, hs, hg⟩ := ih1 e h _ h1 (show (cK a ck ih e h (blkX id k)).good from hg)
    cases x with
    | n => exact ⟨.n, e1, hh1, fun μ ac w Q s hq => wp_block (hs μ ac w _ s fun μ' a' w' x1 s' => hq μ' a' w' x1 s'), hg⟩
    | x id' =>
      have hg : (iteK (Nat.beq id' id) (k .n e1 hh1) (k (.x id') e1 hh1)).good := hg
      rw [iteK_eq] at hg
      by_cases hid : id' = id
      · subst hid
        rw [if_pos (Nat.beq_refl _)] at hg
        refine ⟨.n, e1, hh1, fun μ ac w Q s hq => wp_block (hs μ ac w _ s fun μ' a' w' x1 s' => ?_), hg⟩
        simp only [exOf, Exit.inBlock, if_true]
        exact hq μ' a' w' x1 s'
      · rw [if_neg (fun hh => hid (Nat.eq_of_beq_eq_true hh))] at hg
        refine ⟨.x id', e1, hh1, fun μ ac w Q s hq => wp_block (hs μ ac w _ s fun μ' a' w' x1 s' => ?_), hg⟩
        simp only [exOf, Exit.inBlock, hid, if_false]
        exact hq μ' a' w' x1 s'
    | r => exact ⟨.r, e1, hh1, fun μ ac w Q s hq => wp_block (hs μ ac w _ s fun μ' a' w' x1 s' => hq μ' a' w' x1 s'), hg⟩
  | loop c ih1 =>
    intro ac e h k hc hg
    obtain ⟨a, h1, rfl⟩ := Option.map_eq_some_iff.1 hc
    obtain ⟨x, e1, hh1, ⟨n, hs⟩, hg⟩ := loop_good (ck := ck) hi h1 (fun e h k hg => ih1 e h k h1 hg) e h k hg
    exact ⟨x, e1, hh1, fun μ ac w Q s hq => wp_loop_rounds n (hs μ ac w Q s hq), hg⟩
  | scope c ih1 =>
    intro ac e h k hc hg
    obtain ⟨x, e1, hh1, hs, hg⟩ := ih1 e h k hc hg
    refine ⟨x, e1, hh1, fun μ ac w Q s hq => wp_scope_straight (hs μ ac w _ s fun μ' a' w' x1 s' => ?_), hg⟩
    cases x <;> exact hq μ' a' w' x1 s'

def Seqs : Nat → List Ix → Prop
  | _, [] => True
  | j, i :: r => i.toNat = j ∧ Seqs (j + 1) r
theorem Seqs.take : ∀ {l : List Ix} {j : Nat} (n : Nat), Seqs j l → Seqs j (l.take n)
  | [], j, n, h => by simpa using h
  | i :: r, j, 0, h => trivial
  | i :: r, j, n + 1, h => ⟨h.1, Seqs.take n h.2⟩
theorem ps16_seqs : Seqs 0 ps16 := ⟨rfl, rfl, rfl, rfl, rfl, rfl, rfl, rfl, rfl, rfl, rfl, rfl, rfl, rfl, rfl, rfl, trivial⟩

theorem bindK_good : ∀ {ps : List Ix} {j : Nat} {l : AV} {e : Env} {k : Env → Res}, Seqs j ps → (bindK ps l e k).good →
    ∃ e', (k e').good ∧ ∀ μ nx w vs, VRL μ nx w l vs → vs.length ≤ ps.length ∧ ∀ (f : Nat → Value), (∀ i : Ix, VR μ nx w (e.get i) (f i.toNat)) → ∀ i : Ix, VR μ nx w (e'.get i) (ov j vs f i.toNat)
  | [], j, l, e, k, _, hg => by
    rcases consK_or (show (consK l (fun _ _ => .fail 110) (k e) (.fail 110)).good from hg) with ⟨a, t, rfl, h1⟩ | ⟨rfl, h1⟩
    · exact absurd h1 Res.not_good_fail
    · refine ⟨e, h1, fun μ nx w vs hv => ?_⟩
      rw [VRL_nil] at hv
      subst hv
      refine ⟨Nat.le_refl _, fun f hf i => ?_⟩
      unfold ov
      rw [if_neg (by simp only [List.length_nil]; omega)]
      exact hf i
  | i0 :: ps, j, l, e, k, hs, hg => by
    rcases consK_or (show (consK l (fun a t => Env.setK i0 a (fun e' => bindK ps t e' k) e) (k e) (.fail 110)).good from hg) with ⟨a, t, rfl, h1⟩ | ⟨rfl, h1⟩
    · rw [Env.setK_eq] at h1
      obtain ⟨e', h2, h3⟩ := bindK_good hs.2 h1
      refine ⟨e', h2, fun μ nx w vs hv => ?_⟩
      obtain ⟨x, xs, rfl, hx, hxs⟩ := hv
      obtain ⟨h4, h5⟩ := h3 μ nx w xs hxs
      refine ⟨by simpa using h4, fun f hf i => ?_⟩
      have h6 := h5 (fun t => if t = j then x else f t) (fun i => by
        rw [Env.get_set]
        by_cases e1 : i = i0
        · subst e1; rw [if_pos rfl, if_pos hs.1]; exact hx
        · rw [if_neg e1, if_neg (fun q => e1 (Ix.toNat_inj (by rw [q, hs.1])))]; exact hf i) i
      have e2 : ov (j + 1) xs (fun t => if t = j then x else f t) i.toNat = ov j (x :: xs) f i.toNat := by
        unfold ov
        simp only [List.length_cons]
        by_cases e : i.toNat = j
        · rw [if_neg (by omega), if_pos e, if_pos ⟨by omega, by omega⟩, show i.toNat - j = 0 by omega]; simp
        · by_cases e2 : j + 1 ≤ i.toNat ∧ i.toNat < j + 1 + xs.length
          · rw [if_pos e2, if_pos ⟨by omega, by omega⟩, show i.toNat - j = (i.toNat - (j + 1)) + 1 by omega]; simp
          · rw [if_neg e2]
            show (if i.toNat = j then x else f i.toNat) = _
            rw [if_neg e, if_neg (by omega)]
      rw [← e2]; exact h6
    · refine ⟨e, h1, fun μ nx w vs hv => ?_⟩
      rw [VRL_nil] at hv
      subst hv
      refine ⟨Nat.zero_le _, fun f hf i => ?_⟩
      unfold ov
      rw [if_neg (by simp only [List.length_nil]; omega)]
      exact hf i

theorem hL_var {l : LOp} {rv : ResultVar} {e : Env} {h : H} {k : AV → Res} (hc : cmpRE P rv = some (.c l)) (hg : (hL l e h k).good) :
    ∃ v, (k v).good ∧ ∀ μ w (tmps : Array Value), (∀ i : Ix, VR μ h.nx w (e.get i) (tmps.getD i.toNat undef)) → HR μ h w → ∃ v', (match rv with | .tmp t => (pure (tmps.getD t undef) : Sem Value) | .cell a t => do loadVar t (← asAddr (tmps.getD a undef))).run P w = .ok v' w ∧ VR μ h.nx w v v' := by
  cases rv with
  | tmp t => simp only [cmpRE] at hc; obtain ⟨_, _, q⟩ := Option.map_eq_some_iff.1 hc; cases q
  | cell a t =>
    simp only [cmpRE] at hc
    split at hc
    · rename_i i hi ha
      cases hc
      have hg : (Env.getK i (fun v => isPt v fun b o => atK h b fun ao => rowK ao fun m t df => iteK (Nat.ble (Nat.succ o) m) (cellK t df o k) (.fail 62)) e).good := hg
      rw [Env.getK_eq] at hg
      obtain ⟨b, off, hb, hg⟩ := isPt_good hg
      obtain ⟨ao, hao, hg⟩ := atK_good hg
      obtain ⟨m, tr, df, rfl, hg⟩ := rowK_good hg
      obtain ⟨hlt, hg⟩ := iteK_good hg
      have hlt : off + 1 ≤ m := Nat.le_of_ble_eq_true hlt
      rw [cellK_eq] at hg
      refine ⟨_, hg, fun μ w tmps hv hh => ?_⟩
      have hp := hv i
      rw [hb, ixOf_toNat hi] at hp
      obtain ⟨v, hcell, hvr, _, _⟩ := hh.cell hao (i := off) (by omega)
      refine ⟨v, ?_, hvr⟩
      show Sem.run P (do loadVar t (← asAddr (tmps.getD a undef))) w = _
      rw [hp.2]
      simp only [asAddr, loadVar, Sem.run_bind, Sem.run_pure, Result.andThen_ok, run_aggOf ha, Bool.false_eq_true, if_false]
      exact run_load_cell hcell
    · rename_i i hi ha
      obtain ⟨n, hn, q⟩ := Option.map_eq_some_iff.1 hc
      cases q
      have hg : (Env.getK i (fun v => isPt v fun b o => atK h b fun ao => rowK ao fun m t df => iteK (Nat.ble (Nat.add o n) m) (cellsOfK t df n o fun l => k (.ag l)) (.fail 62)) e).good := hg
      rw [Env.getK_eq] at hg
      obtain ⟨b, off, hb, hg⟩ := isPt_good hg
      obtain ⟨ao, hao, hg⟩ := atK_good hg
      obtain ⟨m, tr, df, rfl, hg⟩ := rowK_good hg
      obtain ⟨hlt, hg⟩ := iteK_good hg
      have hlt : off + n ≤ m := Nat.le_of_ble_eq_true hlt
      obtain ⟨l, hl, hg⟩ := cellsOfK_good n off hg
      refine ⟨_, hg, fun μ w tmps hv hh => ?_⟩
      have hp := hv i
      rw [hb, ixOf_toNat hi] at hp
      let f : Nat → Value := fun i => (w.cell? ⟨μ b, i, none⟩).getD undef
      have hf1 : ∀ j, j < n → w.cell? ⟨μ b, off + j, none⟩ = some (f (off + j)) ∧ VR μ h.nx w ((tr.get (off + j)).getD df) (f (off + j)) ∧ (f (off + j)).oneCell' = true := fun j hj => by
        obtain ⟨v, h5, h6, h7, _⟩ := hh.cell hao (i := off + j) (by omega)
        have e1 : f (off + j) = v := by simp only [f, h5, Option.getD_some]
        rw [e1]; exact ⟨h5, h6, h7⟩
      have hload : (loadCells ⟨μ b, off, none⟩ n).run P w = .ok ((List.range n).map fun j => f (off + j)).toArray w := by
        have := run_loadCells_list (P := P) (w := w) ⟨μ b, off, none⟩ ((List.range n).map fun j => f (off + j)) (fun j v hj => by
          rw [List.getElem?_map] at hj
          rcases Nat.lt_or_ge j n with hjn | hjn
          · rw [List.getElem?_range hjn] at hj
            simp only [Option.map_some, Option.some.injEq] at hj
            rw [Addr.add_lit, ← hj]; exact (hf1 j hjn).1
          · rw [List.getElem?_eq_none (by simp; omega)] at hj; cases hj)
        simpa using this
      refine ⟨.agg ((List.range n).map fun j => f (off + j)).toArray, ?_, _, rfl, hl μ h.nx w f (fun j hj => (hf1 j hj).2.1), fun y hy => ?_⟩
      · show Sem.run P (do loadVar t (← asAddr (tmps.getD a undef))) w = _
        rw [hp.2]
        simp only [asAddr, loadVar, Sem.run_bind, Sem.run_pure, Result.andThen_ok, run_aggOf ha, if_true, run_szOf hn, hload]
      · simp only [List.mem_map, List.mem_range] at hy
        obtain ⟨j, hj, rfl⟩ := hy
        exact (hf1 j hj).2.2
    · cases hc

def resultOf (tmps : Array Value) (rv : ResultVar) : Sem Value := match rv with | .tmp t => (pure (tmps.getD t undef) : Sem Value) | .cell a t => do loadVar t (← asAddr (tmps.getD a undef))

theorem reK_good {rv : ResultVar} {r : RE} {e : Env} {h : H} {k : AV → Res} (hc : cmpRE P rv = some r) (hg : (reK r e h k).good) :
    ∃ v, (k v).good ∧ ∀ μ w (tmps : Array Value), (∀ i : Ix, VR μ h.nx w (e.get i) (tmps.getD i.toNat undef)) → HR μ h w → ∃ v', (resultOf tmps rv).run P w = .ok v' w ∧ VR μ h.nx w v v' := by
  cases r with
  | t i =>
    cases rv with
    | tmp t =>
      obtain ⟨j, hj, q⟩ := Option.map_eq_some_iff.1 (show (ixOf t).map RE.t = some (.t i) from hc)
      cases q
      have hg : (Env.getK i k e).good := hg
      rw [Env.getK_eq] at hg
      refine ⟨_, hg, fun μ w tmps hv hh => ⟨tmps.getD t undef, rfl, ?_⟩⟩
      have := hv i
      rwa [ixOf_toNat hj] at this
    | cell a t =>
      simp only [cmpRE] at hc
      split at hc
      · cases hc
      · obtain ⟨_, _, q⟩ := Option.map_eq_some_iff.1 hc; cases q
      · cases hc
  | c l => exact hL_var hc hg

theorem getsK_good : ∀ {rs : List ResultVar} {l : List RE} {e : Env} {h : H} {k : AV → Res}, ixL P rs = some l → (getsK l e h k).good → ∃ r, (k r).good ∧
    ∀ μ w (tmps : Array Value), (∀ i : Ix, VR μ h.nx w (e.get i) (tmps.getD i.toNat undef)) → HR μ h w → ∃ vs, (rs.mapM (resultOf tmps)).run P w = .ok vs w ∧ vs.length = rs.length ∧ VRL μ h.nx w r vs
  | [], l, e, h, k, hc, hg => by cases hc; exact ⟨.nil, hg, fun μ w tmps _ _ => ⟨[], rfl, rfl, rfl⟩⟩
  | x :: rs, l, e, h, k, hc, hg => by
    unfold ixL at hc
    split at hc
    · rename_i i l' h1 h2
      cases hc
      obtain ⟨v, hg, hv⟩ := reK_good h1 (show (reK i e h fun v => getsK l' e h fun r => k (.cons v r)).good from hg)
      obtain ⟨r, hg, hr⟩ := getsK_good h2 hg
      refine ⟨_, hg, fun μ w tmps he hh => ?_⟩
      obtain ⟨v', h3, h4⟩ := hv μ w tmps he hh
      obtain ⟨vs, h5, h6, h7⟩ := hr μ w tmps he hh
      refine ⟨v' :: vs, ?_, by simp [h6], v', vs, rfl, h4, h7⟩
      simp only [List.mapM_cons, Sem.run_bind, h3, Result.andThen_ok, h5, Sem.run_pure]
    · cases hc

theorem run_results_of {fn : Func} {rs : List ResultVar} (h : fn.results.toList = rs) {tmps : Array Value} {vs : List Value} {w : World} (hv : (rs.mapM (resultOf tmps)).run P w = .ok vs w) :
    (results fn tmps).run P w = .ok (if h : vs.toArray.size = 1 then vs.toArray[0] else .tuple vs.toArray) w := by
  have h' : fn.results = rs.toArray := by apply Array.ext'; simpa using h
  have key : Sem.run P (rs.toArray.mapM (resultOf tmps)) w = Result.ok vs.toArray w := by
    rw [List.mapM_toArray, map_eq_pure_bind, Sem.run_bind, hv]
    rfl
  unfold results
  rw [h', Sem.run_bind]
  refine (congrArg (fun r => Result.andThen r _) key).trans ?_
  rfl

theorem resK_good {rs : List ResultVar} {r : RSt} {e : Env} {h : H} {k : AV → H → Res} (hc : cmpR P rs = some r) (hg : (resK r e h k).good) :
    ∃ v, (k v h).good ∧ ∀ (fn : Func), fn.results.toList = rs → ∀ μ w (tmps : Array Value), (∀ i : Ix, VR μ h.nx w (e.get i) (tmps.getD i.toNat undef)) → HR μ h w → ∃ v', (results fn tmps).run P w = .ok v' w ∧ VR μ h.nx w v v' := by
  have single : ∀ {x : ResultVar} {c : RE}, cmpRE P x = some c → (reK c e h fun v => k v h).good →
      ∃ v, (k v h).good ∧ ∀ (fn : Func), fn.results.toList = [x] → ∀ μ w (tmps : Array Value), (∀ i : Ix, VR μ h.nx w (e.get i) (tmps.getD i.toNat undef)) → HR μ h w → ∃ v', (results fn tmps).run P w = .ok v' w ∧ VR μ h.nx w v v' := by
    intro x c hx hg
    obtain ⟨v, hg, hv⟩ := reK_good hx hg
    refine ⟨v, hg, fun fn hf μ w tmps he hh => ?_⟩
    obtain ⟨v', h1, h2⟩ := hv μ w tmps he hh
    refine ⟨v', ?_, h2⟩
    rw [run_results_of hf (vs := [v']) (by simp only [List.mapM_cons, List.mapM_nil, Sem.run_bind, h1, Result.andThen_ok, Sem.run_pure])]
    simp
  unfold cmpR at hc
  split at hc
  · cases hc
    refine ⟨.tu .nil, hg, fun fn hf μ w tmps hv _ => ⟨.tuple #[], ?_, #[], rfl, rfl⟩⟩
    exact results_none (by apply Array.ext'; simpa using hf) tmps P w
  · rename_i x
    split at hc
    · rename_i i hx; cases hc; exact single hx hg
    · rename_i l hx; cases hc; exact single hx hg
    · cases hc
  · rename_i hn1 hn2
    obtain ⟨l, hl, rfl⟩ := Option.map_eq_some_iff.1 hc
    obtain ⟨r, hg, hr⟩ := getsK_good hl (show (getsK l e h fun r => k (.tu r) h).good from hg)
    refine ⟨_, hg, fun fn hf μ w tmps hv hh => ?_⟩
    obtain ⟨vs, h1, h2, h3⟩ := hr μ w tmps hv hh
    have hlen : vs.length ≠ 1 := by
      rw [h2]
      intro hl1
      match rs, hl1 with
      | [x], _ => exact hn2 x rfl
    exact ⟨.tuple vs.toArray, by rw [run_results_of hf h1, dif_neg (by simpa using hlen)], _, rfl, h3⟩

theorem lenK_le : ∀ {ps : List Ix} {n : Nat}, lenK ps n = true → n ≤ ps.length
  | [], n, h => by have : n = 0 := beq_eq (show Nat.beq n 0 = true from h); simp [this]
  | i :: ps, 0, h => Nat.zero_le _
  | i :: ps, n + 1, h => by have := lenK_le (show lenK ps n = true from h); simp; omega

theorem env0_get (i : Ix) : env0.get i = .u := by
  show env0.get0 i.n = .u
  cases i.n with | a h1 h2 => cases h1 <;> cases h2 <;> rfl | c h1 h2 h3 => cases h1 <;> cases h2 <;> cases h3 <;> rfl

theorem bind8_good {ps : List Ix} {l : AV} {k : Env → Res} (hs : Seqs 0 ps) (hg : (bind8 ps l k).good) :
    ∃ e', (k e').good ∧ ∀ μ nx w vs, VRL μ nx w l vs → vs.length ≤ ps.length ∧ ∀ i : Ix, VR μ nx w (e'.get i) (ov 0 vs (fun _ => undef) i.toNat) := by
  have general : (bindK ps l env0 k).good → ∃ e', (k e').good ∧ ∀ μ nx w vs, VRL μ nx w l vs → vs.length ≤ ps.length ∧ ∀ i : Ix, VR μ nx w (e'.get i) (ov 0 vs (fun _ => undef) i.toNat) := by
    intro hg
    obtain ⟨e', h1, h2⟩ := bindK_good hs hg
    refine ⟨e', h1, fun μ nx w vs hv => ⟨(h2 μ nx w vs hv).1, (h2 μ nx w vs hv).2 (fun _ => undef) fun i => by rw [env0_get]; trivial⟩⟩
  have small : ∀ (l' : AV) (k' : Env → Res), (bindK ps16 l' env0 k').good → ∃ e', (k' e').good ∧ ∀ μ nx w vs, VRL μ nx w l' vs → ∀ i : Ix, VR μ nx w (e'.get i) (ov 0 vs (fun _ => undef) i.toNat) := by
    intro l' k' hg
    obtain ⟨e', h1, h2⟩ := bindK_good ps16_seqs hg
    exact ⟨e', h1, fun μ nx w vs hv => (h2 μ nx w vs hv).2 (fun _ => undef) fun i => by rw [env0_get]; trivial⟩
  unfold bind8 at hg
  rcases consK_or hg with ⟨a0, l1, rfl, hg⟩ | ⟨rfl, hg⟩
  · rcases consK_or hg with ⟨a1, l2, rfl, hg⟩ | ⟨rfl, hg⟩
    · rcases consK_or hg with ⟨a2, l3, rfl, hg⟩ | ⟨rfl, hg⟩
      · rcases consK_or hg with ⟨a3, l4, rfl, hg⟩ | ⟨rfl, hg⟩
        · exact general hg
        · obtain ⟨h1, h2⟩ := iteK_good hg
          obtain ⟨e', h3, h4⟩ := small (.cons a0 (.cons a1 (.cons a2 .nil))) k h2
          exact ⟨e', h3, fun μ nx w vs hv => ⟨by obtain ⟨_, _, rfl, _, _, _, rfl, _, _, _, rfl, _, hh⟩ := hv; rw [VRL_nil.1 hh]; exact lenK_le h1, h4 μ nx w vs hv⟩⟩
      · obtain ⟨h1, h2⟩ := iteK_good hg
        obtain ⟨e', h3, h4⟩ := small (.cons a0 (.cons a1 .nil)) k h2
        exact ⟨e', h3, fun μ nx w vs hv => ⟨by obtain ⟨_, _, rfl, _, _, _, rfl, _, hh⟩ := hv; rw [VRL_nil.1 hh]; exact lenK_le h1, h4 μ nx w vs hv⟩⟩
    · obtain ⟨h1, h2⟩ := iteK_good hg
      obtain ⟨e', h3, h4⟩ := small (.cons a0 .nil) k h2
      exact ⟨e', h3, fun μ nx w vs hv => ⟨by obtain ⟨_, _, rfl, _, hh⟩ := hv; rw [VRL_nil.1 hh]; exact lenK_le h1, h4 μ nx w vs hv⟩⟩
  · exact general hg

theorem fn_good {ih : IH} (hi : ∀ nt c ac e h k, cmpC P nt c = some ac → (ih ac e h k).good → ∃ x e' h', CodeS P nt c e h x e' h' ∧ (k x e' h').good) {f : Nat} {ps : List Ix} {body : ACode} {rs : RSt} {l : AV} {h : H} {k : AV → H → Res} (hcf : cmpF P f = some (.fn ps body rs))
    (hg : (bind8 ps l fun e => ih body e h (retX rs k)).good) : ∃ v h', CSem P f l h v h' ∧ (k v h').good := by
  unfold cmpF at hcf
  split at hcf
  · rename_i F hF
    split at hcf
    · rename_i c hb
      split at hcf
      · rename_i a r ha hr
        split at hcf
        · cases hcf
        · rename_i hname
          obtain ⟨rfl, rfl, rfl⟩ : ps16.take F.ntmps = ps ∧ a = body ∧ r = rs := by
            have := Option.some.inj hcf
            injection this with h1 h2 h3
            exact ⟨h1, h2, h3⟩
          have hg : (bind8 (ps16.take F.ntmps) l fun e => ih a e h (retX r k)).good := hg
          obtain ⟨e, hg, hbind⟩ := bind8_good (Seqs.take F.ntmps ps16_seqs) hg
          obtain ⟨x, e', h', hs, hg⟩ := hi F.ntmps c a e h _ ha hg
          have hx : (x = .n ∨ x = .r) ∧ (resK r e' h' k).good := by
            cases x with
            | n => exact ⟨.inl rfl, hg⟩
            | x id => exact absurd hg Res.not_good_fail
            | r => exact ⟨.inr rfl, hg⟩
          obtain ⟨hx, hg⟩ := hx
          obtain ⟨v, hg, hres⟩ := resK_good (P := P) hr hg
          refine ⟨v, h', fun μ w vs hvs hh => .inl ⟨?_, ?_⟩, hg⟩
          · have hn : F.name ≠ "runtime.NumGoroutine" := by simpa using hname
            simp [callFunc, hF, hn, hb]
          · obtain ⟨h1, h2⟩ := hbind μ h.nx w vs hvs
            have hle : vs.length ≤ F.ntmps := by
              have : (ps16.take F.ntmps).length ≤ F.ntmps := by simp; omega
              omega
            refine calls_of_wp hF hb (hs μ _ w _ ⟨by simp; omega, rfl, fun i => ?_, hh⟩ fun μ' a' w' q1 s' => ?_)
            · have h3 := h2 i
              have h4 : (vs.toArray ++ Array.replicate (F.ntmps - vs.toArray.size) undef).getD i.toNat undef = ov 0 vs (fun _ => undef) i.toNat := by
                unfold ov
                by_cases e : i.toNat < vs.length
                · rw [if_pos ⟨Nat.zero_le _, by omega⟩]
                  simp [Array.getElem?_append, e]
                · rw [if_neg (by omega)]
                  simp [Array.getElem?_append, e, Array.getElem?_replicate]
                  split <;> rfl
              rw [h4]; exact h3
            · obtain ⟨v', h3, h4⟩ := hres F rfl μ' w' a'.tmps s'.env s'.heap
              have hpost : ∀ x, (x = .n ∨ x = .r) → bodyPost P F (fun e w' => ∃ v', e = .returned v' ∧ ∃ μ', Ext μ h w μ' h' w' ∧ HR μ' h' w' ∧ VR μ' h'.nx w' v v') (exOf x) a' w' := by
                rintro x (rfl | rfl)
                · exact ⟨s'.defers, v', h3, v', rfl, μ', q1, s'.heap, h4⟩
                · exact ⟨s'.defers, v', h3, v', rfl, μ', q1, s'.heap, h4⟩
              exact hpost x hx
      · cases hcf
    · cases hcf
  · cases hcf

theorem CSem.sub {f : Nat} {l v : AV} {h h' : H} (hs : CSem P f l h v h') {t : PT AO} (ht : ∀ j, t.get j = none ∨ t.get j = h'.t.get j) : CSem P f l h v ⟨t, h'.nx⟩ := by
  have hm : ∀ j o, t.get j = some o → h'.t.get j = some o := fun j o hj => by
    rcases ht j with h0 | h0
    · rw [h0] at hj; cases hj
    · rw [← h0]; exact hj
  have key : ∀ {μ μ' : Nat → Nat} {w w' : World}, Ext μ h w μ' h' w' → HR μ' h' w' → Ext μ h w μ' ⟨t, h'.nx⟩ w' ∧ HR μ' ⟨t, h'.nx⟩ w' := fun x hr =>
    ⟨⟨x.agree, x.nx, x.size, x.shape, x.frame, fun b o hb => x.fresh b o (hm b o hb), x.same, x.gsz⟩, fun b o hb => hr.lt b o (hm b o hb), fun b o hb => hr.obj b o (hm b o hb), fun b o b' o' hb hb' e => hr.inj b o b' o' (hm b o hb) (hm b' o' hb') e, hr.gl, fun b o hb => hr.low b o (hm b o hb)⟩
  intro μ w vs hv hr
  rcases hs μ w vs hv hr with ⟨h1, h2⟩ | ⟨v', μ', w', h1, h2, h3, h4⟩
  · refine .inl ⟨h1, h2.mono ?_⟩
    rintro e w' ⟨v', rfl, μ', q1, q2, q3⟩
    exact ⟨v', rfl, μ', (key q1 q2).1, (key q1 q2).2, q3⟩
  · exact .inr ⟨v', μ', w', h1, (key h2 h3).1, (key h2 h3).2, h4⟩

theorem callX_good {T : Tb} {ih : IH} (hT : TRel P T) (hi : SemI P ih) : SemF P (callX T ih) := by
  intro f l h k hg
  obtain ⟨hlt, hg⟩ := lookK_good hg
  have hr := hT f hlt
  cases ht : tget T f with
  | no => rw [ht] at hg; exact absurd hg Res.not_good_fail
  | hk g => rw [ht] at hg hr; exact hr l h k hg
  | fn ps body rs => rw [ht] at hg hr; exact fn_good hi.code hr hg
  | fg keep ps body rs =>
    rw [ht] at hg hr
    obtain ⟨v, h', h1, h2⟩ := fn_good hi.code hr (show (bind8 ps l fun e => ih body e h (retX rs (gcX keep h.nx k))).good from hg)
    obtain ⟨t, ht', h3⟩ := gcK_good (show (gcK keep h.nx h'.t fun t => k v ⟨t, h'.nx⟩).good from h2)
    exact ⟨v, _, h1.sub ht', h3⟩

theorem ev_good (hmix : P.follows .mixedOrders = true) {T : Tb} (hT : TRel P T) : ∀ fuel, SemI P (ev T fuel) := by
  intro fuel
  induction fuel with
  | zero => exact ⟨fun _ _ _ _ _ _ _ hg => absurd hg Res.not_good_fail, fun _ _ _ _ _ _ _ hg => absurd hg Res.not_good_fail⟩
  | succ n ih =>
    have hck := callX_good hT ih
    refine ⟨fun nt c ac e h k hc hg => cK_good hmix hck ih c e h k hc (show (cK ac (callX T (ev T n)) (ev T n) e h k).good from hg), fun nt c a e h k hc hg => ?_⟩
    exact loop_good (ck := callX T (ev T n)) ih hc (fun e h k hg => cK_good hmix hck ih c e h k hc hg) e h k (show (cK (.loop a) (callX T (ev T n)) (ev T n) e h k).good from hg)

/-- A call, from one abstract heap to another. -/
noncomputable def runF (T : Tb) (fuel f : Nat) (l : AV) (h : H) (k : AV → H → Res) : Res := callX T (ev T fuel) f l h k
theorem runF_good (hmix : P.follows .mixedOrders = true) {T : Tb} (hT : TRel P T) {fuel f : Nat} {l : AV} {h : H} {k : AV → H → Res} (hg : (runF T fuel f l h k).good) : ∃ v h', CSem P f l h v h' ∧ (k v h').good :=
  callX_good hT (ev_good hmix hT fuel) f l h k hg

end
end Go.Ev
