/-
  An abstract evaluator for Go code under the model: operations that only compute: their forms, their ways, and that they say what the model says.
-/
import Derived.Test.YtceplogmemkblaaGreatEvE
namespace Go.Ev

inductive POp where
  | mv (x : OA)
  | pick (c a b : OA)
  | nck (x : OA)
  | bin (op : BinOp) (x y : OA)
  | eqv (cl : Nat) (ng : Bool) (x y : OA)
  | nt (x : OA)
  | ng (x : OA)
  | fa (x : OA) (off : Nat)
  | fd (x : OA) (off : Nat)
  | fdn (x : OA) (off m : Nat)
  | ia (x i : OA) (sz : Nat)
  | iaa (x i : OA) (len sz : Nat)
  | ixs (x i : OA)
  | sls (x : OA) (lo hi : Option OA)
  | slx (x : OA) (lo hi mx : Option OA) (sz : Nat)
  | ex (x : OA) (i : Nat)
  | bd (zero : AV) (parts : List (Nat × Nat × OA))
  | mf (f : Nat) (first cap : List OA)
  | cv (kd : IntKind) (x : OA)
  | lnS (x : OA)
  | lnX (x : OA)
  | mm (isMax : Bool) (x y : OA)

/-- What the operation o comes to, whatever the world. -/
def PSem (P : Program) (o : Oper) (ρ : OA → AV) (v : AV) : Prop :=
  ∀ μ nx w a, Rho μ nx w ρ a o.op.operands → ∃ v', (execOp a.eval o).run P w = .ok (.value v') w ∧ VR μ nx w v v'

/-! ### Ways -/

noncomputable def idxK (x : AV) (k : Nat → Res) : Res := AV.rec (motive := fun _ => (Nat → Res) → Res) (fun _ => .fail 40) (fun _ => fun _ => .fail 40) (fun m k => k m) (fun _ => fun _ => .fail 40) (fun _ m k => k m) (fun _ _ => fun _ => .fail 40) (fun _ _ => fun _ => .fail 40) (fun _ => .fail 40) (fun _ _ _ _ _ => fun _ => .fail 40) (fun _ => .fail 40) (fun _ => .fail 40) (fun _ => fun _ => .fail 40) (fun _ => .fail 40) (fun _ _ _ _ _ => fun _ => .fail 40) (fun _ => .fail 40) (fun _ _ => fun _ => .fail 40) (fun _ _ => fun _ => .fail 40) (fun _ => .fail 40) (fun _ _ _ _ => fun _ => .fail 40) x k
theorem idxK_good {x : AV} {k : Nat → Res} (h : (idxK x k).good) : ∃ m, (∃ kd, ∀ μ nx w v, VR μ nx w x v → v = .int kd (m : Nat)) ∧ (k m).good := by
  cases x <;> first | exact ⟨_, ⟨.i64, fun μ nx w v hv => hv⟩, h⟩ | exact ⟨_, ⟨_, fun μ nx w v hv => hv⟩, h⟩ | exact absurd h Res.not_good_fail

noncomputable def isPt (x : AV) (k : Nat → Nat → Res) : Res := AV.rec (motive := fun _ => (Nat → Nat → Res) → Res) (fun _ => .fail 41) (fun _ => fun _ => .fail 41) (fun _ => fun _ => .fail 41) (fun _ => fun _ => .fail 41) (fun _ _ => fun _ => .fail 41) (fun _ _ => fun _ => .fail 41) (fun b o k => k b o) (fun _ => .fail 41) (fun _ _ _ _ _ => fun _ => .fail 41) (fun _ => .fail 41) (fun _ => .fail 41) (fun _ => fun _ => .fail 41) (fun _ => .fail 41) (fun _ _ _ _ _ => fun _ => .fail 41) (fun _ => .fail 41) (fun _ _ => fun _ => .fail 41) (fun _ _ => fun _ => .fail 41) (fun _ => .fail 41) (fun _ _ _ _ => fun _ => .fail 41) x k
theorem isPt_good {x : AV} {k : Nat → Nat → Res} (h : (isPt x k).good) : ∃ b o, x = .pt b o ∧ (k b o).good := by
  cases x <;> first | exact ⟨_, _, rfl, h⟩ | exact absurd h Res.not_good_fail
noncomputable def isAg (x : AV) (k : AV → Res) : Res := AV.rec (motive := fun _ => (AV → Res) → Res) (fun _ => .fail 42) (fun _ => fun _ => .fail 42) (fun _ => fun _ => .fail 42) (fun _ => fun _ => .fail 42) (fun _ _ => fun _ => .fail 42) (fun _ _ => fun _ => .fail 42) (fun _ _ => fun _ => .fail 42) (fun _ => .fail 42) (fun _ _ _ _ _ => fun _ => .fail 42) (fun _ => .fail 42) (fun _ => .fail 42) (fun _ => fun _ => .fail 42) (fun _ => .fail 42) (fun _ _ _ _ _ => fun _ => .fail 42) (fun _ => .fail 42) (fun l _ k => k l) (fun _ _ => fun _ => .fail 42) (fun _ => .fail 42) (fun _ _ _ _ => fun _ => .fail 42) x k
theorem isAg_good {x : AV} {k : AV → Res} (h : (isAg x k).good) : ∃ l, x = .ag l ∧ (k l).good := by
  cases x <;> first | exact ⟨_, rfl, h⟩ | exact absurd h Res.not_good_fail
noncomputable def isTu (x : AV) (k : AV → Res) : Res := AV.rec (motive := fun _ => (AV → Res) → Res) (fun _ => .fail 43) (fun _ => fun _ => .fail 43) (fun _ => fun _ => .fail 43) (fun _ => fun _ => .fail 43) (fun _ _ => fun _ => .fail 43) (fun _ _ => fun _ => .fail 43) (fun _ _ => fun _ => .fail 43) (fun _ => .fail 43) (fun _ _ _ _ _ => fun _ => .fail 43) (fun _ => .fail 43) (fun _ => .fail 43) (fun _ => fun _ => .fail 43) (fun _ => .fail 43) (fun _ _ _ _ _ => fun _ => .fail 43) (fun _ => .fail 43) (fun _ _ => fun _ => .fail 43) (fun l _ k => k l) (fun _ => .fail 43) (fun _ _ _ _ => fun _ => .fail 43) x k
theorem isTu_good {x : AV} {k : AV → Res} (h : (isTu x k).good) : ∃ l, x = .tu l ∧ (k l).good := by
  cases x <;> first | exact ⟨_, rfl, h⟩ | exact absurd h Res.not_good_fail
noncomputable def isSl (x : AV) (k : Nat → Nat → Nat → Nat → Nat → Res) (z : Res) : Res := AV.rec (motive := fun _ => (Nat → Nat → Nat → Nat → Nat → Res) → Res → Res) (fun _ _ => .fail 44) (fun _ => fun _ _ => .fail 44) (fun _ => fun _ _ => .fail 44) (fun _ => fun _ _ => .fail 44) (fun _ _ => fun _ _ => .fail 44) (fun _ _ => fun _ _ => .fail 44) (fun _ _ => fun _ _ => .fail 44) (fun _ _ => .fail 44) (fun b o l c st k _ => k b o l c st) (fun _ z => z) (fun _ _ => .fail 44) (fun _ => fun _ _ => .fail 44) (fun _ _ => .fail 44) (fun _ _ _ _ _ => fun _ _ => .fail 44) (fun _ _ => .fail 44) (fun _ _ => fun _ _ => .fail 44) (fun _ _ => fun _ _ => .fail 44) (fun _ _ => .fail 44) (fun _ _ _ _ => fun _ _ => .fail 44) x k z
theorem isSl_good {x : AV} {k : Nat → Nat → Nat → Nat → Nat → Res} {z : Res} (h : (isSl x k z).good) : (∃ b o l c st, x = .sl b o l c st ∧ (k b o l c st).good) ∨ (x = .ns ∧ z.good) := by
  cases x <;> first | exact .inl ⟨_, _, _, _, _, rfl, h⟩ | exact .inr ⟨rfl, h⟩ | exact absurd h Res.not_good_fail

/-- An empty slice of which nothing else is known. -/
noncomputable def isEz (x : AV) (k z : Res) : Res := AV.rec (motive := fun _ => Res → Res → Res) (fun _ z => z) (fun _ => fun _ z => z) (fun _ => fun _ z => z) (fun _ => fun _ z => z) (fun _ _ => fun _ z => z) (fun _ _ => fun _ z => z) (fun _ _ => fun _ z => z) (fun _ z => z) (fun _ _ _ _ _ => fun _ z => z) (fun _ z => z) (fun k _ => k) (fun _ => fun _ z => z) (fun _ z => z) (fun _ _ _ _ _ => fun _ z => z) (fun _ z => z) (fun _ _ => fun _ z => z) (fun _ _ => fun _ z => z) (fun _ z => z) (fun _ _ _ _ => fun _ z => z) x k z
theorem isEz_good {x : AV} {k z : Res} (h : (isEz x k z).good) : (x = .ez ∧ k.good) ∨ z.good := by
  cases x <;> first | exact .inr h | exact .inl ⟨rfl, h⟩

noncomputable def nckK (x : AV) (k : AV → Res) : Res := AV.rec (motive := fun _ => (AV → Res) → Res) (fun _ => .fail 45) (fun _ => fun _ => .fail 45) (fun _ => fun _ => .fail 45) (fun _ => fun _ => .fail 45) (fun _ _ => fun _ => .fail 45) (fun _ _ => fun _ => .fail 45) (fun b o k => k (.pt b o)) (fun _ => .fail 45) (fun _ _ _ _ _ => fun _ => .fail 45) (fun _ => .fail 45) (fun _ => .fail 45) (fun _ => fun _ => .fail 45) (fun _ => .fail 45) (fun f l c _ _ k => k (.fn f l c)) (fun _ => .fail 45) (fun _ _ => fun _ => .fail 45) (fun _ _ => fun _ => .fail 45) (fun _ => .fail 45) (fun _ _ _ _ => fun _ => .fail 45) x k
theorem nckK_good {x : AV} {k : AV → Res} (h : (nckK x k).good) : ((∃ b o, x = .pt b o) ∨ ∃ f l c, x = .fn f l c) ∧ (k x).good := by
  cases x <;> first | exact ⟨.inl ⟨_, _, rfl⟩, h⟩ | exact ⟨.inr ⟨_, _, _, rfl⟩, h⟩ | exact absurd h Res.not_good_fail

/-- Equal, where one of the two is nil, or both are truths; by the class of the type. -/
def eqC1 : AV → AV → Option Bool
  | .b x, .b y => some (x == y)
  | _, _ => none
def eqC2 : AV → AV → Option Bool
  | .np, .np => some true
  | .np, .pt _ _ => some false
  | .pt _ _, .np => some false
  | _, _ => none
def eqC3 : AV → AV → Option Bool
  | .ns, .ns => some true
  | .ns, .sl _ _ _ _ _ => some false
  | .sl _ _ _ _ _, .ns => some false
  | _, _ => none
def eqC4 : AV → AV → Option Bool
  | .nm, .nm => some true
  | .nm, .mp _ => some false
  | .mp _, .nm => some false
  | _, _ => none
def eqC5 : AV → AV → Option Bool
  | .nf, .nf => some true
  | .nf, .fn _ _ _ => some false
  | .fn _ _ _, .nf => some false
  | _, _ => none
def eqC : Nat → AV → AV → Option Bool
  | 1 => eqC1
  | 2 => eqC2
  | 3 => eqC3
  | 4 => eqC4
  | 5 => eqC5
  | _ => fun _ _ => none
def eqClass (P : Program) (t : TypeId) : Option Nat :=
  match P.underlying t with
  | some (.int _) => some 0
  | some .string => some 0
  | some .bool => some 1
  | some (.pointer _) => some 2
  | some (.slice _) => some 3
  | some (.map _ _) => some 4
  | some (.func _ _ _) => some 5
  | _ => none
noncomputable def eqvK (cl : Nat) (x y : AV) (ng : Bool) (k : AV → Res) : Res := Option.rec (.fail 46) (fun r => boolK (Bool.rec r (Bool.not r) ng) k) (eqC cl x y)

noncomputable def optK (x : Option OA) (d : Nat) (k : Nat → Res) (e : Env) : Res := Option.rec (motive := fun _ => Nat → (Nat → Res) → Env → Res) (fun d k _ => k d) (fun x _ k e => oK x (fun v => idxK v k) e) x d k e

noncomputable def hSls (x : OA) (lo hi : Option OA) (e : Env) (k : AV → Res) : Res :=
  oK x (fun x => isS x (fun len bits => optK hi len (fun h => optK lo 0 (fun l =>
    iteK (Nat.ble l h) (iteK (Nat.ble h len) (forceN (Nat.sub h l) fun n => forceN (Nat.mod (Nat.shiftRight bits (Nat.mul 8 l)) (Nat.pow 2 (Nat.mul 8 n))) fun b => k (.s n b)) (.fail 47)) (.fail 47)) e) e) (.fail 47)) e

noncomputable def hSlx (x : OA) (lo hi mx : Option OA) (sz : Nat) (e : Env) (k : AV → Res) : Res :=
  oK x (fun x => isEz x (optK hi 0 (fun h => optK lo 0 (fun l => iteK (Nat.beq h 0) (iteK (Nat.beq l 0) (Option.rec (motive := fun _ => Res) (k .ez) (fun m => oK m (fun m => idxK m fun m => iteK (Nat.beq m 0) (k .ez) (.fail 49)) e) mx) (.fail 49)) (.fail 49)) e) e)
    (isSl x (fun b o len cap st => optK hi len (fun h => optK lo 0 (fun l =>
    iteK (Nat.ble l h)
      (Option.rec (motive := fun _ => Res)
        (iteK (Nat.ble h cap) (Nat.rec (motive := fun _ => Res)
            (forceN (Nat.add o (Bool.rec (Nat.mul l sz) 0 (Nat.beq cap l))) fun o => forceN (Nat.sub h l) fun n => forceN (Nat.sub cap l) fun c => k (.sl b o n c 0))
            (fun st1 _ => iteK (Nat.beq st1 sz) (iteK (Bool.or (Nat.beq l 0) (Nat.ble (Nat.succ l) cap)) (forceN (Nat.add o (Nat.mul l sz)) fun o => forceN (Nat.sub h l) fun n => forceN (Nat.sub cap l) fun c => k (.sl b o n c (Nat.succ st1))) (k .ez)) (.fail 48)) st) (.fail 48))
        (fun m => oK m (fun m => idxK m fun m => iteK (Nat.ble h m) (iteK (Nat.ble m cap)
            (forceN (Nat.add o (Bool.rec (Nat.mul l sz) 0 (Nat.beq m l))) fun o => forceN (Nat.sub h l) fun n => forceN (Nat.sub m l) fun c => k (.sl b o n c 0)) (.fail 48)) (.fail 48)) e) mx)
      (.fail 48)) e) e)
    (optK hi 0 (fun h => optK lo 0 (fun l => Option.rec (motive := fun _ => Res) (iteK (Nat.beq h 0) (iteK (Nat.beq l 0) (k .ns) (.fail 49)) (.fail 49)) (fun m => oK m (fun m => idxK m fun m => iteK (Nat.beq m 0) (iteK (Nat.beq h 0) (iteK (Nat.beq l 0) (k .ns) (.fail 49)) (.fail 49)) (.fail 49)) e) mx) e) e))) e

noncomputable def cellsK (v : AV) (k : AV → Res) : Res := iteK v.one (k (.cons v .nil)) (isAg v k)
noncomputable def bdK (ps : List (Nat × Nat × OA)) : AV → Env → (AV → Res) → Res :=
  List.rec (motive := fun _ => AV → Env → (AV → Res) → Res) (fun l _ k => k (.ag l)) (fun p _ ih l e k => oK p.2.2 (fun v => cellsK v fun cs => splK p.1 p.2.1 cs l fun l => ih l e k) e) ps
noncomputable def oLK (xs : List OA) : Env → (AV → Res) → Res :=
  List.rec (motive := fun _ => Env → (AV → Res) → Res) (fun _ k => k .nil) (fun x _ ih e k => oK x (fun v => ih e fun l => k (.cons v l)) e) xs

noncomputable def cvK (kd : IntKind) (x : AV) (k : AV → Res) : Res :=
  IntKind.rec (motive := fun _ => AV → (AV → Res) → Res) (fun x k => zK x fun _ z => mkZ .i8 (IntKind.i8.wrap z) k) (fun x k => zK x fun _ z => mkZ .i16 (IntKind.i16.wrap z) k) (fun x k => zK x fun _ z => mkZ .i32 (IntKind.i32.wrap z) k)
    (fun x k => isP x (fun m => okP m k) (isW x (fun _ m => okP m k) (zK x fun _ z => mkZ .i64 (IntKind.i64.wrap z) k)))
    (fun x k => isP x (fun m => forceN (Nat.mod m 256) fun m => k (.w .u8 m)) (zK x fun _ z => mkZ .u8 (IntKind.u8.wrap z) k))
    (fun x k => zK x fun _ z => mkZ .u16 (IntKind.u16.wrap z) k) (fun x k => zK x fun _ z => mkZ .u32 (IntKind.u32.wrap z) k) (fun x k => zK x fun _ z => mkZ .u64 (IntKind.u64.wrap z) k) kd x k

noncomputable def hMv (x : OA) (e : Env) (k : AV → Res) : Res := oK x k e
noncomputable def hPick (c a b : OA) (e : Env) (k : AV → Res) : Res := oK c (fun c => isB c (fun t => iteK t (oK a k e) (oK b k e)) (.fail 51)) e
noncomputable def hNck (x : OA) (e : Env) (k : AV → Res) : Res := oK x (fun v => nckK v k) e
noncomputable def hBin (op : BinOp) (x y : OA) (e : Env) (k : AV → Res) : Res := oK x (fun vx => oK y (fun vy => binK op vx vy k) e) e
noncomputable def hEqv (cl : Nat) (ng : Bool) (x y : OA) (e : Env) (k : AV → Res) : Res := oK x (fun vx => oK y (fun vy => eqvK cl vx vy ng k) e) e
noncomputable def hNt (x : OA) (e : Env) (k : AV → Res) : Res := oK x (fun v => isB v (fun t => boolK (Bool.not t) k) (.fail 52)) e
noncomputable def hNg (x : OA) (e : Env) (k : AV → Res) : Res := oK x (fun v => zK v fun kd z => mkZ kd (kd.wrap (0 - z)) k) e
noncomputable def hFa (x : OA) (off : Nat) (e : Env) (k : AV → Res) : Res := oK x (fun v => isPt v fun b o => forceN (Nat.add o off) fun o => k (.pt b o)) e
noncomputable def hFd (x : OA) (off : Nat) (e : Env) (k : AV → Res) : Res := oK x (fun v => isAg v fun l => nthK off l k) e
noncomputable def hFdn (x : OA) (off m : Nat) (e : Env) (k : AV → Res) : Res := oK x (fun v => isAg v fun l => dropK off l fun l => takeK m l fun l => k (.ag l)) e
noncomputable def hIa (x i : OA) (sz : Nat) (e : Env) (k : AV → Res) : Res :=
  oK x (fun v => isSl v (fun b o len _ _ => oK i (fun i => idxK i fun i => iteK (Nat.ble (Nat.succ i) len) (forceN (Nat.add o (Nat.mul i sz)) fun o => k (.pt b o)) (.fail 53)) e) (.fail 53)) e
noncomputable def hIaa (x i : OA) (len sz : Nat) (e : Env) (k : AV → Res) : Res :=
  oK x (fun v => isPt v fun b o => oK i (fun i => idxK i fun i => iteK (Nat.ble (Nat.succ i) len) (forceN (Nat.add o (Nat.mul i sz)) fun o => k (.pt b o)) (.fail 54)) e) e
noncomputable def hIxs (x i : OA) (e : Env) (k : AV → Res) : Res :=
  oK x (fun v => isS v (fun len bits => oK i (fun i => idxK i fun i => iteK (Nat.ble (Nat.succ i) len) (forceN (Nat.mod (Nat.shiftRight bits (Nat.mul 8 i)) 256) fun c => k (.w .u8 c)) (.fail 55)) e) (.fail 55)) e
noncomputable def hEx (x : OA) (i : Nat) (e : Env) (k : AV → Res) : Res := oK x (fun v => isTu v fun l => nthK i l k) e
noncomputable def hBd (zero : AV) (ps : List (Nat × Nat × OA)) (e : Env) (k : AV → Res) : Res := bdK ps zero e k
noncomputable def hMf (f : Nat) (first cap : List OA) (e : Env) (k : AV → Res) : Res := oLK first e fun l => oLK cap e fun c => k (.fn f l c)
noncomputable def hCv (kd : IntKind) (x : OA) (e : Env) (k : AV → Res) : Res := oK x (fun v => cvK kd v k) e
noncomputable def hLnS (x : OA) (e : Env) (k : AV → Res) : Res := oK x (fun v => isS v (fun l _ => k (.p l)) (.fail 50)) e
noncomputable def hLnX (x : OA) (e : Env) (k : AV → Res) : Res := oK x (fun v => isEz v (k (.p 0)) (isSl v (fun _ _ l _ _ => k (.p l)) (k (.p 0)))) e
noncomputable def hMm (mx : Bool) (x y : OA) (e : Env) (k : AV → Res) : Res :=
  oK x (fun vx => isP vx (fun m => oK y (fun vy => isP vy (fun n => iteK (Nat.ble m n) (k (.p (Bool.rec m n mx))) (k (.p (Bool.rec n m mx)))) (.fail 56)) e) (.fail 56)) e

noncomputable def hP (p : POp) : Env → (AV → Res) → Res :=
  POp.rec hMv hPick hNck hBin hEqv hNt hNg hFa hFd hFdn hIa hIaa hIxs hSls hSlx hEx hBd hMf hCv hLnS hLnX hMm p

/-! ### Out of the model's operations -/

def optO : Option Operand → Option (Option OA)
  | none => some none
  | some x => (opndOf x).map some
def opndL : List Operand → Option (List OA)
  | [] => some []
  | x :: l => match opndOf x, opndL l with | some a, some b => some (a :: b) | _, _ => none
def partsOf (sz : Nat → Option (Nat × Nat)) : List (Nat × Operand) → Option (List (Nat × Nat × OA))
  | [] => some []
  | (i, x) :: l => match sz i, opndOf x, partsOf sz l with | some (o, s), some a, some b => some ((o, s, a) :: b) | _, _, _ => none

def compP (P : Program) (o : Oper) : Option POp :=
  match o.op with
  | .move x => (opndOf x).map .mv
  | .assign x => (opndOf x).map .mv
  | .pick c a b => match opndOf c, opndOf a, opndOf b with | some c, some a, some b => some (.pick c a b) | _, _, _ => none
  | .nilCheck x => (opndOf x).map .nck
  | .binOp op t x y _ =>
    match opndOf x, opndOf y with
    | some x', some y' =>
      match op with
      | .eql => (match eqClass P t with | some 0 => some (.bin .eql x' y') | some (c + 1) => some (.eqv (c + 1) false x' y') | none => none)
      | .neq => (match eqClass P t with | some 0 => some (.bin .neq x' y') | some (c + 1) => some (.eqv (c + 1) true x' y') | none => none)
      | op => some (.bin op x' y')
    | _, _ => none
  | .unOp .not _ x => (opndOf x).map .nt
  | .unOp .neg _ x => (opndOf x).map .ng
  | .convert src dst x =>
    match P.underlying src, P.underlying dst, opndOf x with
    | some _, some (.int k), some x' => some (.cv k x')
    | _, _, _ => none
  | .makeFunc (.func f) first cap => match opndL first.toList, opndL cap.toList with | some a, some b => some (.mf f a b) | _, _ => none
  | .slice t x lo hi mx =>
    match P.underlying t, opndOf x, optO lo, optO hi, optO mx with
    | some .string, some x', some lo', some hi', some none => some (.sls x' lo' hi')
    | some (.slice e), some x', some lo', some hi', some mx' => if mx'.isSome && hi'.isNone then none else (szOf P e).map fun s => .slx x' lo' hi' mx' s
    | _, _, _, _, _ => none
  | .fieldAddr s x f =>
    match P.underlying s, opndOf x with
    | some (.struct fs), some x' => match fs[f]? with | some fl => (match szOf P fl.type with | some (_ + 1) => some (.fa x' fl.offset) | _ => none) | none => none
    | _, _ => none
  | .field s x f =>
    match P.underlying s, opndOf x with
    | some (.struct fs), some x' =>
      match fs[f]? with
      | some fl => (match aggOf P fl.type with
        | some false => some (.fd x' fl.offset)
        | some true => (szOf P fl.type).map fun n => .fdn x' fl.offset n
        | none => none)
      | none => none
    | _, _ => none
  | .indexAddr t x i =>
    match P.underlying t, opndOf x, opndOf i with
    | some (.slice e), some x', some i' => (szOf P e).map fun s => .ia x' i' s
    | some (.array len e), some x', some i' => (szOf P e).map fun s => .iaa x' i' len s
    | _, _, _ => none
  | .index t x i =>
    match P.underlying t, opndOf x, opndOf i with
    | some .string, some x', some i' => some (.ixs x' i')
    | _, _, _ => none
  | .extract x i => (opndOf x).map fun x' => .ex x' i
  | .build t ps =>
    match P.underlying t, zeroOf P t with
    | some (.struct fs), some (.agg z) =>
      match constL z.toList, partsOf (fun i => match fs[i]? with | some f => (szOf P f.type).map fun s => (f.offset, s) | none => none) ps.toList with
      | some z', some ps' => if fs.all fun f => (szOf P f.type).isSome then some (.bd z' ps') else none
      | _, _ => none
    | _, _ => none
  | .call { callee := .builtin .len, args := xs, argTypes := ts } =>
    match xs.toList, (ts[0]?).bind P.underlying with
    | [x], some .string => (opndOf x).map .lnS
    | [x], some (.slice _) => (opndOf x).map .lnX
    | _, _ => none
  | .call { callee := .builtin .min, args := xs, argTypes := _ } =>
    match xs.toList with
    | [x, y] => match opndOf x, opndOf y with | some a, some b => some (.mm false a b) | _, _ => none
    | _ => none
  | .call { callee := .builtin .max, args := xs, argTypes := _ } =>
    match xs.toList with
    | [x, y] => match opndOf x, opndOf y with | some a, some b => some (.mm true a b) | _, _ => none
    | _ => none
  | _ => none

end Go.Ev
