/-
  An abstract evaluator for Go code under the model: operations on the heap: their forms, and their ways.
-/
import Derived.Test.YtceplogmemkblaaGreatEvL
import Derived.Laws.RangeString
namespace Go.Ev

inductive WOp where
  | st (x : OA) (m : Nat) (v : OA)
  | al (cells : AV)
  | bx (v : OA)
  | bs (zero : AV) (len : Nat) (parts : List (Nat × Nat × OA))
  | ms (df : AV) (bytes : Nat) (len cap : OA)
  | mkm (str : Bool)
  | lki (zero : AV) (m k : OA) (ok : Bool)
  | lks (zero : AV) (m k : OA) (ok : Bool)
  | mui (m k v : OA)
  | mus (m k v : OA)
  | mei (zero : AV) (m k : OA)
  | mes (zero : AV) (m k : OA)
  | esi (m s v : OA)
  | ess (m s v : OA)
  | app (sz bytes : Nat) (s x : OA)
  | cls (z : AV) (x : OA)
  | b2s (x : OA)
  | rg (x : OA)
  | nxs (it : OA)

abbrev KW := AV → H → Res

noncomputable def isMp (x : AV) (k : Nat → Res) (z : Res) : Res := AV.rec (motive := fun _ => (Nat → Res) → Res → Res) (fun _ _ => .fail 80) (fun _ => fun _ _ => .fail 80) (fun _ => fun _ _ => .fail 80) (fun _ => fun _ _ => .fail 80) (fun _ _ => fun _ _ => .fail 80) (fun _ _ => fun _ _ => .fail 80) (fun _ _ => fun _ _ => .fail 80) (fun _ _ => .fail 80) (fun _ _ _ _ _ => fun _ _ => .fail 80) (fun _ _ => .fail 80) (fun _ _ => .fail 80) (fun b k _ => k b) (fun _ z => z) (fun _ _ _ _ _ => fun _ _ => .fail 80) (fun _ _ => .fail 80) (fun _ _ => fun _ _ => .fail 80) (fun _ _ => fun _ _ => .fail 80) (fun _ _ => .fail 80) (fun _ _ _ _ => fun _ _ => .fail 80) x k z
theorem isMp_or {x : AV} {k : Nat → Res} {z : Res} (h : (isMp x k z).good) : (∃ b, x = .mp b ∧ (k b).good) ∨ (x = .nm ∧ z.good) := by
  cases x <;> first | exact .inl ⟨_, rfl, h⟩ | exact .inr ⟨rfl, h⟩ | exact absurd h Res.not_good_fail

noncomputable def imK (ao : AO) (k : PT AV → Nat → Nat → Res) : Res :=
  AO.rec (motive := fun _ => (PT AV → Nat → Nat → Res) → Res) (fun _ _ _ _ => .fail 81) (fun t c hi k => k t c hi) (fun _ _ _ => .fail 81) (fun _ _ _ _ => .fail 81) ao k
theorem imK_good {ao : AO} {k : PT AV → Nat → Nat → Res} (h : (imK ao k).good) : ∃ t c hi, ao = .im t c hi ∧ (k t c hi).good := by
  cases ao <;> first | exact ⟨_, _, _, rfl, h⟩ | exact absurd h Res.not_good_fail
noncomputable def smK (ao : AO) (k : AV → Nat → Res) : Res :=
  AO.rec (motive := fun _ => (AV → Nat → Res) → Res) (fun _ _ _ _ => .fail 82) (fun _ _ _ _ => .fail 82) (fun l c k => k l c) (fun _ _ _ _ => .fail 82) ao k
theorem smK_good {ao : AO} {k : AV → Nat → Res} (h : (smK ao k).good) : ∃ l c, ao = .sm l c ∧ (k l c).good := by
  cases ao <;> first | exact ⟨_, _, rfl, h⟩ | exact absurd h Res.not_good_fail
noncomputable def siK (ao : AO) (k : Nat → Nat → Nat → Res) : Res :=
  AO.rec (motive := fun _ => (Nat → Nat → Nat → Res) → Res) (fun _ _ _ _ => .fail 83) (fun _ _ _ _ => .fail 83) (fun _ _ _ => .fail 83) (fun l b p k => k l b p) ao k
theorem siK_good {ao : AO} {k : Nat → Nat → Nat → Res} (h : (siK ao k).good) : ∃ l b p, ao = .si l b p ∧ (k l b p).good := by
  cases ao <;> first | exact ⟨_, _, _, rfl, h⟩ | exact absurd h Res.not_good_fail

/-- An entry of a map of int keys: its value and birth. -/
noncomputable def pairK (x : AV) (k : AV → Nat → Res) : Res := isTu x fun l => consK l (fun a r => consK r (fun b _ => isP b (fun b => k a b) (.fail 84)) (.fail 84) (.fail 84)) (.fail 84) (.fail 84)
theorem pairK_good {a' : AV} {b' : Nat} {k : AV → Nat → Res} (h : (pairK (.tu (.cons a' (.cons (.p b') .nil))) k).good) : (k a' b').good := h

noncomputable def finK (ok : Bool) (a : AV) (there : Bool) (h : H) (k : KW) : Res := Bool.rec (motive := fun _ => Res) (k a h) (k (.tu (.cons a (.cons (.b there) .nil))) h) ok

noncomputable def repK (m : Nat) (z : AV) (k : AV → Res) : Res := Nat.rec (motive := fun _ => (AV → Res) → Res) (fun k => k .nil) (fun _ ih k => ih fun l => k (.cons z l)) m k

/-- Bytes, as a number. -/
noncomputable def bytesK (l : AV) (i acc : Nat) (k : Nat → Nat → Res) : Res :=
  AV.rec (motive := fun _ => Nat → Nat → (Nat → Nat → Res) → Res) (fun _ _ _ => .fail 85) (fun _ _ _ _ => .fail 85) (fun _ _ _ _ => .fail 85) (fun _ _ _ _ => .fail 85) (fun _ _ _ _ _ => .fail 85) (fun _ _ _ _ _ => .fail 85) (fun _ _ _ _ _ => .fail 85)
    (fun _ _ _ => .fail 85) (fun _ _ _ _ _ _ _ _ => .fail 85) (fun _ _ _ => .fail 85) (fun _ _ _ => .fail 85) (fun _ _ _ _ => .fail 85) (fun _ _ _ => .fail 85) (fun _ _ _ _ _ _ _ _ => .fail 85) (fun _ _ _ => .fail 85) (fun _ _ _ _ _ => .fail 85) (fun _ _ _ _ _ => .fail 85)
    (fun i acc k => k i acc) (fun a _ _ ih i acc k => isW a (fun kd m => iteK (Nat.beq (kcode kd) 4) (iteK (Nat.ble m 255) (forceN (Nat.add acc (Nat.shiftLeft m (Nat.mul 8 i))) fun acc => forceN (Nat.succ i) fun i => ih i acc k) (.fail 85)) (.fail 85)) (.fail 85)) l i acc k

noncomputable def wSt (x : OA) (m : Nat) (v : OA) (e : Env) (h : H) (k : KW) : Res := oK x (fun p => isPt p fun b o => oK v (fun v => cellsK v fun cs => storeK cs b o m h fun h' => k .u h') e) e
noncomputable def wAl (cells : AV) (_ : Env) (h : H) (k : KW) : Res := newRowK cells h fun b _ h' => k (.pt b 0) h'
noncomputable def wBx (v : OA) (e : Env) (h : H) (k : KW) : Res := oK v (fun v => cellsK v fun cs => newRowK cs h fun b _ h' => k (.pt b 0) h') e
noncomputable def wBs (zero : AV) (len : Nat) (ps : List (Nat × Nat × OA)) (e : Env) (h : H) (k : KW) : Res := bdK ps zero e fun v => isAg v fun cs => newRowK cs h fun b _ h' => k (.sl b 0 len len 0) h'
noncomputable def wMs (df : AV) (bytes : Nat) (len cap : OA) (e : Env) (h : H) (k : KW) : Res :=
  oK len (fun l => isP l (fun l => oK cap (fun c => isP c (fun c => iteK (Nat.ble l c) (iteK (Nat.ble c top63) (iteK (Nat.ble (Nat.mul bytes c) bound47) (newK h (.row c .nil df) fun b h' => k (.sl b 0 l c 0) h') (.fail 86)) (.fail 86)) (.fail 86)) (.fail 86)) e) (.fail 86)) e
noncomputable def wMkm (str : Bool) (_ : Env) (h : H) (k : KW) : Res := Bool.rec (motive := fun _ => Res) (newK h (.im .nil 0 0) fun b h' => k (.mp b) h') (newK h (.sm .nil 0) fun b h' => k (.mp b) h') str
noncomputable def wLki (zero : AV) (m key : OA) (ok : Bool) (e : Env) (h : H) (k : KW) : Res :=
  oK m (fun m => isMp m (fun b => atK h b fun ao => imK ao fun t _ _ => oK key (fun kv => isP kv (fun q => PT.getK t q (fun x => pairK x fun a _ => finK ok a true h k) (finK ok zero false h k)) (.fail 87)) e)
    (oK key (fun kv => isP kv (fun _ => finK ok zero false h k) (.fail 87)) e)) e
noncomputable def wLks (zero : AV) (m key : OA) (ok : Bool) (e : Env) (h : H) (k : KW) : Res :=
  oK m (fun m => isMp m (fun b => atK h b fun ao => smK ao fun l _ => oK key (fun kv => isS kv (fun len bits => smGetK l len bits (fun a _ => finK ok a true h k) (finK ok zero false h k)) (.fail 88)) e)
    (oK key (fun kv => isS kv (fun _ _ => finK ok zero false h k) (.fail 88)) e)) e
noncomputable def wMui (m key v : OA) (e : Env) (h : H) (k : KW) : Res :=
  oK m (fun m => isMp m (fun b => atK h b fun ao => imK ao fun t c hi => oK key (fun kv => isP kv (fun q => oK v (fun v =>
    PT.getK t q (fun x => pairK x fun _ born => PT.updK 40 t q (some (.tu (.cons v (.cons (.p born) .nil)))) fun t' => putK h b (.im t' c hi) fun h' => k .u h')
      (PT.updK 40 t q (some (.tu (.cons v (.cons (.p c) .nil)))) fun t' => forceN (Nat.succ c) fun c' => putK h b (.im t' c' hi) fun h' => k .u h')) e) (.fail 89)) e) (.fail 89)) e
noncomputable def wMus (m key v : OA) (e : Env) (h : H) (k : KW) : Res :=
  oK m (fun m => isMp m (fun b => atK h b fun ao => smK ao fun l c => oK key (fun kv => isS kv (fun len bits => oK v (fun v =>
    smPutK l len bits v c (fun l' => putK h b (.sm l' c) fun h' => k .u h') (fun l' => forceN (Nat.succ c) fun c' => putK h b (.sm l' c') fun h' => k .u h')) e) (.fail 90)) e) (.fail 90)) e
noncomputable def wMei (zero : AV) (m key : OA) (e : Env) (h : H) (k : KW) : Res :=
  oK m (fun m => isMp m (fun b => atK h b fun ao => imK ao fun t c _ => oK key (fun kv => isP kv (fun q =>
    PT.getK t q (fun x => putK h b (.im t c q) fun h' => k x h')
      (PT.updK 40 t q (some (.tu (.cons zero (.cons (.p c) .nil)))) fun t' => forceN (Nat.succ c) fun c' => putK h b (.im t' c' q) fun h' => k (.tu (.cons zero (.cons (.p c) .nil))) h')) (.fail 91)) e) (.fail 91)) e
noncomputable def wMes (zero : AV) (m key : OA) (e : Env) (h : H) (k : KW) : Res :=
  oK m (fun m => isMp m (fun b => atK h b fun ao => smK ao fun l c => oK key (fun kv => isS kv (fun len bits =>
    smGetK l len bits (fun a born => k (.tu (.cons a (.cons (.p born) .nil))) h)
      (smPutK l len bits zero c (fun _ => .fail 92) (fun l' => forceN (Nat.succ c) fun c' => putK h b (.sm l' c') fun h' => k (.tu (.cons zero (.cons (.p c) .nil))) h'))) (.fail 92)) e) (.fail 92)) e
noncomputable def wEsi (m s v : OA) (e : Env) (h : H) (k : KW) : Res :=
  oK m (fun m => isMp m (fun b => atK h b fun ao => imK ao fun t c hi => oK s (fun sv => isP sv (fun sb => oK v (fun v =>
    PT.getK t hi (fun x => pairK x fun _ born => iteK (Nat.beq sb born) (PT.updK 40 t hi (some (.tu (.cons v (.cons (.p born) .nil)))) fun t' => putK h b (.im t' c hi) fun h' => k .u h') (.fail 93)) (.fail 93)) e) (.fail 93)) e) (.fail 93)) e
noncomputable def wEss (m s v : OA) (e : Env) (h : H) (k : KW) : Res :=
  oK m (fun m => isMp m (fun b => atK h b fun ao => smK ao fun l c => oK s (fun sv => isP sv (fun sb => oK v (fun v => smBornK l sb v fun l' => putK h b (.sm l' c) fun h' => k .u h') e) (.fail 94)) e) (.fail 94)) e
noncomputable def wApp (sz bytes : Nat) (s x : OA) (e : Env) (h : H) (k : KW) : Res := oK s (fun s => oK x (fun x => appK s x sz bytes h k) e) e
noncomputable def wCls (z : AV) (x : OA) (e : Env) (h : H) (k : KW) : Res :=
  oK x (fun x => isSl x (fun b o n _ _ => Nat.rec (motive := fun _ => Res) (k (.tu .nil) h) (fun n1 _ => repK (Nat.succ n1) z fun cs => storeK cs b o (Nat.succ n1) h fun h' => k (.tu .nil) h') n) (k (.tu .nil) h)) e
noncomputable def wB2s (x : OA) (e : Env) (h : H) (k : KW) : Res := oK x (fun x => elemsK x 1 h fun l _ => bytesK l 0 0 fun len bits => k (.s len bits) h) e
noncomputable def wRg (x : OA) (e : Env) (h : H) (k : KW) : Res := oK x (fun x => isS x (fun len bits => newK h (.si len bits 0) fun b h' => k (.pt b 0) h') (.fail 95)) e
noncomputable def wNxs (it : OA) (e : Env) (h : H) (k : KW) : Res :=
  oK it (fun it => isPt it fun b o => iteK (Nat.beq o 0) (atK h b fun ao => siK ao fun len bits pos =>
    Bool.rec (motive := fun _ => Res) (k (.tu (.cons (.b false) .nil)) h)
      (forceN (Nat.mod (Nat.shiftRight bits (Nat.mul 8 pos)) 256) fun c => iteK (Nat.ble c 127) (forceN (Nat.succ pos) fun pos' => putK h b (.si len bits pos') fun h' => k (.tu (.cons (.b true) (.cons (.p pos) (.cons (.w .i32 c) .nil)))) h') (.fail 96))
      (Nat.ble (Nat.succ pos) len)) (.fail 96)) e

noncomputable def hW (w : WOp) : Env → H → KW → Res :=
  WOp.rec wSt wAl wBx wBs wMs wMkm wLki wLks wMui wMus wMei wMes wEsi wEss wApp wCls wB2s wRg wNxs w

/-- The kind of a map's keys. -/
def keyKind (P : Program) (t : TypeId) : Option (Bool × TypeId × TypeId) :=
  match P.underlying t with
  | some (.map k e) => (match P.underlying k with | some (.int _) => some (false, k, e) | some .string => some (true, k, e) | _ => none)
  | _ => none

def zeroAV (P : Program) (t : TypeId) : Option AV := (zeroOf P t).bind constAV

def compW (P : Program) (o : Oper) : Option WOp :=
  match o.op with
  | .store t x v => match szOf P t, opndOf x, opndOf v with | some m, some x', some v' => some (.st x' m v') | _, _, _ => none
  | .alloc t => match (zeroOf P t).bind fun z => constL z.cells.toList with | some l => some (.al l) | none => none
  | .box _ v => (opndOf v).map .bx
  | .buildSlice t len ps =>
    match P.underlying t with
    | some (.slice el) =>
      match szOf P el, zeroOf P el with
      | some s, some z =>
        if len = 0 ∧ ps.toList.isEmpty = true then some (.bs .nil 0 []) else
        if len * s > 2 ^ 24 ∨ len * s = 0 ∨ z.cells.size = 0 then none else
        match constL ((Array.range (len * s)).map (z.cells[· % z.cells.size]!)).toList, partsOf (fun i => some (i * s, s)) ps.toList with
        | some l, some ps' => some (.bs l len ps')
        | _, _ => none
      | _, _ => none
    | _ => none
  | .makeSlice t l c =>
    match P.underlying t, opndOf l, opndOf c with
    | some (.slice el), some l', some c' =>
      match P.info? el with
      | some i => match i.zero.bind constAV1 with | some z => if i.size = 1 then some (.ms z i.bytes l' c') else none | none => none
      | none => none
    | _, _, _ => none
  | .makeMap t r => match keyKind P t with | some (b, _, _) => if r.all fun x => (match x with | .const (.int _ _) => true | _ => false) then some (.mkm b) else none | none => none
  | .lookup t m k ok =>
    match keyKind P t, opndOf m, opndOf k with
    | some (b, _, e), some m', some k' => match zeroAV P e with | some z => some (if b then .lks z m' k' ok else .lki z m' k' ok) | none => none
    | _, _, _ => none
  | .mapUpdate t m k v =>
    match keyKind P t, opndOf m, opndOf k, opndOf v with
    | some (b, _, _), some m', some k', some v' => some (if b then .mus m' k' v' else .mui m' k' v')
    | _, _, _, _ => none
  | .mapEntry t m k =>
    match keyKind P t, opndOf m, opndOf k with
    | some (b, _, e), some m', some k' => match zeroAV P e with | some z => some (if b then .mes z m' k' else .mei z m' k') | none => none
    | _, _, _ => none
  | .entryStore t m s v =>
    match keyKind P t, opndOf m, opndOf s, opndOf v with
    | some (b, _, _), some m', some s', some v' => some (if b then .ess m' s' v' else .esi m' s' v')
    | _, _, _, _ => none
  | .call { callee := .builtin .append, args := xs, argTypes := ts } =>
    match xs.toList, ts.toList with
    | [s, x], [t, t'] =>
      if t = t' then
        match P.underlying t, opndOf s, opndOf x with
        | some (.slice el), some s', some x' => match P.info? el with | some i => if (i.zero.map fun z => z.cells.size) = some i.size then some (.app i.size i.bytes s' x') else none | none => none
        | _, _, _ => none
      else none
    | _, _ => none
  | .call { callee := .builtin .clear, args := xs, argTypes := ts } =>
    match xs.toList, (ts[0]?).bind P.underlying with
    | [x], some (.slice el) => match opndOf x, (zeroOf P el).bind constAV1 with | some x', some z => some (.cls z x') | _, _ => none
    | _, _ => none
  | .convert src dst x =>
    match P.underlying src, P.underlying dst, opndOf x with
    | some (.slice el), some .string, some x' => match P.underlying el with | some (.int .u8) => some (.b2s x') | _ => none
    | _, _, _ => none
  | .range t x => match P.underlying t, opndOf x with | some .string, some x' => some (.rg x') | _, _ => none
  | .next it true => (opndOf it).map .nxs
  | _ => none

end Go.Ev
