/-
  An abstract evaluator for Go code under the model: open runs: values of which only a name is known; calls and loops by what is proved of them.
-/
import Derived.Test.YtceplogmemkblaaGreatEvX
namespace Go.Ev

/-! ### Numbers under a name -/

def zAV (z : Int) : AV := match z with | .ofNat m => .p m | .negSucc m => .n m
theorem mkZ_eq (z : Int) (k : AV → Res) : mkZ .i64 z k = k (zAV z) := by
  cases z with
  | ofNat m => show forceN m (fun m => mkPos .i64 m k) = _; rw [forceN_eq]; rfl
  | negSucc m => show forceN m (fun m => mkNeg .i64 m k) = _; rw [forceN_eq]; rfl
theorem zK_zAV (z : Int) (k : IntKind → Int → Res) : zK (zAV z) k = k .i64 z := by cases z <;> rfl
theorem zAV_nat (m : Nat) : zAV (m : Int) = .p m := rfl
theorem zAV_negSucc (m : Nat) : zAV (Int.negSucc m) = .n m := rfl
theorem zAV_VR (z : Int) (μ : Nat → Nat) (nx : Nat) (w : World) (v : Value) : VR μ nx w (zAV z) v ↔ v = .int .i64 z := by cases z <;> exact Iff.rfl
theorem zAV_inj {a b : Int} (h : zAV a = zAV b) : a = b := by
  cases a <;> cases b <;> first | (injection h with h; rw [h]) | cases h

class IsZ (x : AV) (z : outParam Int) : Prop where
  eq : x = zAV z
instance (z : Int) : IsZ (zAV z) z := ⟨rfl⟩
instance (m : Nat) : IsZ (.p m) (m : Int) := ⟨rfl⟩
instance (m : Nat) : IsZ (.n m) (Int.negSucc m) := ⟨rfl⟩

theorem slow_z {op : BinOp} {a b r : Int} (k : AV → Res) (h : binZ op .i64 a .i64 b = some (.i64, r)) : slowBin op (zAV a) (zAV b) k = k (zAV r) := by
  unfold slowBin
  rw [zK_zAV, zK_zAV, h]
  exact mkZ_eq r k
theorem okP_z {m : Nat} (k : AV → Res) (h : m ≤ top63) : okP m k = k (.p m) := by
  unfold okP
  rw [forceN_eq, iteK_eq, if_pos (Nat.ble_eq_true_of_le h)]
theorem okN_z {m : Nat} (k : AV → Res) (h : m ≤ top63) : okN m k = k (.n m) := by
  unfold okN
  rw [forceN_eq, iteK_eq, if_pos (Nat.ble_eq_true_of_le h)]
theorem arK_z {f : Nat → Nat → (AV → Res) → Res} {op : BinOp} {a b r : Int} (k : AV → Res) (h : binZ op .i64 a .i64 b = some (.i64, r)) (hf : ∀ m n : Nat, a = m → b = n → f m n k = k (zAV r)) :
    arK f op (zAV a) (zAV b) k = k (zAV r) := by
  cases a with
  | ofNat m =>
    cases b with
    | ofNat n => exact hf m n rfl rfl
    | negSucc n => exact slow_z k h
  | negSucc m => exact slow_z k h

/-! ### Calls and loops by what is proved -/

section
variable {P : Program}

open Classical in
/-- Calls: whatever is proved of one. -/
noncomputable def ckU (P : Program) : CK := fun f l h k => if ∃ v h', CSem P f l h v h' ∧ (k v h').good then .ok .u h else .fail 0
theorem ckU_sem (P : Program) : SemF P (ckU P) := by
  intro f l h k hg
  unfold ckU at hg
  split at hg
  · assumption
  · exact absurd hg Res.not_good_fail
open Classical in
/-- Code and rounds of loops: whatever is proved of them. -/
noncomputable def ihU (P : Program) : IH := fun ac e h k =>
  if (∀ nt c, cmpC P nt c = some ac → ∃ x e' h', CodeS P nt c e h x e' h' ∧ (k x e' h').good) ∧ (∀ nt c a, ac = .loop a → cmpC P nt c = some a → ∃ x e' h', LoopS P nt c e h x e' h' ∧ (k x e' h').good) then .ok .u h else .fail 0
theorem ihU_sem (P : Program) : SemI P (ihU P) where
  code nt c ac e h k hc hg := by
    unfold ihU at hg
    split at hg
    · rename_i q; exact q.1 nt c hc
    · exact absurd hg Res.not_good_fail
  loop nt c a e h k hc hg := by
    unfold ihU at hg
    split at hg
    · rename_i q; exact q.2 nt c a rfl hc
    · exact absurd hg Res.not_good_fail
end
end Go.Ev
namespace Go.Ev
noncomputable section

/-- The inner operations. -/
structure Mac where
  fo : Nat → (Nat → Res) → Res
  bin : BinOp → AV → AV → (AV → Res) → Res
  eq : AV → AV → Bool
  ce : AV → (AV → Res) → Res
  ap : AV → AV → Nat → Nat → H → (AV → H → Res) → Res
  el : AV → Nat → H → (AV → Nat → Res) → Res
  by' : AV → Nat → Nat → (Nat → Nat → Res) → Res
  cv : IntKind → AV → (AV → Res) → Res
  ng : OA → Env → (AV → Res) → Res
  cls : AV → OA → Env → H → KW → Res
  mei : AV → OA → OA → Env → H → KW → Res
  mes : AV → OA → OA → Env → H → KW → Res
  esi : OA → OA → OA → Env → H → KW → Res
  ess : OA → OA → OA → Env → H → KW → Res
  nxs : OA → Env → H → KW → Res
  ix : AV → (Nat → Res) → Res
  isp : AV → (Nat → Res) → Res → Res
  ga : PT AV → Nat → (AV → Res) → Res → Res
  go : PT AO → Nat → (AO → Res) → Res → Res
  ua : Nat → PT AV → Nat → Option AV → (PT AV → Res) → Res
  uo : Nat → PT AO → Nat → Option AO → (PT AO → Res) → Res
  ck : CK
  ih : IH
def stdM (P : Program) : Mac where
  fo := forceN
  bin := binK
  eq := eqA
  ce := cellsK
  ap := appK
  el := elemsK
  by' := bytesK
  cv := cvK
  ng := hNg
  cls := wCls
  mei := wMei
  mes := wMes
  esi := wEsi
  ess := wEss
  nxs := wNxs
  ix := idxK
  isp := isP
  ga := PT.getK
  go := PT.getK
  ua := PT.updK
  uo := PT.updK
  ck := ckU P
  ih := ihU P

def optKG (M : Mac) (x : Option OA) (d : Nat) (k : Nat → Res) (e : Env) : Res := Option.rec (motive := fun _ => Nat → (Nat → Res) → Env → Res) (fun d k _ => k d) (fun x _ k e => oK x (fun v => M.ix v k) e) x d k e
def hSlsG (M : Mac) (x : OA) (lo hi : Option OA) (e : Env) (k : AV → Res) : Res :=
  oK x (fun x => isS x (fun len bits => (optKG M) hi len (fun h => (optKG M) lo 0 (fun l =>
    iteK (Nat.ble l h) (iteK (Nat.ble h len) (M.fo (Nat.sub h l) fun n => M.fo (Nat.mod (Nat.shiftRight bits (Nat.mul 8 l)) (Nat.pow 2 (Nat.mul 8 n))) fun b => k (.s n b)) (.fail 47)) (.fail 47)) e) e) (.fail 47)) e
def hSlxG (M : Mac) (x : OA) (lo hi mx : Option OA) (sz : Nat) (e : Env) (k : AV → Res) : Res :=
  oK x (fun x => isEz x ((optKG M) hi 0 (fun h => (optKG M) lo 0 (fun l => iteK (Nat.beq h 0) (iteK (Nat.beq l 0) (Option.rec (motive := fun _ => Res) (k .ez) (fun m => oK m (fun m => M.ix m fun m => iteK (Nat.beq m 0) (k .ez) (.fail 49)) e) mx) (.fail 49)) (.fail 49)) e) e)
    (isSl x (fun b o len cap st => (optKG M) hi len (fun h => (optKG M) lo 0 (fun l =>
    iteK (Nat.ble l h)
      (Option.rec (motive := fun _ => Res)
        (iteK (Nat.ble h cap) (Nat.rec (motive := fun _ => Res)
            (M.fo (Nat.add o (Bool.rec (Nat.mul l sz) 0 (Nat.beq cap l))) fun o => M.fo (Nat.sub h l) fun n => M.fo (Nat.sub cap l) fun c => k (.sl b o n c 0))
            (fun st1 _ => iteK (Nat.beq st1 sz) (iteK (Bool.or (Nat.beq l 0) (Nat.ble (Nat.succ l) cap)) (M.fo (Nat.add o (Nat.mul l sz)) fun o => M.fo (Nat.sub h l) fun n => M.fo (Nat.sub cap l) fun c => k (.sl b o n c (Nat.succ st1))) (k .ez)) (.fail 48)) st) (.fail 48))
        (fun m => oK m (fun m => M.ix m fun m => iteK (Nat.ble h m) (iteK (Nat.ble m cap)
            (M.fo (Nat.add o (Bool.rec (Nat.mul l sz) 0 (Nat.beq m l))) fun o => M.fo (Nat.sub h l) fun n => M.fo (Nat.sub m l) fun c => k (.sl b o n c 0)) (.fail 48)) (.fail 48)) e) mx)
      (.fail 48)) e) e)
    ((optKG M) hi 0 (fun h => (optKG M) lo 0 (fun l => Option.rec (motive := fun _ => Res) (iteK (Nat.beq h 0) (iteK (Nat.beq l 0) (k .ns) (.fail 49)) (.fail 49)) (fun m => oK m (fun m => M.ix m fun m => iteK (Nat.beq m 0) (iteK (Nat.beq h 0) (iteK (Nat.beq l 0) (k .ns) (.fail 49)) (.fail 49)) (.fail 49)) e) mx) e) e))) e
def bdKG (M : Mac) (ps : List (Nat × Nat × OA)) : AV → Env → (AV → Res) → Res :=
  List.rec (motive := fun _ => AV → Env → (AV → Res) → Res) (fun l _ k => k (.ag l)) (fun p _ ih l e k => oK p.2.2 (fun v => M.ce v fun cs => splK p.1 p.2.1 cs l fun l => ih l e k) e) ps
def hBinG (M : Mac) (op : BinOp) (x y : OA) (e : Env) (k : AV → Res) : Res := oK x (fun vx => oK y (fun vy => M.bin op vx vy k) e) e
def hFaG (M : Mac) (x : OA) (off : Nat) (e : Env) (k : AV → Res) : Res := oK x (fun v => isPt v fun b o => M.fo (Nat.add o off) fun o => k (.pt b o)) e
def hIaG (M : Mac) (x i : OA) (sz : Nat) (e : Env) (k : AV → Res) : Res :=
  oK x (fun v => isSl v (fun b o len _ _ => oK i (fun i => M.ix i fun i => iteK (Nat.ble (Nat.succ i) len) (M.fo (Nat.add o (Nat.mul i sz)) fun o => k (.pt b o)) (.fail 53)) e) (.fail 53)) e
def hIaaG (M : Mac) (x i : OA) (len sz : Nat) (e : Env) (k : AV → Res) : Res :=
  oK x (fun v => isPt v fun b o => oK i (fun i => M.ix i fun i => iteK (Nat.ble (Nat.succ i) len) (M.fo (Nat.add o (Nat.mul i sz)) fun o => k (.pt b o)) (.fail 54)) e) e
def hIxsG (M : Mac) (x i : OA) (e : Env) (k : AV → Res) : Res :=
  oK x (fun v => isS v (fun len bits => oK i (fun i => M.ix i fun i => iteK (Nat.ble (Nat.succ i) len) (M.fo (Nat.mod (Nat.shiftRight bits (Nat.mul 8 i)) 256) fun c => k (.w .u8 c)) (.fail 55)) e) (.fail 55)) e
def hBdG (M : Mac) (zero : AV) (ps : List (Nat × Nat × OA)) (e : Env) (k : AV → Res) : Res := (bdKG M) ps zero e k
def hCvG (M : Mac) (kd : IntKind) (x : OA) (e : Env) (k : AV → Res) : Res := oK x (fun v => M.cv kd v k) e
def hPG (M : Mac) (p : POp) : Env → (AV → Res) → Res :=
  POp.rec hMv hPick hNck (hBinG M) hEqv hNt M.ng (hFaG M) hFd hFdn (hIaG M) (hIaaG M) (hIxsG M) (hSlsG M) (hSlxG M) hEx (hBdG M) hMf (hCvG M) hLnS hLnX hMm p
def cellKG (M : Mac) (t : PT AV) (df : AV) (i : Nat) (k : AV → Res) : Res := M.ga t i k (k df)
def cellsOfKG (M : Mac) (t : PT AV) (df : AV) (m : Nat) : Nat → (AV → Res) → Res :=
  Nat.rec (motive := fun _ => Nat → (AV → Res) → Res) (fun _ k => k .nil) (fun _ ih i k => (cellKG M) t df i fun v => M.fo (Nat.succ i) fun i => ih i fun l => k (.cons v l)) m
def atKG (M : Mac) (h : H) (b : Nat) (k : AO → Res) : Res := H.rec (motive := fun _ => Nat → (AO → Res) → Res) (fun t _ b k => M.go t b k (.fail 61)) h b k
def putKG (M : Mac) (h : H) (b : Nat) (ao : AO) (k : H → Res) : Res := H.rec (motive := fun _ => Nat → AO → (H → Res) → Res) (fun t nx b ao k => M.uo 40 t b (some ao) fun t' => k ⟨t', nx⟩) h b ao k
def newKG (M : Mac) (h : H) (ao : AO) (k : Nat → H → Res) : Res :=
  H.rec (motive := fun _ => AO → (Nat → H → Res) → Res) (fun t nx ao k => M.uo 40 t nx (some ao) fun t' => M.fo (Nat.succ nx) fun nx' => k nx ⟨t', nx'⟩) h ao k
def hLG (M : Mac) (l : LOp) (e : Env) (h : H) (k : AV → Res) : Res :=
  LOp.rec (motive := fun _ => Env → H → (AV → Res) → Res)
    (fun x e h k => oK x (fun v => isPt v fun b o => (atKG M) h b fun ao => rowK ao fun m t df => iteK (Nat.ble (Nat.succ o) m) ((cellKG M) t df o k) (.fail 62)) e)
    (fun x n e h k => oK x (fun v => isPt v fun b o => (atKG M) h b fun ao => rowK ao fun m t df => iteK (Nat.ble (Nat.add o n) m) ((cellsOfKG M) t df n o fun l => k (.ag l)) (.fail 62)) e) l e h k
def putsKG (M : Mac) (cs : AV) : Nat → PT AV → (Nat → PT AV → Res) → Res :=
  AV.rec (motive := fun _ => Nat → PT AV → (Nat → PT AV → Res) → Res) (fun _ _ _ => .fail 63) (fun _ _ _ _ => .fail 63) (fun _ _ _ _ => .fail 63) (fun _ _ _ _ => .fail 63) (fun _ _ _ _ _ => .fail 63) (fun _ _ _ _ _ => .fail 63) (fun _ _ _ _ _ => .fail 63)
    (fun _ _ _ => .fail 63) (fun _ _ _ _ _ _ _ _ => .fail 63) (fun _ _ _ => .fail 63) (fun _ _ _ => .fail 63) (fun _ _ _ _ => .fail 63) (fun _ _ _ => .fail 63) (fun _ _ _ _ _ _ _ _ => .fail 63) (fun _ _ _ => .fail 63) (fun _ _ _ _ _ => .fail 63) (fun _ _ _ _ _ => .fail 63)
    (fun i t k => k i t) (fun a _ _ ih i t k => M.ua 40 t i (some a) fun t' => M.fo (Nat.succ i) fun i' => ih i' t' k) cs
def newRowKG (M : Mac) (cs : AV) (h : H) (k : Nat → Nat → H → Res) : Res := (putsKG M) cs 0 .nil fun m t => (newKG M) h (.row m t .u) fun b h' => k b m h'
def storeKG (M : Mac) (cs : AV) (b o q : Nat) (h : H) (k : H → Res) : Res :=
  (atKG M) h b fun ao => rowK ao fun m t df => (putsKG M) cs o t fun n t' => iteK (Nat.beq n (Nat.add o q)) (iteK (Nat.ble n m) ((putKG M) h b (.row m t' df) k) (.fail 64)) (.fail 65)
def wStG (M : Mac) (x : OA) (m : Nat) (v : OA) (e : Env) (h : H) (k : KW) : Res := oK x (fun p => isPt p fun b o => oK v (fun v => M.ce v fun cs => (storeKG M) cs b o m h fun h' => k .u h') e) e
def wAlG (M : Mac) (cells : AV) (_ : Env) (h : H) (k : KW) : Res := (newRowKG M) cells h fun b _ h' => k (.pt b 0) h'
def wBxG (M : Mac) (v : OA) (e : Env) (h : H) (k : KW) : Res := oK v (fun v => M.ce v fun cs => (newRowKG M) cs h fun b _ h' => k (.pt b 0) h') e
def wBsG (M : Mac) (zero : AV) (len : Nat) (ps : List (Nat × Nat × OA)) (e : Env) (h : H) (k : KW) : Res := (bdKG M) ps zero e fun v => isAg v fun cs => (newRowKG M) cs h fun b _ h' => k (.sl b 0 len len 0) h'
def wMsG (M : Mac) (df : AV) (bytes : Nat) (len cap : OA) (e : Env) (h : H) (k : KW) : Res :=
  oK len (fun l => M.isp l (fun l => oK cap (fun c => M.isp c (fun c => iteK (Nat.ble l c) (iteK (Nat.ble c top63) (iteK (Nat.ble (Nat.mul bytes c) bound47) ((newKG M) h (.row c .nil df) fun b h' => k (.sl b 0 l c 0) h') (.fail 86)) (.fail 86)) (.fail 86)) (.fail 86)) e) (.fail 86)) e
def wMkmG (M : Mac) (str : Bool) (_ : Env) (h : H) (k : KW) : Res := Bool.rec (motive := fun _ => Res) ((newKG M) h (.im .nil 0 0) fun b h' => k (.mp b) h') ((newKG M) h (.sm .nil 0) fun b h' => k (.mp b) h') str
def wLkiG (M : Mac) (zero : AV) (m key : OA) (ok : Bool) (e : Env) (h : H) (k : KW) : Res :=
  oK m (fun m => isMp m (fun b => (atKG M) h b fun ao => imK ao fun t _ _ => oK key (fun kv => M.isp kv (fun q => M.ga t q (fun x => pairK x fun a _ => finK ok a true h k) (finK ok zero false h k)) (.fail 87)) e)
    (oK key (fun kv => M.isp kv (fun _ => finK ok zero false h k) (.fail 87)) e)) e
def wLksG (M : Mac) (zero : AV) (m key : OA) (ok : Bool) (e : Env) (h : H) (k : KW) : Res :=
  oK m (fun m => isMp m (fun b => (atKG M) h b fun ao => smK ao fun l _ => oK key (fun kv => isS kv (fun len bits => smGetK l len bits (fun a _ => finK ok a true h k) (finK ok zero false h k)) (.fail 88)) e)
    (oK key (fun kv => isS kv (fun _ _ => finK ok zero false h k) (.fail 88)) e)) e
def wMuiG (M : Mac) (m key v : OA) (e : Env) (h : H) (k : KW) : Res :=
  oK m (fun m => isMp m (fun b => (atKG M) h b fun ao => imK ao fun t c hi => oK key (fun kv => M.isp kv (fun q => oK v (fun v =>
    M.ga t q (fun x => pairK x fun _ born => M.ua 40 t q (some (.tu (.cons v (.cons (.p born) .nil)))) fun t' => (putKG M) h b (.im t' c hi) fun h' => k .u h')
      (M.ua 40 t q (some (.tu (.cons v (.cons (.p c) .nil)))) fun t' => M.fo (Nat.succ c) fun c' => (putKG M) h b (.im t' c' hi) fun h' => k .u h')) e) (.fail 89)) e) (.fail 89)) e
def wMusG (M : Mac) (m key v : OA) (e : Env) (h : H) (k : KW) : Res :=
  oK m (fun m => isMp m (fun b => (atKG M) h b fun ao => smK ao fun l c => oK key (fun kv => isS kv (fun len bits => oK v (fun v =>
    smPutK l len bits v c (fun l' => (putKG M) h b (.sm l' c) fun h' => k .u h') (fun l' => M.fo (Nat.succ c) fun c' => (putKG M) h b (.sm l' c') fun h' => k .u h')) e) (.fail 90)) e) (.fail 90)) e
def wAppG (M : Mac) (sz bytes : Nat) (s x : OA) (e : Env) (h : H) (k : KW) : Res := oK s (fun s => oK x (fun x => M.ap s x sz bytes h k) e) e
def wB2sG (M : Mac) (x : OA) (e : Env) (h : H) (k : KW) : Res := oK x (fun x => M.el x 1 h fun l _ => M.by' l 0 0 fun len bits => k (.s len bits) h) e
def wRgG (M : Mac) (x : OA) (e : Env) (h : H) (k : KW) : Res := oK x (fun x => isS x (fun len bits => (newKG M) h (.si len bits 0) fun b h' => k (.pt b 0) h') (.fail 95)) e
def hWG (M : Mac) (w : WOp) : Env → H → KW → Res :=
  WOp.rec (wStG M) (wAlG M) (wBxG M) (wBsG M) (wMsG M) (wMkmG M) (wLkiG M) (wLksG M) (wMuiG M) (wMusG M) M.mei M.mes M.esi M.ess (wAppG M) M.cls (wB2sG M) (wRgG M) M.nxs w
def hLOG (M : Mac) (l : LO) : Env → H → (AV → Res) → Res :=
  LO.rec (motive := fun _ => Env → H → (AV → Res) → Res) (fun x e h k => (hLG M) x e h k) (fun x e h k => (wB2sG M) x e h fun v _ => k v) l
def oPG (M : Mac) (p : POp) (_ck : CK) (e : Env) (h : H) (k : AV → H → Res) : Res := (hPG M) p e fun v => k v h
def oLG (M : Mac) (l : LO) (_ck : CK) (e : Env) (h : H) (k : AV → H → Res) : Res := (hLOG M) l e h fun v => k v h
def oWG (M : Mac) (w : WOp) (_ck : CK) (e : Env) (h : H) (k : AV → H → Res) : Res := (hWG M) w e h k
def opKG (M : Mac) (o : AOp) : CK → Env → H → (AV → H → Res) → Res := AOp.rec (oPG M) (oLG M) (oWG M) oS oVal o
def stepKG (M : Mac) (g : GD) (d : DD) (o : AOp) (ck : CK) (e : Env) (h : H) (k : Env → H → Res) : Res :=
  gdBK g ((opKG M) o ck e h fun v h' => ddK d v (fun e' => k e' h') e) (ddK d (.tu .nil) (fun e' => k e' h) e) e
def opsKG (M : Mac) (l : AOps) : CK → Env → H → (Env → H → Res) → Res :=
  AOps.rec (motive := fun _ => CK → Env → H → (Env → H → Res) → Res) (fun _ e h k => k e h)
    (fun d x _ ih ck e h k => Env.getK x (fun v => Env.setK d v (fun e => ih ck e h k) e) e)
    (fun d p _ ih ck e h k => (hPG M) p e fun v => Env.setK d v (fun e => ih ck e h k) e)
    (fun d x _ ih ck e h k => oK x (fun v => isPt v fun b o => (atKG M) h b fun ao => rowK ao fun m t df => iteK (Nat.ble (Nat.succ o) m) ((cellKG M) t df o fun v => Env.setK d v (fun e => ih ck e h k) e) (.fail 62)) e)
    (fun d f xs _ ih ck e h k => oLK xs e fun l => ck f l h fun v h => Env.setK d v (fun e => ih ck e h k) e)
    (fun g d o _ ih ck e h k => (stepKG M) g d o ck e h fun e h => ih ck e h k) l
def sameKG (M : Mac) (d : Ix) (e : Env) (k : Res) (v : AV) : Res := Env.getK d (fun v' => iteK (M.eq v v') k (.fail 105)) e
def cksKG (M : Mac) (c : CL) : Env → H → Res → Res :=
  CL.rec (motive := fun _ => Env → H → Res → Res) (fun _ _ k => k) (fun g l d _ ih e h k => gdBK g ((hLOG M) l e h ((sameKG M) d e (ih e h k))) ((sameKG M) d e (ih e h k) (.tu .nil)) e) c
def dlKG (M : Mac) (l : DL) : CK → Env → H → (Env → H → Res) → Res :=
  DL.rec (motive := fun _ => CK → Env → H → (Env → H → Res) → Res) (fun _ e h k => k e h)
    (fun g d o _ ih ck e h k => (stepKG M) g d o ck e h fun e h => ih ck e h k)
    (fun g d o cks _ ih ck e h k => (stepKG M) g d o ck e h fun e h => (cksKG M) cks e h (ih ck e h k))
    (fun d w cks _ ih ck e h k => (hWG M) w e h fun v h => ddK d v (fun e => (cksKG M) cks e h (ih ck e h k)) e) l
def cKG (M : Mac) (c : ACode) : CK → IH → Env → H → KX → Res :=
  ACode.rec (motive := fun _ => CK → IH → Env → H → KX → Res)
    (fun _ _ e h k => k .n e h)
    (fun l ck _ e h k => (opsKG M) l ck e h (k .n))
    (fun l ck _ e h k => (dlKG M) l ck e h (k .n))
    (fun _ _ ra rb ck ih e h k => ra ck ih e h (seqX rb ck ih k))
    (fun x _ _ ra rb ck ih e h k => oK x (fun v => isBs v (twoX ra rb ck ih e h k)) e)
    (fun id _ ra ck ih e h k => ra ck ih e h (blkX id k))
    (fun a _ _ ih e h k => ih (.loop a) e h k)
    (fun id _ _ e h k => k (.x id) e h)
    (fun _ _ e h k => k .r e h)
    (fun _ _ _ _ _ _ _ _ _ _ => .fail 0) c
def reKG (M : Mac) (r : RE) : Env → H → (AV → Res) → Res := RE.rec (motive := fun _ => Env → H → (AV → Res) → Res) (fun i e _ k => Env.getK i k e) (fun l e h k => (hLG M) l e h k) r
def getsKG (M : Mac) (l : List RE) : Env → H → (AV → Res) → Res :=
  List.rec (motive := fun _ => Env → H → (AV → Res) → Res) (fun _ _ k => k .nil) (fun i _ ih e h k => (reKG M) i e h fun v => ih e h fun r => k (.cons v r)) l
def resKG (M : Mac) (r : RSt) : Env → H → (AV → H → Res) → Res :=
  RSt.rec (motive := fun _ => Env → H → (AV → H → Res) → Res) (fun _ h k => k (.tu .nil) h) (fun i e h k => Env.getK i (fun v => k v h) e) (fun l e h k => (hLG M) l e h fun v => k v h) (fun l e h k => (getsKG M) l e h fun r => k (.tu r) h) r
def retXG (M : Mac) (rs : RSt) (k : AV → H → Res) : KX := fun x e h =>
  AEx.rec (motive := fun _ => RSt → Env → H → (AV → H → Res) → Res) (fun rs e h k => (resKG M) rs e h k) (fun _ _ _ _ _ => .fail 111) (fun rs e h k => (resKG M) rs e h k) x rs e h k

theorem retG_eq (P : Program) : retXG (stdM P) = retX := rfl
end
end Go.Ev
namespace Go.Ev

/-- The machine is the evaluator's. -/
class IsM (P : outParam Program) (M : Mac) : Prop where
  eq : M = stdM P

section ar
set_option maxRecDepth 100000
variable {x y : AV} {a b : Int} {k : AV → Res} {P : Program} {M : Mac}
theorem bin_add [hM : IsM P M] [hx : IsZ x a] [hy : IsZ y b] (h0 : -9223372036854775808 ≤ a + b) (h1 : a + b ≤ 9223372036854775807) (hk : (k (zAV (a + b))).good) : (M.bin .add x y k).good := by
  obtain rfl := hM.eq
  show (binK .add x y k).good
  obtain rfl := hx.eq; obtain rfl := hy.eq
  have e : binZ .add .i64 a .i64 b = some (.i64, a + b) := by
    show (if IntKind.i64 = .i64 then some (IntKind.i64, IntKind.i64.wrap (a + b)) else none) = _
    rw [if_pos rfl, wrap_in h0 h1]
  have e2 := arK_z (f := addP) k e (fun m n hm hn => by
    subst hm; subst hn
    have h2 : Nat.add m n ≤ top63 := by unfold top63; show m + n ≤ _; omega
    refine (okP_z k h2).trans ?_
    rw [← zAV_nat]
    exact congrArg (fun z => k (zAV z)) (Int.natCast_add m n))
  have : binK .add (zAV a) (zAV b) k = arK addP .add (zAV a) (zAV b) k := by
    show plusK _ _ _ = _
    unfold plusK
    rw [isS_eq]
    cases a <;> rfl
  rw [this, e2]; exact hk
theorem bin_sub [hM : IsM P M] [hx : IsZ x a] [hy : IsZ y b] (h0 : -9223372036854775808 ≤ a - b) (h1 : a - b ≤ 9223372036854775807) (hk : (k (zAV (a - b))).good) : (M.bin .sub x y k).good := by
  obtain rfl := hM.eq
  show (binK .sub x y k).good
  obtain rfl := hx.eq; obtain rfl := hy.eq
  have e : binZ .sub .i64 a .i64 b = some (.i64, a - b) := by
    show (if IntKind.i64 = .i64 then some (IntKind.i64, IntKind.i64.wrap (a - b)) else none) = _
    rw [if_pos rfl, wrap_in h0 h1]
  have e2 := arK_z (f := subP) k e (fun m n hm hn => by
    subst hm; subst hn
    unfold subP
    rw [iteK_eq]
    by_cases hle : n ≤ m
    · rw [if_pos (Nat.ble_eq_true_of_le hle), okP_z k (show Nat.sub m n ≤ 9223372036854775807 from (by omega : m - n ≤ 9223372036854775807)), ← zAV_nat]
      exact congrArg (fun z => k (zAV z)) (show ((m - n : Nat) : Int) = (m : Int) - n by omega)
    · rw [if_neg (fun q => hle (Nat.le_of_ble_eq_true q)), okN_z k (show Nat.sub (Nat.sub n m) 1 ≤ 9223372036854775807 from (by omega : n - m - 1 ≤ 9223372036854775807))]
      exact congrArg (fun z => k (zAV z)) (show Int.negSucc (n - m - 1) = (m : Int) - n by omega))
  show (arK subP .sub (zAV a) (zAV b) k).good
  rw [e2]; exact hk
theorem bin_mul [hM : IsM P M] [hx : IsZ x a] [hy : IsZ y b] (h0 : -9223372036854775808 ≤ a * b) (h1 : a * b ≤ 9223372036854775807) (hk : (k (zAV (a * b))).good) : (M.bin .mul x y k).good := by
  obtain rfl := hM.eq
  show (binK .mul x y k).good
  obtain rfl := hx.eq; obtain rfl := hy.eq
  have e : binZ .mul .i64 a .i64 b = some (.i64, a * b) := by
    show (if IntKind.i64 = .i64 then some (IntKind.i64, IntKind.i64.wrap (a * b)) else none) = _
    rw [if_pos rfl, wrap_in h0 h1]
  have e2 := arK_z (f := mulP) k e (fun m n hm hn => by
    subst hm; subst hn
    rw [← Int.natCast_mul] at h1 ⊢
    exact okP_z k (show m * n ≤ 9223372036854775807 by omega))
  show (arK mulP .mul (zAV a) (zAV b) k).good
  rw [e2]; exact hk
theorem bin_quo [hM : IsM P M] [hx : IsZ x a] [hy : IsZ y b] (hb : b ≠ 0) (h0 : -9223372036854775808 ≤ a.tdiv b) (h1 : a.tdiv b ≤ 9223372036854775807) (hk : (k (zAV (a.tdiv b))).good) : (M.bin .quo x y k).good := by
  obtain rfl := hM.eq
  show (binK .quo x y k).good
  obtain rfl := hx.eq; obtain rfl := hy.eq
  have e : binZ .quo .i64 a .i64 b = some (.i64, a.tdiv b) := by
    show (if IntKind.i64 = .i64 ∧ b ≠ 0 then some (IntKind.i64, IntKind.i64.wrap (a.tdiv b)) else none) = _
    rw [if_pos ⟨rfl, hb⟩, wrap_in h0 h1]
  have e2 := arK_z (f := quoP) k e (fun m n hm hn => by
    subst hm; subst hn
    have hd : ((m : Int).tdiv n) = ((m / n : Nat) : Int) := rfl
    rw [hd] at h1 ⊢
    unfold quoP
    rw [iteK_eq, if_pos (Nat.ble_eq_true_of_le (by omega))]
    exact okP_z k (show m / n ≤ 9223372036854775807 by omega))
  show (arK quoP .quo (zAV a) (zAV b) k).good
  rw [e2]; exact hk
theorem bin_rem [hM : IsM P M] [hx : IsZ x a] [hy : IsZ y b] (hb : b ≠ 0) (h1 : a.tmod b ≤ 9223372036854775807) (hk : (k (zAV (a.tmod b))).good) : (M.bin .rem x y k).good := by
  obtain rfl := hM.eq
  show (binK .rem x y k).good
  obtain rfl := hx.eq; obtain rfl := hy.eq
  have e : binZ .rem .i64 a .i64 b = some (.i64, a.tmod b) := by
    show (if IntKind.i64 = .i64 ∧ b ≠ 0 then some (IntKind.i64, a.tmod b) else none) = _
    rw [if_pos ⟨rfl, hb⟩]
  have e2 := arK_z (f := remP) k e (fun m n hm hn => by
    subst hm; subst hn
    have hd : ((m : Int).tmod n) = ((m % n : Nat) : Int) := rfl
    rw [hd] at h1 ⊢
    unfold remP
    rw [iteK_eq, if_pos (Nat.ble_eq_true_of_le (by omega))]
    exact okP_z k (show m % n ≤ 9223372036854775807 by omega))
  show (arK remP .rem (zAV a) (zAV b) k).good
  rw [e2]; exact hk

theorem cmpK_z {f : Nat → Nat → Bool} {op : BinOp} (hf : CmpS op f) {r : Bool} (h : cmpZ op .i64 a .i64 b = some r) (k : AV → Res) : cmpK f op (zAV a) (zAV b) k = k (.b r) := by
  have slow : slowCmp op (zAV a) (zAV b) k = k (.b r) := by
    unfold slowCmp
    rw [zK_zAV, zK_zAV, h]
    exact boolK_eq r k
  cases a with
  | ofNat m =>
    cases b with
    | ofNat n =>
      have : r = f m n := Option.some.inj (h.symm.trans (hf .i64 m n))
      subst this
      exact boolK_eq _ k
    | negSucc n => exact slow
  | negSucc m => exact slow
theorem cmpZ_i (op : BinOp) : cmpZ op .i64 a .i64 b = match op with
  | .eql => some (a == b) | .neq => some (a != b) | .lss => some (decide (a < b)) | .leq => some (decide (a ≤ b)) | .gtr => some (decide (a > b)) | .geq => some (decide (a ≥ b)) | _ => none := by
  unfold cmpZ
  rw [if_neg (by simp)]
  cases op <;> rfl
theorem bin_eql [hM : IsM P M] [hx : IsZ x a] [hy : IsZ y b] (h1 : a = b → (k (.b true)).good) (h0 : a ≠ b → (k (.b false)).good) : (M.bin .eql x y k).good := by
  obtain rfl := hM.eq
  show (binK .eql x y k).good
  obtain rfl := hx.eq; obtain rfl := hy.eq
  have : binK .eql (zAV a) (zAV b) k = cmpK Nat.beq .eql (zAV a) (zAV b) k := by
    show eqK _ _ _ = _
    unfold eqK
    rw [isS_eq]
    cases a <;> rfl
  rw [this, cmpK_z eq_cmp (r := decide (a = b)) (cmpZ_i .eql)]
  by_cases h : a = b
  · rw [decide_eq_true h]; exact h1 h
  · rw [decide_eq_false h]; exact h0 h
theorem bin_neq [hM : IsM P M] [hx : IsZ x a] [hy : IsZ y b] (h1 : a ≠ b → (k (.b true)).good) (h0 : a = b → (k (.b false)).good) : (M.bin .neq x y k).good := by
  obtain rfl := hM.eq
  show (binK .neq x y k).good
  obtain rfl := hx.eq; obtain rfl := hy.eq
  have : binK .neq (zAV a) (zAV b) k = cmpK (fun m n => Bool.not (Nat.beq m n)) .neq (zAV a) (zAV b) k := by
    show neK _ _ _ = _
    unfold neK
    rw [isS_eq]
    cases a <;> rfl
  rw [this, cmpK_z ne_cmp (r := !decide (a = b)) (cmpZ_i .neq)]
  by_cases h : a = b
  · rw [decide_eq_true h]; exact h0 h
  · rw [decide_eq_false h]; exact h1 h
theorem bin_lss [hM : IsM P M] [hx : IsZ x a] [hy : IsZ y b] (h1 : a < b → (k (.b true)).good) (h0 : b ≤ a → (k (.b false)).good) : (M.bin .lss x y k).good := by
  obtain rfl := hM.eq
  show (binK .lss x y k).good
  obtain rfl := hx.eq; obtain rfl := hy.eq
  show (cmpK _ .lss (zAV a) (zAV b) k).good
  rw [cmpK_z lt_cmp (r := decide (a < b)) (cmpZ_i .lss)]
  by_cases h : a < b
  · rw [decide_eq_true h]; exact h1 h
  · rw [decide_eq_false h]; exact h0 (by omega)
theorem bin_leq [hM : IsM P M] [hx : IsZ x a] [hy : IsZ y b] (h1 : a ≤ b → (k (.b true)).good) (h0 : b < a → (k (.b false)).good) : (M.bin .leq x y k).good := by
  obtain rfl := hM.eq
  show (binK .leq x y k).good
  obtain rfl := hx.eq; obtain rfl := hy.eq
  show (cmpK _ .leq (zAV a) (zAV b) k).good
  rw [cmpK_z le_cmp (r := decide (a ≤ b)) (cmpZ_i .leq)]
  by_cases h : a ≤ b
  · rw [decide_eq_true h]; exact h1 h
  · rw [decide_eq_false h]; exact h0 (by omega)
theorem bin_gtr [hM : IsM P M] [hx : IsZ x a] [hy : IsZ y b] (h1 : b < a → (k (.b true)).good) (h0 : a ≤ b → (k (.b false)).good) : (M.bin .gtr x y k).good := by
  obtain rfl := hM.eq
  show (binK .gtr x y k).good
  obtain rfl := hx.eq; obtain rfl := hy.eq
  show (cmpK _ .gtr (zAV a) (zAV b) k).good
  rw [cmpK_z gt_cmp (r := decide (b < a)) (cmpZ_i .gtr)]
  by_cases h : b < a
  · rw [decide_eq_true h]; exact h1 h
  · rw [decide_eq_false h]; exact h0 (by omega)
theorem bin_geq [hM : IsM P M] [hx : IsZ x a] [hy : IsZ y b] (h1 : b ≤ a → (k (.b true)).good) (h0 : a < b → (k (.b false)).good) : (M.bin .geq x y k).good := by
  obtain rfl := hM.eq
  show (binK .geq x y k).good
  obtain rfl := hx.eq; obtain rfl := hy.eq
  show (cmpK _ .geq (zAV a) (zAV b) k).good
  rw [cmpK_z ge_cmp (r := decide (b ≤ a)) (cmpZ_i .geq)]
  by_cases h : b ≤ a
  · rw [decide_eq_true h]; exact h1 h
  · rw [decide_eq_false h]; exact h0 (by omega)

/-! Bits. -/

theorem and_low (a : Int) (n : Nat) (hn : n ≤ 62) : IntKind.i64.wrap (BitVec.ofInt 64 a &&& BitVec.ofInt 64 ((2 ^ n - 1 : Nat) : Int)).toNat = a % 2 ^ n := by
  have hp : 2 ^ n ≤ 2 ^ 62 := Nat.pow_le_pow_right (by decide) hn
  have hp0 : 0 < 2 ^ n := Nat.two_pow_pos n
  have e1 : (BitVec.ofInt 64 a &&& BitVec.ofInt 64 ((2 ^ n - 1 : Nat) : Int)).toNat = (a % 2 ^ 64).toNat % 2 ^ n := by
    rw [BitVec.toNat_and, BitVec.toNat_ofInt, BitVec.toNat_ofInt]
    have e2 : (((2 ^ n - 1 : Nat) : Int) % ((2 ^ 64 : Nat) : Int)).toNat = 2 ^ n - 1 := by
      rw [Int.emod_eq_of_lt (by omega) (by have : 2 ^ n - 1 < 2 ^ 64 := by omega
                                           exact_mod_cast this)]
      exact Int.toNat_natCast _
    rw [e2, Nat.and_two_pow_sub_one_eq_mod]
    rfl
  rw [e1]
  have e3 : (((a % 2 ^ 64).toNat % 2 ^ n : Nat) : Int) = a % 2 ^ n := by
    have h0 : 0 ≤ a % 2 ^ 64 := Int.emod_nonneg _ (by decide)
    rw [Int.natCast_emod, Int.toNat_of_nonneg h0]
    have hd : ((2 ^ n : Nat) : Int) ∣ 2 ^ 64 := by
      have : (2 ^ n : Nat) ∣ 2 ^ 64 := Nat.pow_dvd_pow 2 (by omega)
      exact_mod_cast this
    rw [Int.emod_emod_of_dvd _ hd]
    simp
  rw [e3]
  have h4 : 0 ≤ a % 2 ^ n := Int.emod_nonneg _ (by have : (0 : Int) < 2 ^ n := by exact_mod_cast hp0
                                                   omega)
  have h5 : a % 2 ^ n < 2 ^ n := Int.emod_lt_of_pos _ (by exact_mod_cast hp0)
  have h6 : (2 ^ n : Int) ≤ 2 ^ 62 := by exact_mod_cast hp
  exact wrap_in (by omega) (by omega)
theorem bin_and [hM : IsM P M] (n : Nat) (hn : n ≤ 62) [hx : IsZ x a] (hy : y = .p (2 ^ n - 1)) (hk : (k (zAV (a % 2 ^ n))).good) : (M.bin .and x y k).good := by
  obtain rfl := hM.eq
  show (binK .and x y k).good
  obtain rfl := hx.eq; subst hy
  have e : binZ .and .i64 a .i64 ((2 ^ n - 1 : Nat) : Int) = some (.i64, a % 2 ^ n) := by
    show (if IntKind.i64 = .i64 then some (IntKind.i64, IntKind.i64.wrap (BitVec.ofInt 64 a &&& BitVec.ofInt 64 ((2 ^ n - 1 : Nat) : Int)).toNat) else none) = _
    rw [if_pos rfl, and_low a n hn]
  have hp : 2 ^ n ≤ 2 ^ 62 := Nat.pow_le_pow_right (by decide) hn
  have hp0 : 0 < 2 ^ n := Nat.two_pow_pos n
  have e2 := arK_z (f := andP) (b := ((2 ^ n - 1 : Nat) : Int)) k e (fun m q hm hq => by
    subst hm
    obtain rfl : 2 ^ n - 1 = q := by omega
    have h1 : Nat.land m (2 ^ n - 1) = m % 2 ^ n := Nat.and_two_pow_sub_one_eq_mod m n
    have h2 : m % 2 ^ n < 2 ^ n := Nat.mod_lt _ hp0
    unfold andP
    rw [h1, okP_z k (show m % 2 ^ n ≤ 9223372036854775807 by omega), ← zAV_nat]
    exact congrArg (fun z => k (zAV z)) (by simp))
  show (arK andP .and (zAV a) (zAV ((2 ^ n - 1 : Nat) : Int)) k).good
  rw [e2]; exact hk
theorem slow_sh {op : BinOp} {a r : Int} {kd : IntKind} (m : Nat) (k : AV → Res) (h : binZ op .i64 a kd m = some (.i64, r)) : slowBin op (zAV a) (.w kd m) k = k (zAV r) := by
  have e : zK (.w kd m) = fun k => k kd (m : Int) := rfl
  unfold slowBin
  rw [zK_zAV, e]
  dsimp only
  rw [h]
  exact mkZ_eq r k
theorem bin_shr [hM : IsM P M] (n : Nat) (hn : n ≤ 62) [hx : IsZ x a] (hy : y = .w .u64 n) (hk : (k (zAV (a / 2 ^ n))).good) : (M.bin .shr x y k).good := by
  obtain rfl := hM.eq
  show (binK .shr x y k).good
  obtain rfl := hx.eq; subst hy
  have e : binZ .shr .i64 a .u64 (n : Int) = some (.i64, a / 2 ^ n) := by
    show (if (n : Int) < 0 then none else some (IntKind.i64, a.fdiv (2 ^ (min n 64)))) = _
    rw [if_neg (by omega), Nat.min_eq_left (by omega), Int.fdiv_eq_ediv_of_nonneg]
    exact Int.pow_nonneg (by decide)
  have : binK .shr (zAV a) (.w .u64 n) k = slowBin .shr (zAV a) (.w .u64 n) k := by cases a <;> rfl
  rw [this, slow_sh n k e]; exact hk
theorem bin_shl [hM : IsM P M] (n : Nat) (hn : n ≤ 62) [hx : IsZ x a] (hy : y = .w .u64 n) (h0 : -9223372036854775808 ≤ a * 2 ^ n) (h1 : a * 2 ^ n ≤ 9223372036854775807) (hk : (k (zAV (a * 2 ^ n))).good) : (M.bin .shl x y k).good := by
  obtain rfl := hM.eq
  show (binK .shl x y k).good
  obtain rfl := hx.eq; subst hy
  have e : binZ .shl .i64 a .u64 (n : Int) = some (.i64, a * 2 ^ n) := by
    show (if (n : Int) < 0 then none else some (IntKind.i64, IntKind.i64.wrap (a * 2 ^ (min n 64)))) = _
    rw [if_neg (by omega), Nat.min_eq_left (by omega), wrap_in h0 h1]
  have : binK .shl (zAV a) (.w .u64 n) k = slowBin .shl (zAV a) (.w .u64 n) k := by cases a <;> rfl
  rw [this, slow_sh n k e]; exact hk
/-- Bits beside those of a number that has none there. -/
theorem bin_or [hM : IsM P M] (n : Nat) (hn : n ≤ 62) [hx : IsZ x a] [hy : IsZ y b] (ha : a % 2 ^ n = 0) (h0 : -9223372036854775808 ≤ a) (h1 : a ≤ 9223372036854775807) (hb0 : 0 ≤ b) (hb : b < 2 ^ n) (hk : (k (zAV (a + b))).good) : (M.bin .or x y k).good := by
  obtain rfl := hM.eq
  show (binK .or x y k).good
  obtain rfl := hx.eq; obtain rfl := hy.eq
  have hp : 2 ^ n ≤ 2 ^ 62 := Nat.pow_le_pow_right (by decide) hn
  have hp0 : 0 < 2 ^ n := Nat.two_pow_pos n
  obtain ⟨q, rfl⟩ := Int.eq_ofNat_of_zero_le hb0
  have hq : q < 2 ^ n := by exact_mod_cast hb
  obtain ⟨c, rfl⟩ : ∃ c : Int, a = c * 2 ^ n := ⟨a / 2 ^ n, by have := Int.mul_ediv_add_emod a (2 ^ n); rw [ha, Int.add_zero, Int.mul_comm] at this; exact this.symm⟩
  have hor : ∀ m : Nat, (2 ^ n * m) ||| q = 2 ^ n * m + q := fun m => (Nat.two_pow_add_eq_or_of_lt hq m).symm
  have top : c * 2 ^ n + q ≤ 9223372036854775807 := by
    have hc : c < 2 ^ 63 / 2 ^ n := by
      rcases (by omega : c < 2 ^ 63 / 2 ^ n ∨ 2 ^ 63 / 2 ^ n ≤ c) with h | h
      · exact h
      · exfalso
        have hd : (2 ^ 63 / 2 ^ n : Int) * 2 ^ n = 2 ^ 63 := Int.ediv_mul_cancel (by
          have : (2 ^ n : Nat) ∣ 2 ^ 63 := Nat.pow_dvd_pow 2 (by omega)
          exact_mod_cast this)
        have := Int.mul_le_mul_of_nonneg_right h (show (0 : Int) ≤ 2 ^ n by exact_mod_cast Nat.zero_le _)
        omega
    have hd : (2 ^ 63 / 2 ^ n : Int) * 2 ^ n = 2 ^ 63 := Int.ediv_mul_cancel (by
      have : (2 ^ n : Nat) ∣ 2 ^ 63 := Nat.pow_dvd_pow 2 (by omega)
      exact_mod_cast this)
    have := Int.mul_le_mul_of_nonneg_right (show c + 1 ≤ 2 ^ 63 / 2 ^ n from hc) (show (0 : Int) ≤ 2 ^ n by exact_mod_cast Nat.zero_le _)
    rw [Int.add_mul, hd] at this
    have hqn : (q : Int) < 2 ^ n := hb
    omega
  have e : binZ .or .i64 (c * 2 ^ n) .i64 (q : Int) = some (.i64, c * 2 ^ n + q) := by
    show (if IntKind.i64 = .i64 then some (IntKind.i64, IntKind.i64.wrap (BitVec.ofInt 64 (c * 2 ^ n) ||| BitVec.ofInt 64 (q : Int)).toNat) else none) = _
    rw [if_pos rfl]
    have e1 : ((BitVec.ofInt 64 (c * 2 ^ n) ||| BitVec.ofInt 64 (q : Int)).toNat : Int) = (c * 2 ^ n) % 2 ^ 64 + q := by
      rw [BitVec.toNat_or, BitVec.toNat_ofInt, BitVec.toNat_ofInt]
      have e2 : ((q : Int) % ((2 ^ 64 : Nat) : Int)).toNat = q := by
        rw [Int.emod_eq_of_lt (by omega) (by omega)]
        exact Int.toNat_natCast _
      have e3 : ((c * 2 ^ n) % ((2 ^ 64 : Nat) : Int)).toNat = 2 ^ n * (c % 2 ^ (64 - n)).toNat := by
        have h64 : ((2 ^ 64 : Nat) : Int) = 2 ^ (64 - n) * 2 ^ n := by
          rw [← Int.pow_add, Nat.sub_add_cancel (by omega)]; rfl
        have hq0 : (0 : Int) < 2 ^ (64 - n) := by exact_mod_cast Nat.two_pow_pos (64 - n)
        have h5 : 0 ≤ c % 2 ^ (64 - n) := Int.emod_nonneg _ (by omega)
        rw [h64, Int.mul_comm c, Int.mul_comm (2 ^ (64 - n)), Int.mul_emod_mul_of_pos _ _ (show (0 : Int) < 2 ^ n by exact_mod_cast hp0), Int.toNat_mul (by exact_mod_cast Nat.zero_le _) h5]
        congr 1
      rw [e2, e3, hor, ← e3]
      have h6 : 0 ≤ (c * 2 ^ n) % ((2 ^ 64 : Nat) : Int) := Int.emod_nonneg _ (by decide)
      rw [Int.natCast_add, Int.toNat_of_nonneg h6]
      rfl
    rw [e1]
    congr 2
    simp only [IntKind.wrap, IntKind.bits, IntKind.signed, Bool.true_and]
    split <;> rename_i hh <;> simp at hh <;> omega
  have e2 := arK_z (f := orP) k e (fun m r hm hr => by
    obtain rfl : q = r := by omega
    have hc : 0 ≤ c := by
      rcases (by omega : c < 0 ∨ 0 ≤ c) with h | h
      · have := Int.mul_neg_of_neg_of_pos h (show (0 : Int) < 2 ^ n by exact_mod_cast hp0)
        omega
      · exact h
    obtain ⟨c', rfl⟩ := Int.eq_ofNat_of_zero_le hc
    obtain rfl : c' * 2 ^ n = m := by exact_mod_cast hm
    have h7 : Nat.lor (c' * 2 ^ n) q = c' * 2 ^ n + q := by rw [Nat.mul_comm c']; exact hor c'
    unfold orP
    rw [h7, okP_z k (show c' * 2 ^ n + q ≤ 9223372036854775807 by omega), ← zAV_nat]
    exact congrArg (fun z => k (zAV z)) (by simp))
  show (arK orP .or (zAV (c * 2 ^ n)) (zAV (q : Int)) k).good
  rw [e2]; exact hk
end ar

/-! ### Where a walk stands still -/

section stuck
variable {P : Program} {M : Mac}
theorem good_ite {b : Bool} {x y : Res} (h1 : b = true → x.good) (h0 : b = false → y.good) : (iteK b x y).good := by
  cases b
  · exact h0 rfl
  · exact h1 rfl
theorem good_yes {b : Bool} {x y : Res} (h : b = true) (h1 : x.good) : (iteK b x y).good := by subst h; exact h1
theorem good_no {b : Bool} {x y : Res} (h : b = false) (h1 : y.good) : (iteK b x y).good := by subst h; exact h1
theorem good_bool {b : Bool} {k : AV → Res} (h1 : b = true → (k (.b true)).good) (h0 : b = false → (k (.b false)).good) : (boolK b k).good := by
  cases b
  · exact h0 rfl
  · exact h1 rfl
theorem good_lt {i m : Nat} {x y : Res} (h : i + 1 ≤ m) (hk : x.good) : (iteK (Nat.ble (Nat.succ i) m) x y).good := by
  rw [iteK_eq, if_pos (Nat.ble_eq_true_of_le h)]; exact hk
theorem good_beq {m n : Nat} {x y : Res} (h : m = n) (hk : x.good) : (iteK (Nat.beq m n) x y).good := by
  rw [iteK_eq, if_pos (by rw [h]; exact Nat.beq_refl n)]; exact hk
theorem good_le {i m : Nat} {x y : Res} (h : i ≤ m) (hk : x.good) : (iteK (Nat.ble i m) x y).good := by
  rw [iteK_eq, if_pos (Nat.ble_eq_true_of_le h)]; exact hk
theorem eqA_refl (x : AV) : eqA x x = true := by
  induction x with
  | b a => cases a <;> rfl
  | fn f a b i1 i2 => show and (Nat.beq f f) (and (eqA a a) (eqA b b)) = true; rw [i1, i2, Nat.beq_refl]; rfl
  | ag a i => exact i
  | tu a i => exact i
  | cons a b i1 i2 => show and (eqA a a) (eqA b b) = true; rw [i1, i2]; rfl
  | p a => exact Nat.beq_refl a
  | n a => exact Nat.beq_refl a
  | w k a => show and (Nat.beq (kdN k) (kdN k)) (Nat.beq a a) = true; rw [Nat.beq_refl, Nat.beq_refl]; rfl
  | s l a => show and (Nat.beq l l) (Nat.beq a a) = true; rw [Nat.beq_refl, Nat.beq_refl]; rfl
  | pt l a => show and (Nat.beq l l) (Nat.beq a a) = true; rw [Nat.beq_refl, Nat.beq_refl]; rfl
  | sl a b c d e => show and (Nat.beq a a) (and (Nat.beq b b) (and (Nat.beq c c) (and (Nat.beq d d) (Nat.beq e e)))) = true; simp only [Nat.beq_refl]; rfl
  | mp a => exact Nat.beq_refl a
  | _ => rfl
variable [hM : IsM P M]
include hM
theorem good_force {m : Nat} {k : Nat → Res} (h : (k m).good) : (M.fo m k).good := by
  obtain rfl := hM.eq
  show (forceN m k).good
  rw [forceN_eq]; exact h
theorem good_f01 {i : Nat} {k : Nat → Res} (hk : (k i).good) : (M.fo (Nat.add 0 (Nat.mul i 1)) k).good := by
  refine good_force ?_
  rw [show Nat.add 0 (Nat.mul i 1) = i from by show 0 + i * 1 = i; omega]; exact hk
theorem good_f0 {i : Nat} {k : Nat → Res} (hk : (k i).good) : (M.fo (Nat.add 0 i) k).good := by
  refine good_force ?_
  rw [show Nat.add 0 i = i from Nat.zero_add i]; exact hk
theorem good_fb {c l : Nat} {k : Nat → Res} (h1 : c = l → (k 0).good) (h0 : c ≠ l → (k l).good) : (M.fo (Nat.add 0 (Bool.rec (motive := fun _ => Nat) (Nat.mul l 1) 0 (Nat.beq c l))) k).good := by
  refine good_f0 ?_
  cases hb : Nat.beq c l with
  | true => exact h1 (Nat.eq_of_beq_eq_true hb)
  | false =>
    show (k (l * 1)).good
    rw [Nat.mul_one]
    exact h0 fun e => by rw [e, Nat.beq_refl] at hb; cases hb
theorem good_fl {m i : Nat} {k : Nat → Res} (h : m = i) (hk : (k i).good) : (M.fo m k).good := by
  subst h; exact good_force hk
theorem good_ga {t : PT AV} {i : Nat} {v : AV} {k : AV → Res} {f : Res} (h : t.get i = some v) (hk : (k v).good) : (M.ga t i k f).good := by
  obtain rfl := hM.eq
  show (PT.getK t i k f).good
  rw [PT.getK_eq, h]; exact hk
theorem good_go {t : PT AO} {i : Nat} {v : AO} {k : AO → Res} {f : Res} (h : t.get i = some v) (hk : (k v).good) : (M.go t i k f).good := by
  obtain rfl := hM.eq
  show (PT.getK t i k f).good
  rw [PT.getK_eq, h]; exact hk
theorem good_none {t : PT AV} {i : Nat} {k : AV → Res} {f : Res} (h : t.get i = none) (hk : f.good) : (M.ga t i k f).good := by
  obtain rfl := hM.eq
  show (PT.getK t i k f).good
  rw [PT.getK_eq, h]; exact hk
theorem good_ua {n : Nat} {t : PT AV} {i : Nat} {v : Option AV} {k : PT AV → Res} (hi : i ≤ 262143) (hk : (k (PT.updF t i v)).good) : (M.ua n t i v k).good := by
  obtain rfl := hM.eq
  show (PT.updK n t i v k).good
  rw [PT.updK_eq hi]; exact hk
theorem good_uo {n : Nat} {t : PT AO} {i : Nat} {v : Option AO} {k : PT AO → Res} (hi : i ≤ 262143) (hk : (k (PT.updF t i v)).good) : (M.uo n t i v k).good := by
  obtain rfl := hM.eq
  show (PT.updK n t i v k).good
  rw [PT.updK_eq hi]; exact hk
theorem good_isP {x : AV} {z : Int} [hx : IsZ x z] {k : Nat → Res} {f : Res} (h0 : 0 ≤ z) (hk : (k z.toNat).good) : (M.isp x k f).good := by
  obtain rfl := hM.eq
  obtain rfl := hx.eq
  obtain ⟨m, rfl⟩ := Int.eq_ofNat_of_zero_le h0
  exact hk
theorem good_isP' {m : Nat} {k : Nat → Res} {f : Res} (hk : (k m).good) : (M.isp (.p m) k f).good := by
  obtain rfl := hM.eq
  exact hk
theorem good_idx {x : AV} {z : Int} [hx : IsZ x z] {k : Nat → Res} (h0 : 0 ≤ z) (hk : (k z.toNat).good) : (M.ix x k).good := by
  obtain rfl := hM.eq
  obtain rfl := hx.eq
  obtain ⟨m, rfl⟩ := Int.eq_ofNat_of_zero_le h0
  exact hk
theorem good_idx' {m : Nat} {k : Nat → Res} (hk : (k m).good) : (M.ix (.p m) k).good := by
  obtain rfl := hM.eq
  exact hk
theorem good_same {v : AV} {x y : Res} (hk : x.good) : (iteK (M.eq v v) x y).good := by
  obtain rfl := hM.eq
  show (iteK (eqA v v) x y).good
  rw [eqA_refl]; exact hk
theorem good_cellZ {x : AV} {z : Int} [hx : IsZ x z] {k : AV → Res} (hk : (k (.cons x .nil)).good) : (M.ce x k).good := by
  obtain rfl := hM.eq
  obtain rfl := hx.eq
  show (cellsK _ k).good
  unfold cellsK
  rw [show (zAV z).one = true by cases z <;> rfl]; exact hk
theorem good_cell1 {x : AV} {k : AV → Res} (h : x.one = true) (hk : (k (.cons x .nil)).good) : (M.ce x k).good := by
  obtain rfl := hM.eq
  show (cellsK _ k).good
  unfold cellsK
  rw [h]; exact hk
theorem good_cellA {l : AV} {k : AV → Res} (hk : (k l).good) : (M.ce (.ag l) k).good := by
  obtain rfl := hM.eq
  exact hk
end stuck

/-! ### Walks are right -/

section
variable {P : Program} {nt : Nat}
theorem cG_good (hmix : P.follows .mixedOrders = true) {ck : CK} {ih : IH} (hck : SemF P ck) (hi : SemI P ih) :
    ∀ (c : Code) {ac : ACode} (e : Env) (h : H) (k : KX), cmpC P nt c = some ac → (cKG (stdM P) ac ck ih e h k).good → ∃ x e' h', CodeS P nt c e h x e' h' ∧ (k x e' h').good := by
  intro c
  induction c with
  | skip => intro ac e h k hc hg; cases hc; exact ⟨.n, e, h, fun μ a w Q s hq => wp_skip (hq μ a w (Ext.refl μ h w s.heap) s), hg⟩
  | label l => intro ac e h k hc hg; cases hc; exact ⟨.n, e, h, fun μ a w Q s hq => wp_label (hq μ a w (Ext.refl μ h w s.heap) s), hg⟩
  | exit id => intro ac e h k hc hg; cases hc; exact ⟨.x id, e, h, fun μ a w Q s hq => wp_exit (hq μ a w (Ext.refl μ h w s.heap) s), hg⟩
  | ret => intro ac e h k hc hg; cases hc; exact ⟨.r, e, h, fun μ a w Q s hq => wp_ret (hq μ a w (Ext.refl μ h w s.heap) s), hg⟩
  | goto l => intro ac e h k hc hg; cases hc
  | rangeFunc f ps a b _ _ => intro ac e h k hc hg; cases hc
  | refuse w => intro ac e h k hc hg; cases hc
  | region id ops d =>
    intro ac e h k hc hg
    cases d with
    | false =>
      obtain ⟨al, h1, rfl⟩ := Option.map_eq_some_iff.1 hc
      obtain ⟨e', h', h2, h3⟩ := opsK_good hck ops.toList h1 (show (opsK al ck e h (k .n)).good from hg)
      exact ⟨.n, e', h', fun μ a w Q s hq => wp_region_list (h3 μ a w Q s hq), h2⟩
    | true =>
      obtain ⟨al, h1, rfl⟩ := Option.map_eq_some_iff.1 hc
      obtain ⟨e', h', h2, h3⟩ := cmpDraw_good (id := id) hmix hck h1 (show (dlK al ck e h (k .n)).good from hg)
      exact ⟨.n, e', h', fun μ a w Q s hq => h3 μ a w Q s hq, h2⟩
  | seq c1 c2 ih1 ih2 =>
    intro ac e h k hc hg
    unfold cmpC at hc
    split at hc
    · rename_i a b h1 h2
      cases hc
      obtain ⟨x, e1, hh1, hs, hg⟩ := ih1 e h _ h1 (show (cKG (stdM P) a ck ih e h (seqX (cKG (stdM P) b) ck ih k)).good from hg)
      cases x with
      | n =>
        obtain ⟨x, e2, hh2, hs2, hg⟩ := ih2 e1 hh1 k h2 hg
        refine ⟨x, e2, hh2, fun μ ac w Q s hq => wp_seq (hs μ ac w _ s fun μ' a' w' x1 s' => hs2 μ' a' w' Q s' fun μ'' a'' w'' x2 s'' => hq μ'' a'' w'' (x1.trans x2) s''), hg⟩
      | x id => exact ⟨.x id, e1, hh1, fun μ ac w Q s hq => wp_seq (hs μ ac w _ s fun μ' a' w' x1 s' => hq μ' a' w' x1 s'), hg⟩
      | r => exact ⟨.r, e1, hh1, fun μ ac w Q s hq => wp_seq (hs μ ac w _ s fun μ' a' w' x1 s' => hq μ' a' w' x1 s'), hg⟩
    · rename_i b _ h2
      split at hc
      · rename_i i1 i2 hf
        cases hc
        unfold flipOf at hf
        split at hf
        · rename_i id ops
          exact absurd hg Res.not_good_fail
        · cases hf
      · cases hc
    · cases hc
  | cond x c1 c2 ih1 ih2 =>
    intro ac e h k hc hg
    unfold cmpC at hc
    split at hc
    · rename_i x' a b h0 h1 h2
      cases hc
      have hg : (oK x' (fun v => isB v (fun t => twoX (cKG (stdM P) a) (cKG (stdM P) b) ck ih e h k t) (.fail 104)) e).good := hg
      rw [oK_eq] at hg
      obtain ⟨t, ht, hg⟩ := isB_good hg
      have hev : ∀ μ ac w, SR nt μ e h ac w → ac.eval x = .bool t := by
        intro μ ac w s
        have := Rho.of_env s.env #[x] x (by simp) x' h0
        rw [ht] at this
        exact this
      cases t with
      | true =>
        obtain ⟨x2, e2, hh2, hs2, hg⟩ := ih1 e h k h1 hg
        exact ⟨x2, e2, hh2, fun μ ac w Q s hq => wp_cond_true (hev μ ac w s) (hs2 μ ac w Q s hq), hg⟩
      | false =>
        obtain ⟨x2, e2, hh2, hs2, hg⟩ := ih2 e h k h2 hg
        exact ⟨x2, e2, hh2, fun μ ac w Q s hq => wp_cond_false (hev μ ac w s) (hs2 μ ac w Q s hq), hg⟩
    · cases hc
  | block id c ih1 =>
    intro ac e h k hc hg
    obtain ⟨a, h1, rfl⟩ := Option.map_eq_some_iff.1 hc
    obtain ⟨x, e1, hh1, hs, hg⟩ := ih1 e h _ h1 (show (cKG (stdM P) a ck ih e h (blkX id k)).good from hg)
    cases x with
    | n => exact ⟨.n, e1, hh1, fun μ ac w Q s hq => wp_block (hs μ ac w _ s fun μ' a' w' x1 s' => hq μ' a' w' x1 s'), hg⟩
    | x id' =>
      have hg : (iteK (Nat.beq id' id) (k .n e1 hh1) (k (.x id') e1 hh1)).good := hg
      rw [iteK_eq] at hg
      by_cases hid : id' = id
      · subst hid
        rw [if_pos (Nat.beq_refl _)] at hg
        refine ⟨.n, e1, hh1, fun μ ac w Q s hq => wp_block (hs μ ac w _ s fun μ' a' w' x1 s' => ?_), hg⟩
        simp only [exOf, Exit.inBlock, if_true]
        exact hq μ' a' w' x1 s'
      · rw [if_neg (fun hh => hid (Nat.eq_of_beq_eq_true hh))] at hg
        refine ⟨.x id', e1, hh1, fun μ ac w Q s hq => wp_block (hs μ ac w _ s fun μ' a' w' x1 s' => ?_), hg⟩
        simp only [exOf, Exit.inBlock, hid, if_false]
        exact hq μ' a' w' x1 s'
    | r => exact ⟨.r, e1, hh1, fun μ ac w Q s hq => wp_block (hs μ ac w _ s fun μ' a' w' x1 s' => hq μ' a' w' x1 s'), hg⟩
  | loop c ih1 =>
    intro ac e h k hc hg
    obtain ⟨a, h1, rfl⟩ := Option.map_eq_some_iff.1 hc
    obtain ⟨x, e1, hh1, ⟨n, hs⟩, hg⟩ := hi.loop nt c a e h k h1 (show (ih (.loop a) e h k).good from hg)
    exact ⟨x, e1, hh1, fun μ ac w Q s hq => wp_loop_rounds n (hs μ ac w Q s hq), hg⟩
  | scope c ih1 =>
    intro ac e h k hc hg
    obtain ⟨x, e1, hh1, hs, hg⟩ := ih1 e h k hc hg
    refine ⟨x, e1, hh1, fun μ ac w Q s hq => wp_scope_straight (hs μ ac w _ s fun μ' a' w' x1 s' => ?_), hg⟩
    cases x <;> exact hq μ' a' w' x1 s'
end

theorem code_of_loop {P : Program} {a : ACode} {e : Env} {h : H} {k : KX} (key : ∀ nt c, cmpC P nt c = some a → ∃ x e' h', LoopS P nt c e h x e' h' ∧ (k x e' h').good) (nt : Nat) :
    ∀ c, cmpC P nt c = some (.loop a) → ∃ x e' h', CodeS P nt c e h x e' h' ∧ (k x e' h').good := by
  intro c
  induction c with
  | loop c _ =>
    intro hc
    obtain ⟨a', h1', q⟩ := Option.map_eq_some_iff.1 hc
    cases q
    obtain ⟨x, e', h', ⟨n, hs⟩, hk⟩ := key nt c h1'
    exact ⟨x, e', h', fun μ ac w Q s hq => wp_loop_rounds n (hs μ ac w Q s hq), hk⟩
  | scope c ih =>
    intro hc
    obtain ⟨x, e', h', hs, hk⟩ := ih hc
    refine ⟨x, e', h', fun μ ac w Q s hq => wp_scope_straight (hs μ ac w _ s fun μ' a' w' x1 s' => ?_), hk⟩
    cases x <;> exact hq μ' a' w' x1 s'
  | region id ops d => intro hc; cases d <;> (obtain ⟨_, _, q⟩ := Option.map_eq_some_iff.1 hc; cases q)
  | seq c1 c2 _ _ =>
    intro hc
    unfold cmpC at hc
    split at hc
    · cases hc
    · split at hc <;> cases hc
    · cases hc
  | block id c _ => intro hc; obtain ⟨_, _, q⟩ := Option.map_eq_some_iff.1 hc; cases q
  | cond x c1 c2 _ _ => intro hc; unfold cmpC at hc; split at hc <;> cases hc
  | _ => intro hc; cases hc

/-! ### Calls and loops by what is proved -/

section
variable {P : Program} {M : Mac} [hM : IsM P M]
include hM
theorem good_call {f : Nat} {l : AV} {h h' : H} {v : AV} {k : AV → H → Res} (hs : CSem P f l h v h') (hk : (k v h').good) : (M.ck f l h k).good := by
  obtain rfl := hM.eq
  show (ckU P f l h k).good
  unfold ckU
  rw [if_pos ⟨v, h', hs, hk⟩]
  exact ⟨_, _, rfl⟩
/-- A call that answers a truth. -/
theorem good_callB {f : Nat} {l : AV} {h h' : H} {b : Bool} {k : AV → H → Res} (hs : CSem P f l h (.b b) h') (h1 : b = true → (k (.b true) h').good) (h0 : b = false → (k (.b false) h').good) : (M.ck f l h k).good := by
  cases b
  · exact good_call hs (h0 rfl)
  · exact good_call hs (h1 rfl)
theorem good_loop {a : ACode} {e e' : Env} {h h' : H} {x : AEx} {k : KX} (hs : SemL P a e h x e' h') (hk : (k x e' h').good) : (M.ih (.loop a) e h k).good := by
  obtain rfl := hM.eq
  show (ihU P (.loop a) e h k).good
  unfold ihU
  rw [if_pos]
  · exact ⟨_, _, rfl⟩
  · exact ⟨fun nt c hc => ⟨x, e', h', SemC.loop hs nt c hc, hk⟩, fun nt c b hb hc => by cases hb; exact ⟨x, e', h', hs nt c hc, hk⟩⟩
/-- A loop by what is proved of it, from less. -/
theorem good_loopE {a : ACode} {e e0 e' : Env} {h h' : H} {x : AEx} {k : KX} (hs : SemL P a e0 h x e' h') (hd : ∀ i, e0.get i = .u ∨ e0.get i = e.get i) (hk : (k x e' h').good) : (M.ih (.loop a) e h k).good :=
  good_loop (fun nt c hc => by
    obtain ⟨n, q⟩ := hs nt c hc
    refine ⟨n, fun μ ac w Q s hq => q μ ac w Q ⟨s.size, s.defers, fun i => ?_, s.heap⟩ hq⟩
    rcases hd i with h0 | h0
    · rw [h0]; trivial
    · rw [h0]; exact s.env i) hk
/-- A loop's first round is laid open. -/
theorem good_round (hmix : P.follows .mixedOrders = true) {a : ACode} {e : Env} {h : H} {k : KX} (hg : (cKG M a M.ck M.ih e h (loopX (.loop a) M.ih k)).good) : (M.ih (.loop a) e h k).good := by
  obtain rfl := hM.eq
  have hg : (cKG (stdM P) a (ckU P) (ihU P) e h (loopX (.loop a) (ihU P) k)).good := hg
  have key : ∀ nt c, cmpC P nt c = some a → ∃ x e' h', LoopS P nt c e h x e' h' ∧ (k x e' h').good := by
    intro nt c hc
    obtain ⟨x, e1, h1, hs, hg⟩ := cG_good hmix (ckU_sem P) (ihU_sem P) c e h _ hc hg
    cases x with
    | n =>
      obtain ⟨x, e2, h2, ⟨n, hs2⟩, hg⟩ := (ihU_sem P).loop nt c a e1 h1 k hc hg
      refine ⟨x, e2, h2, ⟨n + 1, fun μ ac w Q s hq => ?_⟩, hg⟩
      exact hs μ ac w _ s fun μ' a' w' x1 s' => hs2 μ' a' w' Q s' fun μ'' a'' w'' x2 s'' => hq μ'' a'' w'' (x1.trans x2) s''
    | x id => exact ⟨.x id, e1, h1, ⟨1, fun μ ac w Q s hq => hs μ ac w _ s fun μ' a' w' x1 s' => hq μ' a' w' x1 s'⟩, hg⟩
    | r => exact ⟨.r, e1, h1, ⟨1, fun μ ac w Q s hq => hs μ ac w _ s fun μ' a' w' x1 s' => hq μ' a' w' x1 s'⟩, hg⟩
  show (ihU P (.loop a) e h k).good
  unfold ihU
  rw [if_pos]
  · exact ⟨_, _, rfl⟩
  · exact ⟨fun nt c hc => code_of_loop key nt c hc, fun nt c b hb hc => by cases hb; exact key nt c hc⟩
/-- A function whose code is walked where it is called. -/
theorem good_into (hmix : P.follows .mixedOrders = true) {f : Nat} {ps : List Ix} {body : ACode} {rs : RSt} {l : AV} {h : H} {k : AV → H → Res} (hcf : cmpF P f = some (.fn ps body rs))
    (hg : (bind8 ps l fun e => cKG M body M.ck M.ih e h (retXG M rs k)).good) : (M.ck f l h k).good := by
  obtain rfl := hM.eq
  have hg : (bind8 ps l fun e => cKG (stdM P) body (ckU P) (ihU P) e h (retX rs k)).good := hg
  obtain ⟨v, h', hs, hk⟩ := fn_good (ih := fun c => cKG (stdM P) c (ckU P) (ihU P)) (fun nt c ac e h k hc hg => cG_good hmix (ckU_sem P) (ihU_sem P) c e h k hc hg) hcf hg
  exact good_call (hM := ⟨rfl⟩) hs hk
end
end Go.Ev
namespace Go.Ev
section
variable {P : Program}

/-! ### Blocks under other names -/

def rn (ρ : Nat → Nat) : AV → AV
  | .pt b o => .pt (ρ b) o
  | .sl b o l c s => .sl (ρ b) o l c s
  | .mp b => .mp (ρ b)
  | .fn f l c => .fn f (rn ρ l) (rn ρ c)
  | .ag l => .ag (rn ρ l)
  | .tu l => .tu (rn ρ l)
  | .cons h t => .cons (rn ρ h) (rn ρ t)
  | x => x
/-- All blocks that are named are below n. -/
def bd (n : Nat) : AV → Bool
  | .pt b _ => Nat.blt b n
  | .sl b _ _ _ _ => Nat.blt b n
  | .mp b => Nat.blt b n
  | .fn _ l c => bd n l && bd n c
  | .ag l => bd n l
  | .tu l => bd n l
  | .cons h t => bd n h && bd n t
  | _ => true

theorem blt_lt {a b : Nat} (h : Nat.blt a b = true) : a < b := Nat.le_of_ble_eq_true h

theorem VR2_rn {μ ρ : Nat → Nat} {n1 n2 : Nat} {w : World} : ∀ x : AV, bd n2 x = true → (∀ v, (VR2 μ n1 w (rn ρ x)).1 v → (VR2 (fun b => μ (ρ b)) n2 w x).1 v) ∧ (∀ l, (VR2 μ n1 w (rn ρ x)).2 l → (VR2 (fun b => μ (ρ b)) n2 w x).2 l) := by
  intro x
  induction x with
  | pt b o => intro hb; exact ⟨fun v ⟨_, e⟩ => ⟨blt_lt hb, e⟩, fun l h => h⟩
  | sl b o l c s => intro hb; exact ⟨fun v ⟨_, e⟩ => ⟨blt_lt hb, e⟩, fun l h => h⟩
  | mp b => intro hb; exact ⟨fun v ⟨_, e⟩ => ⟨blt_lt hb, e⟩, fun l h => h⟩
  | fn f l c il ic =>
    intro hb
    obtain ⟨h1, h2⟩ := Bool.and_eq_true_iff.1 (show (bd n2 l && bd n2 c) = true from hb)
    exact ⟨fun v ⟨xs, ys, e, q1, q2⟩ => ⟨xs, ys, e, (il h1).2 _ q1, (ic h2).2 _ q2⟩, fun l h => h⟩
  | ag l il => intro hb; exact ⟨fun v ⟨xs, e, q1, q2⟩ => ⟨xs, e, (il hb).2 _ q1, q2⟩, fun l h => h⟩
  | tu l il => intro hb; exact ⟨fun v ⟨xs, e, q1⟩ => ⟨xs, e, (il hb).2 _ q1⟩, fun l h => h⟩
  | cons a t ia it =>
    intro hb
    obtain ⟨h1, h2⟩ := Bool.and_eq_true_iff.1 (show (bd n2 a && bd n2 t) = true from hb)
    exact ⟨fun v h => h, fun l ⟨x, xs, e, q1, q2⟩ => ⟨x, xs, e, (ia h1).1 _ q1, (it h2).2 _ q2⟩⟩
  | _ => intro _; exact ⟨fun v h => h, fun l h => h⟩

/-- x says no more than x1, under other names. -/
def VLe (ρ : Nat → Nat) (n : Nat) (x x1 : AV) : Prop := x = .u ∨ (x1 = rn ρ x ∧ bd n x = true)
theorem VLe.vr {μ ρ : Nat → Nat} {n1 n2 : Nat} {w : World} {x x1 : AV} (h : VLe ρ n2 x x1) {v : Value} (hv : VR μ n1 w x1 v) : VR (fun b => μ (ρ b)) n2 w x v := by
  rcases h with rfl | ⟨rfl, hb⟩
  · trivial
  · exact (VR2_rn x hb).1 v hv

/-- An object says no more than another one, under other names. -/
def ORn (ρ : Nat → Nat) (n : Nat) : AO → AO → Prop
  | .row m t df, .row m1 t1 df1 => m ≤ m1 ∧ ∀ i, i < m → VLe ρ n ((t.get i).getD df) ((t1.get i).getD df1)
  | .im t c _, .im t1 c1 _ => t1 = t ∧ c1 = c ∧ ∀ k x, t.get k = some x → rn ρ x = x ∧ bd n x = true
  | .sm l c, .sm l1 c1 => l1 = l ∧ c1 = c ∧ rn ρ l = l ∧ bd n l = true
  | .si l b p, .si l1 b1 p1 => l1 = l ∧ b1 = b ∧ p1 = p
  | _, _ => False

theorem SmR_rn {μ ρ : Nat → Nat} {n1 n2 : Nat} {w : World} {clock : Nat} : ∀ (l : AV) (es : List MapEntry), rn ρ l = l → bd n2 l = true → SmR μ n1 w clock l es → SmR (fun b => μ (ρ b)) n2 w clock l es := by
  intro l
  induction l with
  | nil => intro es _ _ h; exact h
  | cons x t _ it =>
    intro es hr hb h
    unfold SmR at h
    split at h
    · rename_i e; cases e
    · rename_i e
      obtain ⟨rfl, rfl⟩ := AV.cons.inj e
      obtain ⟨hr1, hr2⟩ := AV.cons.inj hr
      obtain ⟨hb1, hb2⟩ := Bool.and_eq_true_iff.1 (show (bd n2 _ && bd n2 _) = true from hb)
      unfold SmR
      obtain ⟨e, r, h1, h2, h3, h4, h5, h6, h7, h8⟩ := h
      have hr1 := (AV.cons.inj (AV.cons.inj (AV.tu.inj hr1)).2).1
      have hb1 := (Bool.and_eq_true_iff.1 (Bool.and_eq_true_iff.1 (show (true && (bd n2 _ && (true && true))) = true from hb1)).2).1
      exact ⟨e, r, h1, h2, h3, VLe.vr (.inr ⟨hr1.symm, hb1⟩) h4, h5, h6, h7, it _ hr2 hb2 h8⟩
    · exact h.elim
  | _ => intro es _ _ h; exact h

theorem ORn.or {μ ρ : Nat → Nat} {n1 n2 : Nat} {w : World} {o o1 : AO} (h : ORn ρ n2 o o1) {x : Option Obj} (hx : OR μ n1 w o1 x) : OR (fun b => μ (ρ b)) n2 w o x := by
  cases o with
  | row m t df =>
    cases o1 with
    | row m1 t1 df1 =>
      obtain ⟨h1, h2⟩ := h
      obtain ⟨cs, E, fz, q1, q2, q3, q4⟩ := hx
      exact ⟨cs, E, fz, q1, q2, by omega, fun i hi hi' => ⟨(h2 i hi).vr (q4 i (by omega) hi').1, (q4 i (by omega) hi').2⟩⟩
    | _ => exact h.elim
  | im t c q =>
    cases o1 with
    | im t1 c1 q' =>
      obtain ⟨rfl, rfl, h3⟩ := h
      obtain ⟨es, q1, q2⟩ := hx
      refine ⟨es, q1, { q2 with key := fun i hi => ?_ }⟩
      obtain ⟨k, e, a, ht, hv⟩ := q2.key i hi
      obtain ⟨hr, hb⟩ := h3 k _ ht
      have hr := (AV.cons.inj (AV.tu.inj hr)).1
      have hb := (Bool.and_eq_true_iff.1 (show (bd n2 a && (true && true)) = true from hb)).1
      exact ⟨k, e, a, ht, VLe.vr (.inr ⟨hr.symm, hb⟩) hv⟩
    | _ => exact h.elim
  | sm l c =>
    cases o1 with
    | sm l1 c1 =>
      obtain ⟨rfl, rfl, h3, h4⟩ := h
      obtain ⟨es, q1, q2⟩ := hx
      exact ⟨es, q1, SmR_rn _ _ h3 h4 q2⟩
    | _ => exact h.elim
  | si l b p =>
    cases o1 with
    | si l1 b1 p1 => obtain ⟨rfl, rfl, rfl⟩ := h; exact hx
    | _ => exact h.elim

/-- The heap h2 says no more than h1, under other names; what was named below n keeps its name. -/
structure Ren (n : Nat) (ρ : Nat → Nat) (h1 h2 : H) : Prop where
  nx : n ≤ h2.nx
  id : ∀ b, b < n → ρ b = b
  lt : ∀ b o, h2.t.get b = some o → b < h2.nx
  obj : ∀ b o, h2.t.get b = some o → ∃ o1, h1.t.get (ρ b) = some o1 ∧ ORn ρ h2.nx o o1
  inj : ∀ b o b' o', h2.t.get b = some o → h2.t.get b' = some o' → ρ b = ρ b' → b = b'

theorem Ren.hr {n : Nat} {ρ μ : Nat → Nat} {h1 h2 : H} {w : World} (r : Ren n ρ h1 h2) (hr : HR μ h1 w) : HR (fun b => μ (ρ b)) h2 w := by
  refine ⟨r.lt, fun b o hb => ?_, fun b o b' o' hb hb' e => ?_, hr.gl, fun b o hb => ?_⟩
  · obtain ⟨o1, q1, q2⟩ := r.obj b o hb
    exact q2.or (hr.obj _ _ q1)
  · obtain ⟨o1, q1, _⟩ := r.obj b o hb
    obtain ⟨o2, q2, _⟩ := r.obj b' o' hb'
    exact r.inj b o b' o' hb hb' (hr.inj _ _ _ _ q1 q2 e)
  · obtain ⟨o1, q1, _⟩ := r.obj b o hb
    exact hr.low _ _ q1
theorem Ren.ext {ρ μ0 μ : Nat → Nat} {h0 h1 h2 : H} {w0 w : World} (r : Ren h0.nx ρ h1 h2) (x : Ext μ0 h0 w0 μ h1 w) : Ext μ0 h0 w0 (fun b => μ (ρ b)) h2 w := by
  refine ⟨fun b hb => by show μ (ρ b) = _; rw [r.id b hb]; exact x.agree b hb, r.nx, x.size, x.shape, x.frame, fun b o hb => ?_, x.same, x.gsz⟩
  obtain ⟨o1, q1, _⟩ := r.obj b o hb
  rcases x.fresh _ _ q1 with ⟨hlt, o', ho'⟩ | hge | h3
  · exact .inr (.inr ⟨ρ b, o', ho', x.agree _ hlt⟩)
  · exact .inr (.inl hge)
  · exact .inr (.inr h3)

theorem CSem.ren {f : Nat} {l v v1 : AV} {h h1 h2 : H} {ρ : Nat → Nat} (hs : CSem P f l h v1 h1) (r : Ren h.nx ρ h1 h2) (hv : VLe ρ h2.nx v v1) : CSem P f l h v h2 := by
  intro μ w vs hl hr
  rcases hs μ w vs hl hr with ⟨q1, q2⟩ | ⟨v', μ', w', q1, q2, q3, q4⟩
  · refine .inl ⟨q1, q2.mono ?_⟩
    rintro e w' ⟨v', rfl, μ', p1, p2, p3⟩
    exact ⟨v', rfl, _, r.ext p1, r.hr p2, hv.vr p3⟩
  · exact .inr ⟨v', _, w', q1, r.ext q2, r.hr q3, hv.vr q4⟩

/-- Less is known, under other names, of places too. -/
structure RenE (n : Nat) (ρ : Nat → Nat) (e1 : Env) (h1 : H) (e2 : Env) (h2 : H) : Prop extends Ren n ρ h1 h2 where
  env : ∀ i, VLe ρ h2.nx (e2.get i) (e1.get i)
theorem CodeS.ren {nt : Nat} {c : Code} {e e1 e2 : Env} {h h1 h2 : H} {x : AEx} {ρ : Nat → Nat} (hs : CodeS P nt c e h x e1 h1) (r : RenE h.nx ρ e1 h1 e2 h2) : CodeS P nt c e h x e2 h2 := by
  intro μ a w Q s hq
  refine hs μ a w Q s fun μ' a' w' x s' => hq _ a' w' (r.toRen.ext x) ⟨s'.size, s'.defers, fun i => (r.env i).vr (s'.env i), r.toRen.hr s'.heap⟩
theorem SemC.ren {c : ACode} {e e1 e2 : Env} {h h1 h2 : H} {x : AEx} {ρ : Nat → Nat} (hs : SemC P c e h x e1 h1) (r : RenE h.nx ρ e1 h1 e2 h2) : SemC P c e h x e2 h2 := fun nt c hc => (hs nt c hc).ren r

/-! ### A call known on a part of the heap -/

/-- All blocks that an object names are below n. -/
def OBd (n : Nat) : AO → Prop
  | .row m t df => ∀ i, i < m → bd n ((t.get i).getD df) = true
  | .im t _ _ => ∀ k x, t.get k = some x → bd n x = true
  | .sm l _ => bd n l = true
  | .si _ _ _ => True

theorem rn_id (x : AV) : rn (fun b => b) x = x := by
  induction x with
  | fn f l c il ic => show AV.fn f (rn _ l) (rn _ c) = _; rw [il, ic]
  | ag l il => show AV.ag (rn _ l) = _; rw [il]
  | tu l il => show AV.tu (rn _ l) = _; rw [il]
  | cons a t ia it => show AV.cons (rn _ a) (rn _ t) = _; rw [ia, it]
  | _ => rfl
theorem VLe.refl {n : Nat} {x : AV} (h : bd n x = true) : VLe (fun b => b) n x x := .inr ⟨(rn_id x).symm, h⟩
theorem OBd.orn {n : Nat} {o : AO} (h : OBd n o) : ORn (fun b => b) n o o := by
  cases o with
  | row m t df => exact ⟨Nat.le_refl _, fun i hi => VLe.refl (h i hi)⟩
  | im t c q => exact ⟨rfl, rfl, fun k x hx => ⟨rn_id x, h k x hx⟩⟩
  | sm l c => exact ⟨rfl, rfl, rn_id l, h⟩
  | si l b p => exact ⟨rfl, rfl, rfl⟩
theorem VRL_bd {μ : Nat → Nat} {n1 n2 : Nat} {w : World} {x : AV} (h : bd n2 x = true) {l : List Value} (hv : VRL μ n1 w x l) : VRL μ n2 w x l := by
  have := (VR2_rn (μ := μ) (ρ := fun b => b) (n1 := n1) (n2 := n2) (w := w) x h).2 l
  rw [rn_id] at this
  exact this hv

theorem CSem.frame {f : Nat} {l v : AV} {hs hs' h h' : H} (c : CSem P f l hs v hs') (en : hs'.nx = hs.nx) (hn : hs.nx ≤ h.nx) (hn' : h'.nx = h.nx) (hl : bd hs.nx l = true)
    (h1 : ∀ b, b < hs.nx → h.t.get b = hs.t.get b) (h2 : ∀ b, b < hs.nx → h'.t.get b = hs'.t.get b) (h3 : ∀ b, hs.nx ≤ b → h'.t.get b = h.t.get b)
    (hd : ∀ b o, hs.t.get b = some o → b < hs.nx ∧ OBd hs.nx o) : CSem P f l h v h' := by
  intro μ w vs hvl hr
  have hrs : HR μ hs w := by
    refine ⟨fun b o hb => (hd b o hb).1, fun b o hb => ?_, fun b o b' o' hb hb' e => ?_, hr.gl, fun b o hb => ?_⟩
    · have hlt := (hd b o hb).1
      exact (hd b o hb).2.orn.or (hr.obj b o (by rw [h1 b hlt]; exact hb))
    · exact hr.inj b o b' o' (by rw [h1 b (hd b o hb).1]; exact hb) (by rw [h1 b' (hd b' o' hb').1]; exact hb') e
    · exact hr.low b o (by rw [h1 b (hd b o hb).1]; exact hb)
  have key : ∀ {μ' : Nat → Nat} {w' : World}, Ext μ hs w μ' hs' w' → HR μ' hs' w' → Ext μ h w μ h' w' ∧ HR μ h' w' := by
    intro μ' w' x hr'
    have ag : ∀ b, b < hs.nx → μ b = μ' b := fun b hb => (x.agree b hb).symm
    have lt' : ∀ b o, hs'.t.get b = some o → b < hs.nx := fun b o hb => by rw [← en]; exact hr'.lt b o hb
    have lo : ∀ b o, b < hs.nx → h'.t.get b = some o → hs'.t.get b = some o := fun b o hlt hb => by rw [← h2 b hlt]; exact hb
    have hi : ∀ b o, hs.nx ≤ b → h'.t.get b = some o → h.t.get b = some o := fun b o hge hb => by rw [← h3 b hge]; exact hb
    have same : ∀ b o, hs.nx ≤ b → h.t.get b = some o → w'.heap[μ b]? = w.heap[μ b]? := fun b o hge hb => x.frame _ (hr.block_lt hb) fun b0 o0 h0 e => by
      have := hr.inj b0 o0 b o (by rw [h1 b0 (hd b0 o0 h0).1]; exact h0) hb e
      have := (hd b0 o0 h0).1
      omega
    have apart : ∀ b o b' o', b < hs.nx → hs.nx ≤ b' → hs'.t.get b = some o → h.t.get b' = some o' → μ b ≠ μ b' := fun b o b' o' hlt hge hb hb' e => by
      rcases x.fresh b o hb with ⟨_, o2, ho2⟩ | hsz | ⟨b0, o0, h0, e0⟩
      · have := hr.inj b o2 b' o' (by rw [h1 b hlt]; exact ho2) hb' e
        omega
      · have := hr.block_lt hb'
        rw [← e, ag b hlt] at this
        omega
      · have := hr.inj b0 o0 b' o' (by rw [h1 b0 (hd b0 o0 h0).1]; exact h0) hb' (by rw [← e, ag b hlt, e0])
        have := (hd b0 o0 h0).1
        omega
    refine ⟨⟨fun _ _ => rfl, by rw [hn']; exact Nat.le_refl _, x.size, x.shape, fun c hc hf => x.frame c hc fun b o hb => hf b o (by rw [h1 b (hd b o hb).1]; exact hb), fun b o hb => ?_, x.same, x.gsz⟩,
      fun b o hb => ?_, fun b o hb => ?_, fun b o b' o' hb hb' e => ?_, hr'.gl, fun b o hb => ?_⟩
    · rcases Nat.lt_or_ge b hs.nx with hlt | hge
      · rcases x.fresh b o (lo b o hlt hb) with ⟨_, o2, ho2⟩ | hsz | ⟨b0, o0, h0, e0⟩
        · exact .inl ⟨by omega, o2, by rw [h1 b hlt]; exact ho2⟩
        · exact .inr (.inl (by rw [ag b hlt]; exact hsz))
        · exact .inr (.inr ⟨b0, o0, by rw [h1 b0 (hd b0 o0 h0).1]; exact h0, by rw [ag b hlt]; exact e0⟩)
      · exact .inl ⟨hr.lt b o (hi b o hge hb), o, hi b o hge hb⟩
    · rw [hn']
      rcases Nat.lt_or_ge b hs.nx with hlt | hge
      · omega
      · exact hr.lt b o (hi b o hge hb)
    · rw [hn']
      rcases Nat.lt_or_ge b hs.nx with hlt | hge
      · rw [ag b hlt]
        exact (hr'.obj b o (lo b o hlt hb)).mono (fun b hb => ag b (by omega)) (by omega) (fun _ _ h => h)
      · rw [same b o hge (hi b o hge hb)]
        exact (hr.obj b o (hi b o hge hb)).mono (fun _ _ => rfl) (Nat.le_refl _) x.shape
    · rcases Nat.lt_or_ge b hs.nx with hlt | hge <;> rcases Nat.lt_or_ge b' hs.nx with hlt' | hge'
      · rw [ag b hlt, ag b' hlt'] at e
        exact hr'.inj b o b' o' (lo b o hlt hb) (lo b' o' hlt' hb') e
      · exact absurd e (apart b o b' o' hlt hge' (lo b o hlt hb) (hi b' o' hge' hb'))
      · exact absurd e.symm (apart b' o' b o hlt' hge (lo b' o' hlt' hb') (hi b o hge hb))
      · exact hr.inj b o b' o' (hi b o hge hb) (hi b' o' hge' hb') e
    · rcases Nat.lt_or_ge b hs.nx with hlt | hge
      · rw [ag b hlt]; exact hr'.low b o (lo b o hlt hb)
      · exact hr.low b o (hi b o hge hb)
  have kv : ∀ {μ' : Nat → Nat} {w' : World} {v' : Value}, Ext μ hs w μ' hs' w' → VR μ' hs'.nx w' v v' → VR μ h'.nx w' v v' := fun x hv => hv.mono (fun b hb => (x.agree b (by rw [← en]; exact hb)).symm) (by rw [hn', en]; exact hn) (fun _ _ h => h)
  rcases c μ w vs (VRL_bd hl hvl) hrs with ⟨q1, q2⟩ | ⟨v', μ', w', q1, q2, q3, q4⟩
  · refine .inl ⟨q1, q2.mono ?_⟩
    rintro e w' ⟨v', rfl, μ', p1, p2, p3⟩
    exact ⟨v', rfl, μ, (key p1 p2).1, (key p1 p2).2, kv p1 p3⟩
  · exact .inr ⟨v', μ, w', q1, (key q2 q3).1, (key q2 q3).2, kv q2 q4⟩

/-! ### The end of a walk -/

open Classical in
/-- Asks for a function's answer, where less is known behind it, under other names. -/
noncomputable def endF (n : Nat) (v : AV) (h' : H) : AV → H → Res := fun v1 h1 => if ∃ ρ, Ren n ρ h1 h' ∧ VLe ρ h'.nx v v1 then .ok .u h' else .fail 0
/-- What a function comes to, by a walk. -/
theorem csem_u (hmix : P.follows .mixedOrders = true) {f : Nat} {ps : List Ix} {body : ACode} {rs : RSt} {l v : AV} {h h' : H} (hcf : cmpF P f = some (.fn ps body rs))
    (hg : ∀ (M : Mac) (_ : IsM P M) (K : AV → H → Res), (∀ ρ v1 h1, Ren h.nx ρ h1 h' → VLe ρ h'.nx v v1 → (K v1 h1).good) → (bind8 ps l fun e => cKG M body M.ck M.ih e h (retXG M rs K)).good) : CSem P f l h v h' := by
  have hg1 : (bind8 ps l fun e => cKG (stdM P) body (ckU P) (ihU P) e h (retX rs (endF h.nx v h'))).good := hg (stdM P) ⟨rfl⟩ (endF h.nx v h') fun ρ v1 h1 r hv => by
    unfold endF
    rw [if_pos ⟨ρ, r, hv⟩]
    exact ⟨_, _, rfl⟩
  obtain ⟨v1, h1, hs, hk⟩ := fn_good (ih := fun c => cKG (stdM P) c (ckU P) (ihU P)) (fun nt c ac e h k hc hg => cG_good hmix (ckU_sem P) (ihU_sem P) c e h k hc hg) hcf hg1
  unfold endF at hk
  split at hk
  · rename_i q
    obtain ⟨ρ, r, hv⟩ := q
    exact hs.ren r hv
  · exact absurd hk Res.not_good_fail

open Classical in
/-- Asks for a piece's end. -/
noncomputable def endC (n : Nat) (x : AEx) (e' : Env) (h' : H) : KX := fun x1 e1 h1 => if x1 = x ∧ ∃ ρ, RenE n ρ e1 h1 e' h' then .ok .u h' else .fail 0
/-- What a piece comes to, by a walk. -/
theorem semC_u (hmix : P.follows .mixedOrders = true) {a : ACode} {e e' : Env} {h h' : H} {x : AEx}
    (hg : ∀ (M : Mac) (_ : IsM P M) (K : KX), (∀ ρ e1 h1, RenE h.nx ρ e1 h1 e' h' → (K x e1 h1).good) → (cKG M a M.ck M.ih e h K).good) : SemC P a e h x e' h' := by
  intro nt c hc
  have hg1 : (cKG (stdM P) a (ckU P) (ihU P) e h (endC h.nx x e' h')).good := hg (stdM P) ⟨rfl⟩ (endC h.nx x e' h') fun ρ e1 h1 r => by
    unfold endC
    rw [if_pos ⟨rfl, ρ, r⟩]
    exact ⟨_, _, rfl⟩
  obtain ⟨x1, e1, h1, hs, hk⟩ := cG_good hmix (ckU_sem P) (ihU_sem P) c e h _ hc hg1
  unfold endC at hk
  split at hk
  · rename_i q
    obtain ⟨rfl, ρ, r⟩ := q
    exact hs.ren r
  · exact absurd hk Res.not_good_fail
end
end Go.Ev
namespace Go.Ev
set_option maxRecDepth 100000

/-! ### Lists of any length -/

/-- n cells of a row. -/
noncomputable def rowOf (L : Nat → AV) : Nat → PT AV
  | 0 => .nil
  | n + 1 => PT.updF (rowOf L n) n (some (L n))
theorem rowOf_get (L : Nat → AV) : ∀ (n i : Nat), n ≤ 262144 → (rowOf L n).get i = if i < n then some (L i) else none
  | 0, i, _ => by rw [if_neg (by omega)]; exact PT.get_nil i
  | n + 1, i, h => by
    show (PT.updF (rowOf L n) n (some (L n))).get i = _
    rw [PT.upd_get _ _ (by omega), rowOf_get L n i (by omega)]
    by_cases e : i = n
    · rw [if_pos e, if_pos (by omega), e]
    · by_cases e2 : i < n
      · rw [if_neg e, if_pos e2, if_pos (by omega)]
      · rw [if_neg e, if_neg e2, if_neg (by omega)]
def listOf (L : Nat → AV) : Nat → Nat → AV
  | _, 0 => .nil
  | o, n + 1 => .cons (L o) (listOf L (o + 1) n)
theorem cells_list {t : PT AV} {df : AV} {L : Nat → AV} : ∀ (n o : Nat) (k : AV → Res), (∀ i, o ≤ i → i < o + n → (t.get i).getD df = L i) → cellsOfK t df n o k = k (listOf L o n)
  | 0, o, k, _ => rfl
  | n + 1, o, k, h => by
    show cellK t df o (fun v => forceN (Nat.succ o) fun i' => cellsOfK t df n i' fun l => k (.cons v l)) = _
    rw [cellK_eq, forceN_eq, h o (by omega) (by omega), show Nat.succ o = o + 1 from rfl, cells_list n (o + 1) _ (fun i h1 h2 => h i (by omega) (by omega))]
    rfl
theorem puts_list {L : Nat → AV} : ∀ (n o : Nat) (k : Nat → PT AV → Res), o + n ≤ 262144 → putsK (listOf L o n) o (rowOf L o) k = k (o + n) (rowOf L (o + n))
  | 0, o, k, _ => rfl
  | n + 1, o, k, h => by
    show PT.updK 40 (rowOf L o) o (some (L o)) (fun t' => forceN (Nat.succ o) fun i' => putsK (listOf L (o + 1) n) i' t' k) = _
    rw [PT.updK_eq (by omega), forceN_eq]
    show putsK (listOf L (o + 1) n) (o + 1) (rowOf L (o + 1)) k = _
    rw [puts_list n (o + 1) k (by omega), show o + 1 + n = o + (n + 1) by omega]
/-- The number that bytes stand for. -/
def bsum (c : Nat → Nat) : Nat → Nat
  | 0 => 0
  | n + 1 => bsum c n + c n * 256 ^ n
theorem bsum_lt {c : Nat → Nat} (h : ∀ i, c i < 256) : ∀ n, bsum c n < 256 ^ n
  | 0 => by show 0 < 1; omega
  | n + 1 => by
    have h1 := bsum_lt h n
    have h2 : c n * 256 ^ n ≤ 255 * 256 ^ n := Nat.mul_le_mul_right _ (by have := h n; omega)
    show bsum c n + c n * 256 ^ n < 256 ^ (n + 1)
    rw [Nat.pow_succ]; omega
theorem bytes_list {c : Nat → Nat} (hc : ∀ i, c i < 256) : ∀ (n o : Nat) (k : Nat → Nat → Res), bytesK (listOf (fun i => .w .u8 (c i)) o n) o (bsum c o) k = k (o + n) (bsum c (o + n))
  | 0, o, k => rfl
  | n + 1, o, k => by
    show iteK (Nat.beq (kcode .u8) 4) (iteK (Nat.ble (c o) 255) (forceN (Nat.add (bsum c o) (Nat.shiftLeft (c o) (Nat.mul 8 o))) fun acc => forceN (Nat.succ o) fun i => bytesK (listOf (fun i => .w .u8 (c i)) (o + 1) n) i acc k) (.fail 85)) (.fail 85) = _
    rw [iteK_eq, if_pos (show Nat.beq (kcode .u8) 4 = true from rfl), iteK_eq, if_pos (Nat.ble_eq_true_of_le (by have := hc o; omega)), forceN_eq, forceN_eq]
    have e : Nat.add (bsum c o) (Nat.shiftLeft (c o) (Nat.mul 8 o)) = bsum c (o + 1) := by
      show bsum c o + c o <<< (8 * o) = bsum c o + c o * 256 ^ o
      rw [Nat.shiftLeft_eq, pow256]
    rw [e]
    show bytesK _ (o + 1) _ _ = _
    rw [bytes_list hc n (o + 1) k, show o + 1 + n = o + (n + 1) by omega]
/-- A byte of a string. -/
def byteAt (bits i : Nat) : Nat := Nat.mod (Nat.shiftRight bits (Nat.mul 8 i)) 256
theorem byteAt_eq (bits i : Nat) : byteAt bits i = bits / 256 ^ i % 256 := by
  show bits >>> (8 * i) % 256 = _
  rw [Nat.shiftRight_eq_div_pow, pow256]
theorem byteAt_lt (bits i : Nat) : byteAt bits i < 256 := Nat.mod_lt _ (by decide)
theorem bsum_byteAt (bits : Nat) : ∀ n, bsum (byteAt bits) n = bits % 256 ^ n
  | 0 => by show 0 = bits % 1; omega
  | n + 1 => by
    show bsum (byteAt bits) n + byteAt bits n * 256 ^ n = _
    rw [bsum_byteAt bits n, byteAt_eq, Nat.pow_succ, Nat.mod_mul, Nat.mul_comm (bits / 256 ^ n % 256)]

section
variable {P : Program} {M : Mac} [hM : IsM P M]
include hM

theorem good_cvP {m : Nat} {k : AV → Res} (hm : m < 256) (hk : (k (.p m)).good) : (M.cv .i64 (.w .u8 m) k).good := by
  obtain rfl := hM.eq
  show (okP m k).good
  rw [okP_z k (by unfold top63; omega)]; exact hk
theorem good_cvB {x : AV} {z : Int} [hx : IsZ x z] {k : AV → Res} (hk : (k (.w .u8 (z % 256).toNat)).good) : (M.cv .u8 x k).good := by
  obtain rfl := hM.eq
  obtain rfl := hx.eq
  cases z with
  | ofNat m =>
    show (forceN (Nat.mod m 256) fun m => k (.w .u8 m)).good
    rw [forceN_eq]; exact hk
  | negSucc m =>
    show (mkZ .u8 (IntKind.u8.wrap (Int.negSucc m)) k).good
    have e : IntKind.u8.wrap (Int.negSucc m) = ((Int.negSucc m % 256).toNat : Int) := by
      simp only [IntKind.wrap, IntKind.bits, IntKind.signed]
      have : 0 ≤ Int.negSucc m % 256 := Int.emod_nonneg _ (by decide)
      simp
      omega
    rw [e]
    show (forceN (Int.negSucc m % 256).toNat fun m => mkPos .u8 m k).good
    rw [forceN_eq]; exact hk

/-- The first that is appended. -/
theorem good_app0 {t : PT AO} {nx bx by' : Nat} {tx : PT AV} {L : Nat → AV} {k : AV → H → Res} (hx : t.get bx = some (.row 1 tx .u)) (hv : (tx.get 0).getD .u = L 0) (hb : by' ≤ 8) (hn : nx ≤ 262143)
    (hk : (k (.sl nx 0 1 1 2) ⟨PT.updF t nx (some (.row 1 (rowOf L 1) .u)), nx + 1⟩).good) : (M.ap .ns (.sl bx 0 1 1 0) 1 by' ⟨t, nx⟩ k).good := by
  obtain rfl := hM.eq
  show (PT.getK t bx _ _).good
  rw [PT.getK_eq, hx]
  dsimp only [rowK]
  rw [forceN_eq, show Nat.mul 1 1 = 1 from rfl]
  refine good_le (Nat.le_refl 1) ?_
  rw [cells_list (L := L) 1 0 _ (fun i _ h => by rw [show i = 0 by omega]; exact hv)]
  show (iteK (Nat.ble 1 top63) (iteK (Nat.ble (Nat.mul 1 by') bound47) (newRowK (listOf L 0 1) ⟨t, nx⟩ fun b' _ h' => k (.sl b' 0 1 1 (Nat.succ 1)) h') (.fail 68)) (.fail 68)).good
  refine good_le (by unfold top63; omega) (good_le (by show 1 * by' ≤ bound47; unfold bound47; omega) ?_)
  unfold newRowK
  have := puts_list (L := L) 1 0 (fun m t' => newK ⟨t, nx⟩ (.row m t' .u) fun b h' => k (.sl b 0 1 1 (Nat.succ 1)) h') (by omega)
  rw [show rowOf L 0 = .nil from rfl] at this
  rw [this]
  show (PT.updK 40 t nx _ _).good
  rw [PT.updK_eq hn, forceN_eq]
  exact hk
/-- What is appended to a list that append has made. -/
theorem good_app {t : PT AO} {nx q n bx by' : Nat} {tx : PT AV} {L : Nat → AV} {k : AV → H → Res} (hs : t.get q = some (.row n (rowOf L n) .u)) (hx : t.get bx = some (.row 1 tx .u)) (hv : (tx.get 0).getD .u = L n)
    (hb : by' ≤ 8) (hq : q ≤ 262143) (hn : nx ≤ 262143) (hl : n ≤ 200000)
    (hk : (k (.sl nx 0 (n + 1) (n + 1) 2) ⟨PT.updF (PT.updF t q none) nx (some (.row (n + 1) (rowOf L (n + 1)) .u)), nx + 1⟩).good) : (M.ap (.sl q 0 n n 2) (.sl bx 0 1 1 0) 1 by' ⟨t, nx⟩ k).good := by
  obtain rfl := hM.eq
  show (PT.getK t bx _ _).good
  rw [PT.getK_eq, hx]
  dsimp only [rowK]
  rw [forceN_eq, show Nat.mul 1 1 = 1 from rfl]
  refine good_le (Nat.le_refl 1) ?_
  rw [cells_list (L := fun i => L (n + i)) 1 0 _ (fun i _ h => by rw [show i = 0 by omega]; exact hv)]
  dsimp only [isEz, isSl]
  rw [forceN_eq, show Nat.add n 1 = n + 1 from rfl, iteK_eq, if_neg (fun h => by have := Nat.le_of_ble_eq_true h; omega)]
  refine good_le (by unfold top63; omega) (good_le (by show (n + 1) * by' ≤ bound47; unfold bound47; have := Nat.mul_le_mul (show n + 1 ≤ 200001 by omega) hb; omega) ?_)
  show (PT.getK t q _ _).good
  rw [PT.getK_eq, hs]
  dsimp only [rowK]
  rw [forceN_eq, show Nat.mul n 1 = n from Nat.mul_one n]
  refine good_le (show 0 + n ≤ n by omega) ?_
  rw [cells_list (L := L) n 0 _ (fun i _ h => by rw [rowOf_get L n i (by omega), if_pos (by omega)]; rfl)]
  have e1 := puts_list (L := L) n 0 (fun i t' => putsK (listOf (fun i => L (n + i)) 0 1) i t' fun m t' => Nat.rec (motive := fun _ => Res) (newK ⟨t, nx⟩ (.row m t' .u) fun b' h' => k (.sl b' 0 (n + 1) (n + 1) (Nat.succ 1)) h')
      (fun st1 _ => iteK (Nat.beq st1 1) (iteK (Nat.beq 0 0) (delK ⟨t, nx⟩ q fun h1 => newK h1 (.row m t' .u) fun b' h' => k (.sl b' 0 (n + 1) (n + 1) (Nat.succ 1)) h') (.fail 67)) (.fail 67)) 2) (by omega)
  rw [show rowOf L 0 = .nil from rfl] at e1
  refine (congrArg Res.good e1).mpr ?_
  have e2 := puts_list (L := L) 1 n (fun m t' => Nat.rec (motive := fun _ => Res) (newK ⟨t, nx⟩ (.row m t' .u) fun b' h' => k (.sl b' 0 (n + 1) (n + 1) (Nat.succ 1)) h')
      (fun st1 _ => iteK (Nat.beq st1 1) (iteK (Nat.beq 0 0) (delK ⟨t, nx⟩ q fun h1 => newK h1 (.row m t' .u) fun b' h' => k (.sl b' 0 (n + 1) (n + 1) (Nat.succ 1)) h') (.fail 67)) (.fail 67)) 2) (by omega)
  rw [show 0 + n = n by omega]
  refine (congrArg Res.good e2).mpr ?_
  show (PT.updK 40 t q none _).good
  rw [PT.updK_eq hq]
  show (PT.updK 40 (PT.updF t q none) nx _ _).good
  rw [PT.updK_eq hn, forceN_eq]
  exact hk
theorem good_el0 {h : H} {sz : Nat} {k : AV → Nat → Res} (hk : (k .nil 0).good) : (M.el .ns sz h k).good := by
  obtain rfl := hM.eq
  exact hk
theorem good_by0 {k : Nat → Nat → Res} (hk : (k 0 0).good) : (M.by' .nil 0 0 k).good := by
  obtain rfl := hM.eq
  exact hk
/-- The string of a list of bytes. -/
theorem good_str {t : PT AO} {nx q n : Nat} {c : Nat → Nat} (hc : ∀ i, c i < 256) {k : Nat → Nat → Res} (hs : t.get q = some (.row n (rowOf (fun i => .w .u8 (c i)) n) .u)) (hl : n ≤ 262144) (hk : (k n (bsum c n)).good) :
    (M.el (.sl q 0 n n 2) 1 ⟨t, nx⟩ fun l _ => M.by' l 0 0 k).good := by
  obtain rfl := hM.eq
  show (PT.getK t q _ _).good
  rw [PT.getK_eq, hs]
  dsimp only [rowK]
  rw [forceN_eq, show Nat.mul n 1 = n from Nat.mul_one n]
  refine good_le (show 0 + n ≤ n by omega) ?_
  rw [cells_list (L := fun i => .w .u8 (c i)) n 0 _ (fun i _ h => by rw [rowOf_get _ n i (by omega), if_pos (by omega)]; rfl)]
  show (bytesK (listOf (fun i => .w .u8 (c i)) 0 n) 0 (bsum c 0) k).good
  rw [bytes_list hc n 0 k, show 0 + n = n by omega]
  exact hk
end

/-! ### Ends of pieces -/

theorem drop0 (e1 : Env) (i : Ix) : env0.get i = .u ∨ env0.get i = e1.get i := .inl (env0_get i)
theorem drop1 {e e1 : Env} {j : Ix} {v : AV} (hv : v = e1.get j) (h : ∀ i, e.get i = .u ∨ e.get i = e1.get i) (i : Ix) : (e.set j v).get i = .u ∨ (e.set j v).get i = e1.get i := by
  rw [Env.get_set]
  by_cases q : i = j
  · rw [if_pos q, q]; exact .inr hv
  · rw [if_neg q]; exact h i

section
variable {P : Program}
open Classical in
noncomputable def endD (x : AEx) (e' : Env) (h' : H) : KX := fun x1 e1 h1 => if x1 = x ∧ Drop e1 h1 e' h' then .ok .u h' else .fail 0
/-- What a piece comes to, by a walk: less is known behind it. -/
theorem semC_d (hmix : P.follows .mixedOrders = true) {a : ACode} {e e' : Env} {h h' : H} {x : AEx}
    (hg : ∀ (M : Mac) (_ : IsM P M) (K : KX), (∀ e1, (∀ i, e'.get i = .u ∨ e'.get i = e1.get i) → (K x e1 h').good) → (cKG M a M.ck M.ih e h K).good) : SemC P a e h x e' h' := by
  intro nt c hc
  have hg1 : (cKG (stdM P) a (ckU P) (ihU P) e h (endD x e' h')).good := hg (stdM P) ⟨rfl⟩ (endD x e' h') fun e1 r => by
    unfold endD
    rw [if_pos ⟨rfl, ⟨r, rfl, fun j => .inr rfl⟩⟩]
    exact ⟨_, _, rfl⟩
  obtain ⟨x1, e1, h1, hs, hk⟩ := cG_good hmix (ckU_sem P) (ihU_sem P) c e h _ hc hg1
  unfold endD at hk
  split at hk
  · rename_i q
    obtain ⟨rfl, r⟩ := q
    exact hs.drop r
  · exact absurd hk Res.not_good_fail

open Classical in
noncomputable def endE (v : AV) (h' : H) : AV → H → Res := fun v1 h1 => if v1 = v ∧ h1 = h' then .ok .u h' else .fail 0
/-- What a function comes to, by a walk: to the letter. -/
theorem csem_e (hmix : P.follows .mixedOrders = true) {f : Nat} {ps : List Ix} {body : ACode} {rs : RSt} {l v : AV} {h h' : H} (hcf : cmpF P f = some (.fn ps body rs))
    (hg : ∀ (M : Mac) (_ : IsM P M) (K : AV → H → Res), (K v h').good → (bind8 ps l fun e => cKG M body M.ck M.ih e h (retXG M rs K)).good) : CSem P f l h v h' := by
  have hg1 : (bind8 ps l fun e => cKG (stdM P) body (ckU P) (ihU P) e h (retX rs (endE v h'))).good := hg (stdM P) ⟨rfl⟩ (endE v h') (by
    unfold endE
    rw [if_pos ⟨rfl, rfl⟩]
    exact ⟨_, _, rfl⟩)
  obtain ⟨v1, h1, hs, hk⟩ := fn_good (ih := fun c => cKG (stdM P) c (ckU P) (ihU P)) (fun nt c ac e h k hc hg => cG_good hmix (ckU_sem P) (ihU_sem P) c e h k hc hg) hcf hg1
  unfold endE at hk
  split at hk
  · rename_i q
    obtain ⟨rfl, rfl⟩ := q
    exact hs
  · exact absurd hk Res.not_good_fail

/-- A read-only call in a world that is a part of the heap. -/
theorem CSem.onH {f : Nat} {l v : AV} {h0 h : H} (c : CSem P f l h0 v h0) (hl : bd h0.nx l = true) (hd : ∀ b o, h0.t.get b = some o → b < h0.nx ∧ OBd h0.nx o) (hn : h0.nx ≤ h.nx) (h1 : ∀ b, b < h0.nx → h.t.get b = h0.t.get b) : CSem P f l h v h :=
  CSem.frame c rfl hn rfl hl h1 h1 (fun _ _ => rfl) hd
end
end Go.Ev
namespace Go.Ev
set_option maxRecDepth 100000

section
variable {P : Program} {M : Mac} [hM : IsM P M]
include hM
omit hM in
theorem good_cl {l v : AV} {n b c : Nat} {k : AV → Nat → Res} {z : Res} (h : ∀ (k : AV → Nat → Res) z, smGetK l n b k z = k v c) (hk : (k v c).good) : (smGetK l n b k z).good := by
  rw [h]; exact hk
theorem good_fs0 {h : Nat} {k : Nat → Res} (hk : (k h).good) : (M.fo (Nat.sub h 0) k).good := good_force hk
theorem good_fbits {b n : Nat} {k : Nat → Res} (hk : (k (b % 256 ^ n)).good) : (M.fo (Nat.mod (Nat.shiftRight b (Nat.mul 8 0)) (Nat.pow 2 (Nat.mul 8 n))) k).good := by
  refine good_fl (i := b % 256 ^ n) ?_ hk
  show b >>> (8 * 0) % 2 ^ (8 * n) = _
  rw [pow256]; rfl
theorem bin_half {m : Nat} (hm : m ≤ 9223372036854775807) {k : AV → Res} (hk : (k (.p (m / 2))).good) : (M.bin .quo (.p m) (.p 2) k).good := by
  refine bin_quo (by decide) ?_ ?_ ?_
  · show -9223372036854775808 ≤ ((m / 2 : Nat) : Int); omega
  · show ((m / 2 : Nat) : Int) ≤ 9223372036854775807; omega
  · exact hk
theorem bin_cat {l1 b1 l2 b2 : Nat} {k : AV → Res} (h : l1 + l2 ≤ 9223372036854775807) (hk : (k (.s (l1 + l2) (b1 + b2 * 256 ^ l1))).good) : (M.bin .add (.s l1 b1) (.s l2 b2) k).good := by
  obtain rfl := hM.eq
  show (addS l1 b1 l2 b2 k).good
  unfold addS
  rw [forceN_eq]
  refine good_le (by unfold top63; exact h) ?_
  rw [forceN_eq]
  have e : Nat.add b1 (Nat.shiftLeft b2 (Nat.mul 8 l1)) = b1 + b2 * 256 ^ l1 := by
    show b1 + b2 <<< (8 * l1) = _
    rw [Nat.shiftLeft_eq, pow256]
  rw [e]; exact hk
theorem good_ng {x : OA} {e : Env} {z : Int} {k : AV → Res} (hx : ∀ k, oK x k e = k (zAV z)) (h0 : -9223372036854775808 ≤ 0 - z) (h1 : 0 - z ≤ 9223372036854775807) (hk : (k (zAV (0 - z))).good) : (M.ng x e k).good := by
  obtain rfl := hM.eq
  show (hNg x e k).good
  unfold hNg
  rw [hx, zK_zAV, wrap_in h0 h1, mkZ_eq]; exact hk
theorem bin_eqs {l1 b1 l2 b2 : Nat} {k : AV → Res} (h1 : eqS l1 b1 l2 b2 = true → (k (.b true)).good) (h0 : eqS l1 b1 l2 b2 = false → (k (.b false)).good) : (M.bin .eql (.s l1 b1) (.s l2 b2) k).good := by
  obtain rfl := hM.eq
  show (boolK (eqS l1 b1 l2 b2) k).good
  exact good_bool h1 h0
end

/-- A map's entries as a written list, and more behind them. -/
def syB : List (Nat × Nat × Nat × Nat) → AV → AV
  | [], t => t
  | (l, b, v, c) :: r, t => .cons (ent l b (.p v) c) (syB r t)
def syA (S : List (Nat × Nat × Nat × Nat)) : AV := syB S .nil
theorem syB_app (n b v c : Nat) : ∀ S, syB S (.cons (ent n b (.p v) c) .nil) = syA (S ++ [(n, b, v, c)])
  | [] => rfl
  | (l, b', v', c') :: r => congrArg (AV.cons (ent l b' (.p v') c')) (syB_app n b v c r)
noncomputable def sfind (n b : Nat) : List (Nat × Nat × Nat × Nat) → Option (Nat × Nat)
  | [] => none
  | (l, b', v, c) :: r => if eqS n b l b' = true then some (v, c) else sfind n b r
theorem sm_get (n b : Nat) (k : AV → Nat → Res) (z : Res) : ∀ S, smGetK (syA S) n b k z = match sfind n b S with | some (v, c) => k (.p v) c | none => z
  | [] => rfl
  | (l, b', v, c) :: r => by
    show iteK (eqS n b l b') (k (.p v) c) (smGetK (syA r) n b k z) = _
    rw [iteK_eq]
    unfold sfind
    by_cases h : eqS n b l b' = true
    · rw [if_pos h, if_pos h]
    · rw [if_neg h, if_neg h, sm_get n b k z r]
theorem sm_put (n b : Nat) (v : AV) (c : Nat) : ∀ (S : List (Nat × Nat × Nat × Nat)) (k kn : AV → Res), sfind n b S = none → smPutK (syA S) n b v c k kn = kn (syB S (.cons (ent n b v c) .nil))
  | [], k, kn, _ => rfl
  | (l, b', v', c') :: r, k, kn, h => by
    unfold sfind at h
    by_cases q : eqS n b l b' = true
    · rw [if_pos q] at h; cases h
    · rw [if_neg q] at h
      show iteK (eqS n b l b') _ (smPutK (syA r) n b v c _ _) = _
      rw [iteK_eq, if_neg q, sm_put n b v c r _ _ h]
      rfl
theorem sm_born (n b : Nat) (a v : AV) (c : Nat) : ∀ (S : List (Nat × Nat × Nat × Nat)) (k : AV → Res), (∀ e ∈ S, e.2.2.2 < c) → smBornK (syB S (.cons (ent n b a c) .nil)) c v k = k (syB S (.cons (ent n b v c) .nil))
  | [], k, _ => by
    show iteK (Nat.beq c c) _ _ = _
    rw [iteK_eq, if_pos (Nat.beq_refl c)]; rfl
  | (l, b', v', c') :: r, k, h => by
    have h1 := h _ (List.mem_cons_self ..)
    show iteK (Nat.beq c c') _ (smBornK (syB r _) c v _) = _
    rw [iteK_eq, if_neg (fun q => by have := Nat.eq_of_beq_eq_true q; simp at h1; omega), sm_born n b a v c r _ (fun e he => h e (List.mem_cons_of_mem _ he))]
    rfl

theorem eqS_true {n b l b' : Nat} (h : eqS n b l b' = true) : n = l ∧ b = b' := by
  unfold eqS at h
  cases q : Nat.beq n l with
  | false => rw [q] at h; cases h
  | true => rw [q] at h; exact ⟨Nat.eq_of_beq_eq_true q, Nat.eq_of_beq_eq_true h⟩
theorem sfind_mem {n b v c : Nat} : ∀ {S}, sfind n b S = some (v, c) → (n, b, v, c) ∈ S
  | [], h => by cases h
  | (l, b', v', c') :: r, h => by
    unfold sfind at h
    by_cases q : eqS n b l b' = true
    · rw [if_pos q] at h
      obtain ⟨rfl, rfl⟩ := eqS_true q
      cases h
      exact List.mem_cons_self ..
    · rw [if_neg q] at h
      exact List.mem_cons_of_mem _ (sfind_mem h)
section
variable {P : Program} {M : Mac} [hM : IsM P M] {t : PT AO} {nx bl n b c : Nat} {m key s x : OA} {e : Env} {k : AV → H → Res} {S : List (Nat × Nat × Nat × Nat)}
include hM
theorem good_mes {zero : AV} (hm : ∀ k, oK m k e = k (.mp bl)) (hk : ∀ k, oK key k e = k (.s n b)) (hr : t.get bl = some (.sm (syA S) c)) (hS : sfind n b S = none) (hb : bl ≤ 262143)
    (hg : (k (.tu (.cons zero (.cons (.p c) .nil))) ⟨PT.updF t bl (some (.sm (syB S (.cons (ent n b zero c) .nil)) (c + 1))), nx⟩).good) : (M.mes zero m key e ⟨t, nx⟩ k).good := by
  obtain rfl := hM.eq
  show (wMes zero m key e ⟨t, nx⟩ k).good
  unfold wMes
  rw [hm]
  show (PT.getK t bl _ _).good
  rw [PT.getK_eq, hr]
  show (oK key _ e).good
  rw [hk]
  show (smGetK (syA S) n b _ _).good
  rw [sm_get, hS]
  show (smPutK (syA S) n b zero c _ _).good
  rw [sm_put n b zero c S _ _ hS, forceN_eq]
  show (PT.updK 40 t bl _ _).good
  rw [PT.updK_eq hb]
  exact hg
theorem good_ess {a v : AV} {c' : Nat} (hm : ∀ k, oK m k e = k (.mp bl)) (hs : ∀ k, oK s k e = k (.p c)) (hv : ∀ k, oK x k e = k v) (hr : t.get bl = some (.sm (syB S (.cons (ent n b a c) .nil)) c')) (hS : ∀ e ∈ S, e.2.2.2 < c) (hb : bl ≤ 262143)
    (hg : (k .u ⟨PT.updF t bl (some (.sm (syB S (.cons (ent n b v c) .nil)) c')), nx⟩).good) : (M.ess m s x e ⟨t, nx⟩ k).good := by
  obtain rfl := hM.eq
  show (wEss m s x e ⟨t, nx⟩ k).good
  unfold wEss
  rw [hm]
  show (PT.getK t bl _ _).good
  rw [PT.getK_eq, hr]
  show (oK s _ e).good
  rw [hs]
  show (oK x _ e).good
  rw [hv, sm_born n b a v c S _ hS]
  show (PT.updK 40 t bl _ _).good
  rw [PT.updK_eq hb]
  exact hg
omit hM in
theorem good_smH {k : AV → Nat → Res} {z : Res} {v c : Nat} (hs : sfind n b S = some (v, c)) (hk : (k (.p v) c).good) : (smGetK (syA S) n b k z).good := by
  rw [sm_get, hs]; exact hk
omit hM in
theorem good_smM {k : AV → Nat → Res} {z : Res} (hs : sfind n b S = none) (hk : z.good) : (smGetK (syA S) n b k z).good := by
  rw [sm_get, hs]; exact hk
end
end Go.Ev
namespace Go.Ev
set_option maxRecDepth 100000

/-- p holds of all that stands in a trie of l levels, whose first number is b. -/
def allT (p : Nat → AV → Bool) : Nat → PT AV → Nat → Bool
  | 0, .lf x, b => p b x
  | l + 1, .nd a0 a1 a2 a3 a4 a5 a6 a7, b => allT p l a0 b && (allT p l a1 (b + 8 ^ l) && (allT p l a2 (b + 2 * 8 ^ l) && (allT p l a3 (b + 3 * 8 ^ l) && (allT p l a4 (b + 4 * 8 ^ l) && (allT p l a5 (b + 5 * 8 ^ l) && (allT p l a6 (b + 6 * 8 ^ l) && allT p l a7 (b + 7 * 8 ^ l)))))))
  | _, .nil, _ => true
  | _, _, _ => false

theorem dg_nat (l i : Nat) : (dg l i).toNat = i / 8 ^ l % 8 := by
  have h8 : (8 : Nat) ^ l = 2 ^ (3 * l) := by rw [show (8 : Nat) = 2 ^ 3 from rfl, ← Nat.pow_mul]
  have e : ∀ k, i.testBit (3 * l + k) = decide (i / 8 ^ l / 2 ^ k % 2 = 1) := fun k => by
    rw [Nat.testBit_eq_decide_div_mod_eq, Nat.pow_add, ← Nat.div_div_eq_div_mul, h8]
  unfold dg
  rw [digI_bits, e 2, e 1, show 3 * l = 3 * l + 0 from rfl, e 0]
  generalize i / 8 ^ l = q
  have e4 : q / 2 ^ 2 = q / 4 := rfl
  have e2 : q / 2 ^ 1 = q / 2 := rfl
  have e1 : q / 2 ^ 0 = q := Nat.div_one q
  rw [e4, e2, e1]
  by_cases b2 : q / 4 % 2 = 1 <;> by_cases b1 : q / 2 % 2 = 1 <;> by_cases b0 : q % 2 = 1 <;> simp only [b2, b1, b0, decide_true, decide_false, Bool.not_true, Bool.not_false, d3, I8.toNat] <;> omega

theorem allT_get (p : Nat → AV → Bool) : ∀ (l : Nat) (t : PT AV) (b i : Nat) (x : AV), allT p l t b = true → PT.getL l t i = some x → p (b + i % 8 ^ l) x = true
  | 0, .lf y, b, i, x, h, hg => by
    cases hg
    rw [show i % 8 ^ 0 = 0 by omega]; exact h
  | 0, .nil, b, i, x, h, hg => by cases hg
  | 0, .nd .., b, i, x, h, hg => by cases hg
  | 0, .s1 .., b, i, x, h, hg => by cases hg
  | l + 1, .nil, b, i, x, h, hg => by cases hg
  | l + 1, .lf _, b, i, x, h, hg => by cases hg
  | l + 1, .s1 .., b, i, x, h, hg => by cases hg
  | l + 1, .nd a0 a1 a2 a3 a4 a5 a6 a7, b, i, x, h, hg => by
    have hd := dg_nat l i
    have hm : i % 8 ^ (l + 1) = (i / 8 ^ l % 8) * 8 ^ l + i % 8 ^ l := by
      rw [Nat.pow_succ, Nat.mod_mul, Nat.mul_comm (8 ^ l)]; omega
    rw [hm, ← hd]
    have h : (allT p l a0 b && (allT p l a1 (b + 8 ^ l) && (allT p l a2 (b + 2 * 8 ^ l) && (allT p l a3 (b + 3 * 8 ^ l) && (allT p l a4 (b + 4 * 8 ^ l) && (allT p l a5 (b + 5 * 8 ^ l) && (allT p l a6 (b + 6 * 8 ^ l) && allT p l a7 (b + 7 * 8 ^ l)))))))) = true := h
    simp only [Bool.and_eq_true] at h
    obtain ⟨h0, h1, h2, h3, h4, h5, h6, h7⟩ := h
    rw [PT.getL] at hg
    cases hc : dg l i <;> rw [hc] at hg <;> simp only [PT.ch] at hg <;> simp only [I8.toNat]
    · have := allT_get p l a0 b i x h0 hg; rw [Nat.zero_mul, Nat.zero_add]; exact this
    · have := allT_get p l a1 _ i x h1 hg; rw [Nat.one_mul, ← Nat.add_assoc]; exact this
    · have := allT_get p l a2 _ i x h2 hg; rw [← Nat.add_assoc]; exact this
    · have := allT_get p l a3 _ i x h3 hg; rw [← Nat.add_assoc]; exact this
    · have := allT_get p l a4 _ i x h4 hg; rw [← Nat.add_assoc]; exact this
    · have := allT_get p l a5 _ i x h5 hg; rw [← Nat.add_assoc]; exact this
    · have := allT_get p l a6 _ i x h6 hg; rw [← Nat.add_assoc]; exact this
    · have := allT_get p l a7 _ i x h7 hg; rw [← Nat.add_assoc]; exact this

theorem all_get (p : Nat → AV → Bool) {a0 a1 a2 a3 a4 a5 a6 a7 : PT AV} (h : allT p 6 (.nd a0 a1 a2 a3 a4 a5 a6 a7) 0 = true) {i : Nat} {x : AV} (hg : (PT.nd a0 a1 a2 a3 a4 a5 a6 a7).get i = some x) : p i x = true := by
  have hg : (if i < 262144 then PT.getL 6 (.nd a0 a1 a2 a3 a4 a5 a6 a7) i else none) = some x := hg
  by_cases hi : i < 262144
  · rw [if_pos hi] at hg
    have := allT_get p 6 _ 0 i x h hg
    rw [Nat.zero_add, Nat.mod_eq_of_lt (show i < 8 ^ 6 from hi)] at this
    exact this
  · rw [if_neg hi] at hg; cases hg
def isNd : PT AV → Bool
  | .nd .. => true
  | _ => false
theorem all_getN (p : Nat → AV → Bool) {t : PT AV} (hn : isNd t = true) (h : allT p 6 t 0 = true) {i : Nat} {x : AV} (hg : t.get i = some x) : p i x = true := by
  cases t with
  | nd a0 a1 a2 a3 a4 a5 a6 a7 => exact all_get p h hg
  | _ => cases hn
end Go.Ev
namespace Go.Ev
section
variable {P : Program}

theorem nilg {n : Nat} (b : Nat) : (H.mk PT.nil n).t.get b = none := PT.get_nil b
theorem VR2_up {μ μ2 ρ : Nat → Nat} {n1 n2 : Nat} {w : World} (hm : ∀ b, b < n1 → μ2 (ρ b) = μ b ∧ ρ b < n2) : ∀ x : AV, (∀ v, (VR2 μ n1 w x).1 v → (VR2 μ2 n2 w (rn ρ x)).1 v) ∧ (∀ l, (VR2 μ n1 w x).2 l → (VR2 μ2 n2 w (rn ρ x)).2 l) := by
  intro x
  induction x with
  | pt b o => exact ⟨fun v ⟨h, e⟩ => ⟨(hm b h).2, by rw [(hm b h).1]; exact e⟩, fun l h => h⟩
  | mp b => exact ⟨fun v ⟨h, e⟩ => ⟨(hm b h).2, by rw [(hm b h).1]; exact e⟩, fun l h => h⟩
  | sl b o len cap st =>
    refine ⟨fun v ⟨h, hl, c, e, h0, h1⟩ => ⟨(hm b h).2, hl, c, by rw [(hm b h).1]; exact e, h0, fun hst => ?_⟩, fun l h => h⟩
    rw [(hm b h).1]; exact h1 hst
  | fn f l c il ic => exact ⟨fun v ⟨xs, ys, e, h1, h2⟩ => ⟨xs, ys, e, il.2 _ h1, ic.2 _ h2⟩, fun l h => h⟩
  | ag l il => exact ⟨fun v ⟨xs, e, h1, h2⟩ => ⟨xs, e, il.2 _ h1, h2⟩, fun l h => h⟩
  | tu l il => exact ⟨fun v ⟨xs, e, h1⟩ => ⟨xs, e, il.2 _ h1⟩, fun l h => h⟩
  | cons h t ih it => exact ⟨fun v h => h, fun l ⟨x, xs, e, h1, h2⟩ => ⟨x, xs, e, ih.1 _ h1, it.2 _ h2⟩⟩
  | _ => exact ⟨fun v h => h, fun l h => h⟩

/-- The first k of a function, as a trie. -/
noncomputable def mkT {α : Type} (g : Nat → Option α) : Nat → PT α
  | 0 => .nil
  | k + 1 => PT.updF (mkT g k) k (g k)
theorem mkT_get {α : Type} (g : Nat → Option α) : ∀ (k i : Nat), k ≤ 262144 → (mkT g k).get i = if i < k then g i else none
  | 0, i, _ => by rw [if_neg (by omega)]; exact PT.get_nil i
  | k + 1, i, h => by
    show (PT.updF (mkT g k) k (g k)).get i = _
    rw [PT.upd_get _ _ (by omega), mkT_get g k i (by omega)]
    by_cases e : i = k
    · rw [if_pos e, if_pos (by omega), e]
    · by_cases e2 : i < k
      · rw [if_neg e, if_pos e2, if_pos (by omega)]
      · rw [if_neg e, if_neg e2, if_neg (by omega)]
/-- An object under other names. -/
noncomputable def upO (ρ : Nat → Nat) : AO → AO
  | .row m t df => .row m (mkT (fun i => some (rn ρ ((t.get i).getD df))) m) .u
  | .im t c q => .im t c q
  | .sm l c => .sm l c
  | .si l b p => .si l b p
/-- An object whose names can be changed: a row is not too long; a map holds no names. -/
def UpOk (ρ : Nat → Nat) : AO → Prop
  | .row m _ _ => m ≤ 262144
  | .im t _ _ => ∀ k x, t.get k = some x → rn ρ x = x
  | .sm l _ => rn ρ l = l
  | .si _ _ _ => True

theorem SmR_up {μ μ2 ρ : Nat → Nat} {n1 n2 : Nat} {w : World} (hm : ∀ b, b < n1 → μ2 (ρ b) = μ b ∧ ρ b < n2) {clock : Nat} : ∀ (l : AV) (es : List MapEntry), rn ρ l = l → SmR μ n1 w clock l es → SmR μ2 n2 w clock l es := by
  intro l
  induction l with
  | nil => intro es _ h; exact h
  | cons x t _ it =>
    intro es hr h
    unfold SmR at h
    split at h
    · rename_i e; cases e
    · rename_i e
      obtain ⟨rfl, rfl⟩ := AV.cons.inj e
      obtain ⟨hr1, hr2⟩ := AV.cons.inj hr
      unfold SmR
      obtain ⟨e, r, h1, h2, h3, h4, h5, h6, h7, h8⟩ := h
      have hr1 := (AV.cons.inj (AV.cons.inj (AV.tu.inj hr1)).2).1
      exact ⟨e, r, h1, h2, h3, by have := (VR2_up hm _).1 _ h4; rw [hr1] at this; exact this, h5, h6, h7, it _ hr2 h8⟩
    · exact h.elim
  | _ => intro es _ h; exact h

theorem OR_up {μ μ2 ρ : Nat → Nat} {n1 n2 : Nat} {w : World} (hm : ∀ b, b < n1 → μ2 (ρ b) = μ b ∧ ρ b < n2) {o : AO} (ho : UpOk ρ o) {x : Option Obj} (hx : OR μ n1 w o x) : OR μ2 n2 w (upO ρ o) x := by
  cases o with
  | row m t df =>
    obtain ⟨cs, E, fz, q1, q2, q3, q4⟩ := hx
    refine ⟨cs, E, fz, q1, q2, q3, fun i hi hi' => ⟨?_, (q4 i hi hi').2⟩⟩
    rw [mkT_get _ _ _ ho, if_pos hi]
    exact (VR2_up hm _).1 _ (q4 i hi hi').1
  | im t c q =>
    obtain ⟨es, q1, q2⟩ := hx
    refine ⟨es, q1, { q2 with key := fun i hi => ?_ }⟩
    obtain ⟨k, e, a, ht, hv⟩ := q2.key i hi
    have hr := (AV.cons.inj (AV.tu.inj (ho k _ ht))).1
    exact ⟨k, e, a, ht, by have := (VR2_up hm _).1 _ hv; rw [hr] at this; exact this⟩
  | sm l c => obtain ⟨es, q1, q2⟩ := hx; exact ⟨es, q1, SmR_up hm _ _ ho q2⟩
  | si l b p => exact hx

/-- The blocks of h8 behind those of h. -/
noncomputable def behind (h h8 : H) : H := ⟨mkT (fun b => if b < h.nx then h.t.get b else (h8.t.get (b - h.nx)).map (upO (fun b => b + h.nx))) (h.nx + h8.nx), h.nx + h8.nx⟩
theorem behind_lo {h h8 : H} (hn : h.nx + h8.nx ≤ 262144) {b : Nat} (hb : b < h.nx) : (behind h h8).t.get b = h.t.get b := by
  show (mkT _ _).get b = _
  rw [mkT_get _ _ _ hn, if_pos (by omega), if_pos hb]
theorem behind_hi {h h8 : H} (hn : h.nx + h8.nx ≤ 262144) {b : Nat} (hb : b < h8.nx) : (behind h h8).t.get (b + h.nx) = (h8.t.get b).map (upO (fun b => b + h.nx)) := by
  show (mkT _ _).get _ = _
  rw [mkT_get _ _ _ hn, if_pos (by omega), if_neg (by omega), Nat.add_sub_cancel]

theorem CSem.into {f : Nat} {v : AV} {h8 h : H} (c : CSem P f .nil ⟨.nil, 0⟩ v h8) (hn : h.nx + h8.nx ≤ 262144) (hu : ∀ b o, h8.t.get b = some o → UpOk (fun b => b + h.nx) o) : CSem P f .nil h (rn (fun b => b + h.nx) v) (behind h h8) := by
  intro μ w vs hv hr
  have hr0 : HR μ ⟨.nil, 0⟩ w := ⟨fun b o hb => by simp at hb, fun b o hb => by simp at hb, fun b o b' o' hb => by simp at hb, hr.gl, fun b o hb => by simp at hb⟩
  have hv0 : VRL μ 0 w .nil vs := VRL_nil.2 (VRL_nil.1 hv)
  have key : ∀ {μ' : Nat → Nat} {w' : World} {v' : Value}, Ext μ ⟨.nil, 0⟩ w μ' h8 w' → HR μ' h8 w' → VR μ' h8.nx w' v v' →
      ∃ μ2, Ext μ h w μ2 (behind h h8) w' ∧ HR μ2 (behind h h8) w' ∧ VR μ2 (behind h h8).nx w' (rn (fun b => b + h.nx) v) v' := by
    intro μ' w' v' x hr' hv'
    let μ2 : Nat → Nat := fun b => if b < h.nx then μ b else μ' (b - h.nx)
    have m1 : ∀ b, b < h.nx → μ2 b = μ b := fun b hb => if_pos hb
    have m2 : ∀ b, μ2 (b + h.nx) = μ' b := fun b => by show (if b + h.nx < h.nx then _ else _) = _; rw [if_neg (by omega), Nat.add_sub_cancel]
    have hm : ∀ b, b < h8.nx → μ2 (b + h.nx) = μ' b ∧ b + h.nx < h.nx + h8.nx := fun b hb => ⟨m2 b, by omega⟩
    have same : ∀ b o, h.t.get b = some o → w'.heap[μ b]? = w.heap[μ b]? := fun b o hb => x.frame _ (hr.block_lt hb) (fun b' o' hb' => by simp at hb')
    have cut : ∀ b o, (behind h h8).t.get b = some o → (b < h.nx ∧ h.t.get b = some o) ∨ ∃ b' o', b = b' + h.nx ∧ b' < h8.nx ∧ h8.t.get b' = some o' ∧ o = upO (fun b => b + h.nx) o' := fun b o hb => by
      by_cases q : b < h.nx
      · rw [behind_lo hn q] at hb; exact .inl ⟨q, hb⟩
      · by_cases q2 : b < h.nx + h8.nx
        · have e : b = (b - h.nx) + h.nx := by omega
          rw [e, behind_hi hn (by omega)] at hb
          obtain ⟨o', h1, h2⟩ := Option.map_eq_some_iff.1 hb
          exact .inr ⟨b - h.nx, o', e, by omega, h1, h2.symm⟩
        · have : (behind h h8).t.get b = none := by
            show (mkT _ _).get b = none
            rw [mkT_get _ _ _ hn, if_neg q2]
          rw [this] at hb; cases hb
    have fresh : ∀ b' o', h8.t.get b' = some o' → w.heap.size ≤ μ' b' := fun b' o' hb' => by
      rcases x.fresh b' o' hb' with ⟨_, _, h0⟩ | h0 | ⟨_, _, h0, _⟩
      · simp at h0
      · exact h0
      · simp at h0
    refine ⟨μ2, ⟨m1, by show h.nx ≤ h.nx + h8.nx; omega, x.size, x.shape, fun c hc hf => x.frame c hc (fun b' o' hb' => by simp at hb'), fun b o hb => ?_, x.same, x.gsz⟩, ⟨fun b o hb => ?_, fun b o hb => ?_, fun b o b' o' hb hb' e => ?_, hr'.gl, fun b o hb => ?_⟩, (VR2_up hm v).1 _ hv'⟩
    · rcases cut b o hb with ⟨q, h0⟩ | ⟨b', o', rfl, _, h0, _⟩
      · exact .inl ⟨q, o, h0⟩
      · exact .inr (.inl (by rw [m2]; exact fresh b' o' h0))
    · rcases cut b o hb with ⟨q, _⟩ | ⟨b', _, rfl, q, _, _⟩
      · show b < h.nx + h8.nx; omega
      · show b' + h.nx < h.nx + h8.nx; omega
    · rcases cut b o hb with ⟨q, h0⟩ | ⟨b', o', rfl, _, h0, rfl⟩
      · rw [m1 b q, same b o h0]
        exact (hr.obj b o h0).mono (fun b hb => m1 b hb) (by show h.nx ≤ h.nx + h8.nx; omega) x.shape
      · rw [m2]; exact OR_up hm (hu b' o' h0) (hr'.obj b' o' h0)
    · rcases cut b o hb with ⟨q, h0⟩ | ⟨b1, o1, rfl, _, h0, _⟩ <;> rcases cut b' o' hb' with ⟨q', h0'⟩ | ⟨b2, o2, rfl, _, h0', _⟩
      · rw [m1 b q, m1 b' q'] at e; exact hr.inj b o b' o' h0 h0' e
      · rw [m1 b q, m2] at e
        have := hr.block_lt h0; have := fresh b2 o2 h0'; omega
      · rw [m1 b' q', m2] at e
        have := hr.block_lt h0'; have := fresh b1 o1 h0; omega
      · rw [m2, m2] at e; rw [hr'.inj b1 o1 b2 o2 h0 h0' e]
    · rcases cut b o hb with ⟨q, h0⟩ | ⟨b', o', rfl, _, h0, _⟩
      · rw [m1 b q]; exact hr.low b o h0
      · rw [m2]; exact hr'.low b' o' h0
  rcases c μ w vs hv0 hr0 with ⟨h1, h2⟩ | ⟨v', μ', w', h1, h2, h3, h4⟩
  · refine .inl ⟨h1, h2.mono ?_⟩
    rintro e w' ⟨v', rfl, μ', q1, q2, q3⟩
    obtain ⟨μ2, p1, p2, p3⟩ := key q1 q2 q3
    exact ⟨v', rfl, μ2, p1, p2, p3⟩
  · obtain ⟨μ2, p1, p2, p3⟩ := key h2 h3 h4
    exact .inr ⟨v', μ2, w', h1, p1, p2, p3⟩

theorem rn_congr {ρ ρ' : Nat → Nat} {n : Nat} (h : ∀ b, b < n → ρ' b = ρ b) : ∀ x : AV, bd n x = true → rn ρ' x = rn ρ x := by
  intro x
  induction x with
  | pt b o => intro hb; show AV.pt (ρ' b) o = _; rw [h b (blt_lt hb)]; rfl
  | sl b o l c s => intro hb; show AV.sl (ρ' b) o l c s = _; rw [h b (blt_lt hb)]; rfl
  | mp b => intro hb; show AV.mp (ρ' b) = _; rw [h b (blt_lt hb)]; rfl
  | fn f l c il ic =>
    intro hb
    obtain ⟨h1, h2⟩ := Bool.and_eq_true_iff.1 (show (bd n l && bd n c) = true from hb)
    show AV.fn f (rn ρ' l) (rn ρ' c) = _
    rw [il h1, ic h2]; rfl
  | ag l il => intro hb; show AV.ag (rn ρ' l) = _; rw [il hb]; rfl
  | tu l il => intro hb; show AV.tu (rn ρ' l) = _; rw [il hb]; rfl
  | cons a t ia it =>
    intro hb
    obtain ⟨h1, h2⟩ := Bool.and_eq_true_iff.1 (show (bd n a && bd n t) = true from hb)
    show AV.cons (rn ρ' a) (rn ρ' t) = _
    rw [ia h1, it h2]; rfl
  | _ => intro _; rfl
theorem bd_mono {n m : Nat} (h : n ≤ m) : ∀ x : AV, bd n x = true → bd m x = true := by
  intro x
  induction x with
  | pt b o => intro hb; exact Nat.ble_eq_true_of_le (Nat.le_trans (blt_lt hb) h)
  | sl b o l c s => intro hb; exact Nat.ble_eq_true_of_le (Nat.le_trans (blt_lt hb) h)
  | mp b => intro hb; exact Nat.ble_eq_true_of_le (Nat.le_trans (blt_lt hb) h)
  | fn f l c il ic =>
    intro hb
    obtain ⟨h1, h2⟩ := Bool.and_eq_true_iff.1 (show (bd n l && bd n c) = true from hb)
    exact Bool.and_eq_true_iff.2 ⟨il h1, ic h2⟩
  | ag l il => exact il
  | tu l il => exact il
  | cons a t ia it =>
    intro hb
    obtain ⟨h1, h2⟩ := Bool.and_eq_true_iff.1 (show (bd n a && bd n t) = true from hb)
    exact Bool.and_eq_true_iff.2 ⟨ia h1, it h2⟩
  | _ => intro _; rfl
/-- An object says no more than itself under other names. -/
theorem upO_orn {ρ ρ' : Nat → Nat} {n m : Nat} {o : AO} (hr : ∀ b, b < n → ρ' b = ρ b) (hnm : n ≤ m) (ho : UpOk ρ o) (hb : OBd n o) : ORn ρ' m o (upO ρ o) := by
  cases o with
  | row k t df => exact ⟨Nat.le_refl _, fun i hi => .inr ⟨by rw [mkT_get _ _ _ ho, if_pos hi, rn_congr hr _ (hb i hi)]; rfl, bd_mono hnm _ (hb i hi)⟩⟩
  | im t c q => exact ⟨rfl, rfl, fun k x hx => ⟨by rw [rn_congr hr _ (hb k x hx)]; exact ho k x hx, bd_mono hnm _ (hb k x hx)⟩⟩
  | sm l c => exact ⟨rfl, rfl, by rw [rn_congr hr _ hb]; exact ho, bd_mono hnm _ hb⟩
  | si l b p => exact ⟨rfl, rfl, rfl⟩

theorem VR_bd0 {μ1 μ2 : Nat → Nat} {n1 n2 : Nat} {w : World} {x : AV} (h : bd 0 x = true) {v : Value} (hv : VR μ1 n1 w x v) : VR μ2 n2 w x v := by
  have h1 := (VR2_rn (μ := μ1) (ρ := fun b => b) (n1 := n1) (n2 := 0) (w := w) x h).1 v
  rw [rn_id] at h1
  have h2 := (VR2_up (μ := fun b => μ1 b) (μ2 := μ2) (ρ := fun b => b) (n1 := 0) (n2 := n2) (w := w) (fun b hb => absurd hb (Nat.not_lt_zero b)) x).1 v (h1 hv)
  rw [rn_id] at h2
  exact h2
/-- A piece known from a state under other names; of its end only what names no block. -/
theorem SemC.start {c : ACode} {e ec e' e2 : Env} {h hc h' : H} {x : AEx} {ρ : Nat → Nat} (r : Ren 0 ρ h hc) (he : ∀ i, VLe ρ hc.nx (ec.get i) (e.get i)) (hs : SemC P c ec hc x e' h') (h2 : ∀ i, e2.get i = .u ∨ (e2.get i = e'.get i ∧ bd 0 (e2.get i) = true)) :
    SemC P c e h x e2 ⟨.nil, h.nx⟩ := by
  intro nt cd hcd μ a w Q s hq
  have no : ∀ {p : Prop} (b : Nat) (o : AO), (H.mk PT.nil h.nx).t.get b = some o → p := fun b o hb => by rw [nilg] at hb; cases hb
  refine hs nt cd hcd (fun b => μ (ρ b)) a w Q ⟨s.size, s.defers, fun i => (he i).vr (s.env i), r.hr s.heap⟩ fun μ' a' w' x1 s1 =>
    hq μ a' w' ⟨fun _ _ => rfl, Nat.le_refl _, x1.size, x1.shape, fun c hc' hf => x1.frame c hc' fun b o hb => (by obtain ⟨o1, q1, _⟩ := r.obj b o hb; exact hf _ _ q1), fun b o hb => no b o hb, x1.same, x1.gsz⟩
      ⟨s1.size, s1.defers, fun i => ?_, ⟨fun b o hb => no b o hb, fun b o hb => no b o hb, fun b o b' o' hb => no b o hb, s1.heap.gl, fun b o hb => no b o hb⟩⟩
  rcases h2 i with q | ⟨q, q2⟩
  · rw [q]; trivial
  · have := s1.env i
    rw [← q] at this
    exact VR_bd0 q2 this
end
end Go.Ev
