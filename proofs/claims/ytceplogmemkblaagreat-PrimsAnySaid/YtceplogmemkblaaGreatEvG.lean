/-
  An abstract evaluator for Go code under the model: each operation that only computes says what the model says.
-/
import Derived.Test.YtceplogmemkblaaGreatEvF
import Derived.Tactics
namespace Go.Ev

section
variable {P : Program} {o : Oper} {e : Env} {k : AV → Res}

theorem run_v {s : Sem Value} {v : Value} {w w' : World} (h : s.run P w = .ok v w') : ((do pure (Next.value (← s)) : Sem Next)).run P w = .ok (.value v) w' := by
  rw [Sem.run_bind, h]; rfl

/-- 'o' comes to v, in whatever world. -/
abbrev PG (P : Program) (o : Oper) (e : Env) (k : AV → Res) : Prop := ∃ v, PSem P o (oV e.get) v ∧ (k v).good

theorem mv_good {x : Operand} {x' : OA} (ho : o.op = .move x ∨ o.op = .assign x) (hx : opndOf x = some x') (h : (hMv x' e k).good) : PG P o e k := by
  unfold hMv at h
  rw [oK_eq] at h
  refine ⟨_, fun μ nx w a hr => ⟨a.eval x, ?_, hr x ?_ _ hx⟩, h⟩
  · rcases ho with ho | ho <;> simp only [execOp, ho] <;> rfl
  · rcases ho with ho | ho <;> simp [ho, Op.operands]

theorem pick_good {c x y : Operand} {c' x' y' : OA} (ho : o.op = .pick c x y) (hc : opndOf c = some c') (hx : opndOf x = some x') (hy : opndOf y = some y') (h : (hPick c' x' y' e k).good) : PG P o e k := by
  unfold hPick at h
  rw [oK_eq] at h
  obtain ⟨t, ht, h⟩ := isB_good h
  rw [iteK_eq, oK_eq, oK_eq] at h
  have hcase : ∀ (z : Operand) (z' : OA), opndOf z = some z' → (t = true → z = x) → (t = false → z = y) → (k (oV e.get z')).good → PG P o e k := by
    intro z z' hz h1 h2 hk
    refine ⟨_, fun μ nx w a hr => ⟨a.eval z, ?_, hr z ?_ _ hz⟩, hk⟩
    · have := hr c (by simp [ho, Op.operands]) _ hc
      rw [ht] at this
      have hv : a.eval c = .bool t := this
      simp only [execOp, ho]
      rw [Sem.run_bind, hv]
      cases t
      · rw [h2 rfl]; rfl
      · rw [h1 rfl]; rfl
    · cases t
      · rw [h2 rfl]; simp [ho, Op.operands]
      · rw [h1 rfl]; simp [ho, Op.operands]
  cases t
  · exact hcase y y' hy (by simp) (fun _ => rfl) h
  · exact hcase x x' hx (fun _ => rfl) (by simp) h

theorem nck_good {x : Operand} {x' : OA} (ho : o.op = .nilCheck x) (hx : opndOf x = some x') (h : (hNck x' e k).good) : PG P o e k := by
  unfold hNck at h
  rw [oK_eq] at h
  obtain ⟨hf, h⟩ := nckK_good h
  refine ⟨_, fun μ nx w a hr => ⟨a.eval x, ?_, hr x (by simp [ho, Op.operands]) _ hx⟩, h⟩
  have := hr x (by simp [ho, Op.operands]) _ hx
  rcases hf with ⟨b, off, hf⟩ | ⟨f, l, c, hf⟩
  · rw [hf] at this
    have hv := this.2
    simp only [execOp, ho, hv]; rfl
  · rw [hf] at this
    obtain ⟨xs, ys, hv, _⟩ := this
    simp only [execOp, ho, hv]; rfl

theorem bin_good {op : BinOp} {t yt : TypeId} {x y : Operand} {x' y' : OA} (ho : o.op = .binOp op t x y yt) (hx : opndOf x = some x') (hy : opndOf y = some y') (h : (hBin op x' y' e k).good) : PG P o e k := by
  unfold hBin at h
  rw [oK_eq, oK_eq] at h
  obtain ⟨r, hs, h⟩ := binK_good h
  refine ⟨r, fun μ nx w a hr => ?_, h⟩
  obtain ⟨v, hv, hvr⟩ := hs μ nx w _ _ (hr x (by simp [ho, Op.operands]) _ hx) (hr y (by simp [ho, Op.operands]) _ hy)
  refine ⟨v, ?_, hvr⟩
  simp only [execOp, ho]
  exact run_v (hv P t x y)

theorem mkEq {t : TypeId} {vx vy : Value} {r : Bool} {w : World} (he : ∀ n, (Op.equalIn (n + 1) t vx vy).run P w = .ok r w) (hg : ∀ op xo yo, eqGuard op t xo yo vx vy = pure ())
    (h3 : binOp .eql t vx vy = (do pure (.bool (← Op.equal t vx vy)))) (h4 : binOp .neq t vx vy = (do pure (.bool (!(← Op.equal t vx vy))))) :
    (∀ xo yo, (guarded .eql t xo yo vx vy).run P w = .ok (.bool r) w) ∧ ∀ xo yo, (guarded .neq t xo yo vx vy).run P w = .ok (.bool !r) w := by
  have h1 : (Op.equal t vx vy).run P w = .ok r w := he 9999
  constructor
  · intro xo yo
    unfold guarded
    rw [hg, h3]
    show ((do pure (Value.bool (← Op.equal t vx vy)) : Sem Value)).run P w = _
    rw [Sem.run_bind, h1]; rfl
  · intro xo yo
    unfold guarded
    rw [hg, h4]
    show ((do pure (Value.bool (!(← Op.equal t vx vy))) : Sem Value)).run P w = _
    rw [Sem.run_bind, h1]; rfl

theorem eqC_run {t : TypeId} {c : Nat} {x y : AV} {r : Bool} (ht : eqClass P t = some (c + 1)) (hr : eqC (c + 1) x y = some r) {μ : Nat → Nat} {nx : Nat} {w : World} {vx vy : Value}
    (hx : VR μ nx w x vx) (hy : VR μ nx w y vy) :
    (∀ xo yo, (guarded .eql t xo yo vx vy).run P w = .ok (.bool r) w) ∧ ∀ xo yo, (guarded .neq t xo yo vx vy).run P w = .ok (.bool !r) w := by
  unfold eqClass at ht
  split at ht <;> cases ht
  · rename_i hu
    have hr : eqC1 x y = some r := hr
    unfold eqC1 at hr
    split at hr <;> cases hr
    rw [show vx = _ from hx, show vy = _ from hy]
    exact mkEq (fun n => by rw [Op.equalIn, Sem.run_bind, run_underlying hu]; rfl) (fun op xo yo => by apply eqGuard_at_bool) rfl rfl
  · rename_i el hu
    have hr : eqC2 x y = some r := hr
    unfold eqC2 at hr
    split at hr <;> cases hr
    · rw [show vx = _ from hx, show vy = _ from hy]
      exact mkEq (fun n => by rw [Op.equalIn, Sem.run_bind, run_underlying hu]; rfl) (fun op xo yo => by apply eqGuard_at_pointer) rfl rfl
    · rw [show vx = _ from hx, hy.2]
      exact mkEq (fun n => by rw [Op.equalIn, Sem.run_bind, run_underlying hu]; rfl) (fun op xo yo => by apply eqGuard_at_pointer) rfl rfl
    · rw [show vy = _ from hy, hx.2]
      exact mkEq (fun n => by rw [Op.equalIn, Sem.run_bind, run_underlying hu]; rfl) (fun op xo yo => by apply eqGuard_at_pointer) rfl rfl
  · rename_i el hu
    have hr : eqC3 x y = some r := hr
    unfold eqC3 at hr
    split at hr <;> cases hr
    · rw [show vx = _ from hx, show vy = _ from hy]
      exact mkEq (fun n => by rw [Op.equalIn, Sem.run_bind, run_underlying hu]; rfl) (fun op xo yo => by apply eqGuard_at_slice) rfl rfl
    · obtain ⟨_, _, c, he, _⟩ := hy
      rw [show vx = _ from hx, he]
      exact mkEq (fun n => by rw [Op.equalIn, Sem.run_bind, run_underlying hu]; rfl) (fun op xo yo => by apply eqGuard_at_slice) rfl rfl
    · obtain ⟨_, _, c, he, _⟩ := hx
      rw [show vy = _ from hy, he]
      exact mkEq (fun n => by rw [Op.equalIn, Sem.run_bind, run_underlying hu]; rfl) (fun op xo yo => by apply eqGuard_at_slice) rfl rfl
  · rename_i k0 el hu
    have hr : eqC4 x y = some r := hr
    unfold eqC4 at hr
    split at hr <;> cases hr
    · rw [show vx = _ from hx, show vy = _ from hy]
      exact mkEq (fun n => by rw [Op.equalIn, Sem.run_bind, run_underlying hu]; rfl) (fun op xo yo => by apply eqGuard_at_map) rfl rfl
    · rw [show vx = _ from hx, hy.2]
      exact mkEq (fun n => by rw [Op.equalIn, Sem.run_bind, run_underlying hu]; rfl) (fun op xo yo => by apply eqGuard_at_map) rfl rfl
    · rw [show vy = _ from hy, hx.2]
      exact mkEq (fun n => by rw [Op.equalIn, Sem.run_bind, run_underlying hu]; rfl) (fun op xo yo => by apply eqGuard_at_map) rfl rfl
  · rename_i k0 el b0 hu
    have hr : eqC5 x y = some r := hr
    unfold eqC5 at hr
    split at hr <;> cases hr
    · rw [show vx = _ from hx, show vy = _ from hy]
      exact mkEq (fun n => by rw [Op.equalIn, Sem.run_bind, run_underlying hu]; rfl) (fun op xo yo => by apply eqGuard_at_nilFunc) rfl rfl
    · obtain ⟨xs, ys, he, _⟩ := hy
      rw [show vx = _ from hx, he]
      exact mkEq (fun n => by rw [Op.equalIn, Sem.run_bind, run_underlying hu]; rfl) (fun op xo yo => by apply eqGuard_at_nilFunc) rfl rfl
    · obtain ⟨xs, ys, he, _⟩ := hx
      rw [show vy = _ from hy, he]
      exact mkEq (fun n => by rw [Op.equalIn, Sem.run_bind, run_underlying hu]; rfl) (fun op xo yo => by apply eqGuard_at_func) rfl rfl

theorem eqv_good {op : BinOp} {ng : Bool} {t yt : TypeId} {c : Nat} {x y : Operand} {x' y' : OA} (ho : o.op = .binOp op t x y yt) (hop : (op = .eql ∧ ng = false) ∨ (op = .neq ∧ ng = true))
    (ht : eqClass P t = some (c + 1)) (hx : opndOf x = some x') (hy : opndOf y = some y') (h : (hEqv (c + 1) ng x' y' e k).good) : PG P o e k := by
  unfold hEqv eqvK at h
  rw [oK_eq, oK_eq] at h
  cases hr : eqC (c + 1) (oV e.get x') (oV e.get y') with
  | none => rw [hr] at h; exact absurd h Res.not_good_fail
  | some r =>
    rw [hr] at h
    have h : (boolK (Bool.rec r (Bool.not r) ng) k).good := h
    rw [boolK_eq] at h
    refine ⟨_, fun μ nx w a hrho => ?_, h⟩
    have := eqC_run ht hr (hrho x (by simp [ho, Op.operands]) _ hx) (hrho y (by simp [ho, Op.operands]) _ hy)
    rcases hop with ⟨rfl, rfl⟩ | ⟨rfl, rfl⟩
    · refine ⟨.bool r, ?_, rfl⟩
      simp only [execOp, ho]
      exact run_v (this.1 x y)
    · refine ⟨.bool !r, ?_, rfl⟩
      simp only [execOp, ho]
      exact run_v (this.2 x y)

theorem nt_good {t : TypeId} {x : Operand} {x' : OA} (ho : o.op = .unOp .not t x) (hx : opndOf x = some x') (h : (hNt x' e k).good) : PG P o e k := by
  unfold hNt at h
  rw [oK_eq] at h
  obtain ⟨b, hb, h⟩ := isB_good h
  rw [boolK_eq] at h
  refine ⟨.b !b, fun μ nx w a hr => ⟨.bool !b, ?_, rfl⟩, h⟩
  have := hr x (by simp [ho, Op.operands]) _ hx
  rw [hb] at this
  have hv : a.eval x = .bool b := this
  simp only [execOp, ho]
  exact run_v (by rw [hv]; rfl)

theorem ng_good {t : TypeId} {x : Operand} {x' : OA} (ho : o.op = .unOp .neg t x) (hx : opndOf x = some x') (h : (hNg x' e k).good) : PG P o e k := by
  unfold hNg at h
  rw [oK_eq] at h
  obtain ⟨kd, z, hz, h⟩ := zK_good h
  obtain ⟨r, hv, h⟩ := mkZ_good h
  refine ⟨r, fun μ nx w a hr => ⟨_, ?_, hv _ _ _⟩, h⟩
  have := toZ_VR hz (hr x (by simp [ho, Op.operands]) _ hx)
  simp only [execOp, ho]
  exact run_v (by rw [this]; rfl)

theorem fa_good {s : TypeId} {x : Operand} {f : Nat} {x' : OA} {fs : Array Field} {fl : Field} {sz : Nat} (ho : o.op = .fieldAddr s x f) (hx : opndOf x = some x') (hu : P.underlying s = some (.struct fs)) (hf : fs[f]? = some fl)
    (hs : szOf P fl.type = some (sz + 1)) (h : (hFa x' fl.offset e k).good) : PG P o e k := by
  unfold hFa at h
  rw [oK_eq] at h
  obtain ⟨b, off, hb, h⟩ := isPt_good h
  rw [forceN_eq] at h
  refine ⟨_, fun μ nx w a hr => ?_, h⟩
  have := hr x (by simp [ho, Op.operands]) _ hx
  rw [hb] at this
  obtain ⟨hlt, hv⟩ := this
  refine ⟨.pointer (some ⟨μ b, off + fl.offset, none⟩), ?_, hlt, rfl⟩
  simp only [execOp, ho]
  refine run_v ?_
  rw [hv]
  simp [Instr.fieldAt, run_underlying hu, hf, Instr.sureAddr, fieldPlace, run_szOf hs, Addr.add_lit]

theorem fd_good {s : TypeId} {x : Operand} {f : Nat} {x' : OA} {fs : Array Field} {fl : Field} (ho : o.op = .field s x f) (hx : opndOf x = some x') (hu : P.underlying s = some (.struct fs)) (hf : fs[f]? = some fl)
    (hs : aggOf P fl.type = some false) (h : (hFd x' fl.offset e k).good) : PG P o e k := by
  unfold hFd at h
  rw [oK_eq] at h
  obtain ⟨l, hl, h⟩ := isAg_good h
  obtain ⟨v, hn, h⟩ := nthK_good _ h
  refine ⟨v, fun μ nx w a hr => ?_, h⟩
  have := hr x (by simp [ho, Op.operands]) _ hx
  rw [hl] at this
  obtain ⟨xs, hv, hxs, _⟩ := this
  obtain ⟨y, hy, hvy⟩ := hn μ nx w _ hxs
  refine ⟨y, ?_, hvy⟩
  simp only [execOp, ho]
  refine run_v ?_
  rw [hv]
  have hy' : xs[fl.offset]? = some y := by rw [← hy]; simp
  simp [Instr.field, run_underlying hu, hf, asAgg, part, run_aggOf hs, hy']

theorem fdn_good {s : TypeId} {x : Operand} {f sz : Nat} {x' : OA} {fs : Array Field} {fl : Field} (ho : o.op = .field s x f) (hx : opndOf x = some x') (hu : P.underlying s = some (.struct fs)) (hf : fs[f]? = some fl)
    (hs : aggOf P fl.type = some true) (hsz : szOf P fl.type = some sz) (h : (hFdn x' fl.offset sz e k).good) : PG P o e k := by
  unfold hFdn at h
  rw [oK_eq] at h
  obtain ⟨l, hl, h⟩ := isAg_good h
  obtain ⟨r, hd, h⟩ := dropK_good _ h
  obtain ⟨r', ht, h⟩ := takeK_good _ h
  refine ⟨_, fun μ nx w a hr => ?_, h⟩
  have := hr x (by simp [ho, Op.operands]) _ hx
  rw [hl] at this
  obtain ⟨xs, hv, hxs, h1⟩ := this
  obtain ⟨h2, _⟩ := ht μ nx w _ (hd μ nx w _ hxs)
  refine ⟨.agg (xs.extract fl.offset (fl.offset + sz)), ?_, _, rfl, ?_, ?_⟩
  · simp only [execOp, ho]
    refine run_v ?_
    rw [hv]
    simp [Instr.field, run_underlying hu, hf, asAgg, part, run_aggOf hs, run_szOf hsz]
  · have e : (xs.extract fl.offset (fl.offset + sz)).toList = (xs.toList.drop fl.offset).take sz := by simp [List.extract_eq_take_drop]
    rw [e]; exact h2
  · intro y hy
    have e : (xs.extract fl.offset (fl.offset + sz)).toList = (xs.toList.drop fl.offset).take sz := by simp [List.extract_eq_take_drop]
    rw [e] at hy
    exact h1 y (List.mem_of_mem_drop (List.mem_of_mem_take hy))

theorem ia_good {t el : TypeId} {x i : Operand} {x' i' : OA} {sz : Nat} (ho : o.op = .indexAddr t x i) (hx : opndOf x = some x') (hi : opndOf i = some i') (hu : P.underlying t = some (.slice el)) (hs : szOf P el = some sz)
    (h : (hIa x' i' sz e k).good) : PG P o e k := by
  unfold hIa at h
  rw [oK_eq] at h
  rcases isSl_good h with ⟨b, off, len, cap, st, hb, h⟩ | ⟨_, h⟩
  · rw [oK_eq] at h
    obtain ⟨m, ⟨kd, hm⟩, h⟩ := idxK_good h
    obtain ⟨hlt, h⟩ := iteK_good h
    have hlt : m + 1 ≤ len := Nat.le_of_ble_eq_true hlt
    rw [forceN_eq] at h
    refine ⟨_, fun μ nx w a hr => ?_, h⟩
    have h1 := hr x (by simp [ho, Op.operands]) _ hx
    rw [hb] at h1
    obtain ⟨hb, _, c, hv, _⟩ := h1
    have h2 := hm μ nx w _ (hr i (by simp [ho, Op.operands]) _ hi)
    refine ⟨.pointer (some ⟨μ b, off + m * sz, none⟩), ?_, hb, rfl⟩
    simp only [execOp, ho]
    refine run_v ?_
    rw [hv, h2]
    have h3 : (0 : Int) ≤ (m : Int) ∧ (m : Int) < len := ⟨by omega, by omega⟩
    simp [Instr.indexAt, asIntOf, run_underlying hu, h3, run_szOf hs, Addr.add_lit]
    omega
  · exact absurd h Res.not_good_fail

theorem iaa_good {t el : TypeId} {x i : Operand} {x' i' : OA} {len sz : Nat} (ho : o.op = .indexAddr t x i) (hx : opndOf x = some x') (hi : opndOf i = some i') (hu : P.underlying t = some (.array len el)) (hs : szOf P el = some sz)
    (h : (hIaa x' i' len sz e k).good) : PG P o e k := by
  unfold hIaa at h
  rw [oK_eq] at h
  obtain ⟨b, off, hb, h⟩ := isPt_good h
  rw [oK_eq] at h
  obtain ⟨m, ⟨kd, hm⟩, h⟩ := idxK_good h
  obtain ⟨hlt, h⟩ := iteK_good h
  have hlt : m + 1 ≤ len := Nat.le_of_ble_eq_true hlt
  rw [forceN_eq] at h
  refine ⟨_, fun μ nx w a hr => ?_, h⟩
  have h1 := hr x (by simp [ho, Op.operands]) _ hx
  rw [hb] at h1
  obtain ⟨hb, hv⟩ := h1
  have h2 := hm μ nx w _ (hr i (by simp [ho, Op.operands]) _ hi)
  refine ⟨.pointer (some ⟨μ b, off + m * sz, none⟩), ?_, hb, rfl⟩
  simp only [execOp, ho]
  refine run_v ?_
  rw [hv, h2]
  have h3 : (0 : Int) ≤ (m : Int) ∧ (m : Int) < len := ⟨by omega, by omega⟩
  simp [Instr.indexAt, asIntOf, run_underlying hu, h3, run_szOf hs, Addr.add_lit, Instr.sureAddr]
  omega

theorem byte_of (bits i : Nat) : (UInt8.ofNat (bits / 256 ^ i)).toNat = (bits >>> (8 * i)) % 256 := by
  rw [Nat.shiftRight_eq_div_pow, ← pow256]; simp

theorem ixs_good {t : TypeId} {x i : Operand} {x' i' : OA} (ho : o.op = .index t x i) (hx : opndOf x = some x') (hi : opndOf i = some i') (hu : P.underlying t = some .string)
    (h : (hIxs x' i' e k).good) : PG P o e k := by
  unfold hIxs at h
  rw [oK_eq] at h
  obtain ⟨len, bits, hb, h⟩ := isS_good h
  rw [oK_eq] at h
  obtain ⟨m, ⟨kd, hm⟩, h⟩ := idxK_good h
  obtain ⟨hlt, h⟩ := iteK_good h
  have hlt : m + 1 ≤ len := Nat.le_of_ble_eq_true hlt
  rw [forceN_eq] at h
  refine ⟨_, fun μ nx w a hr => ?_, h⟩
  have h1 := hr x (by simp [ho, Op.operands]) _ hx
  rw [hb] at h1
  obtain ⟨hv, _⟩ := h1
  have h2 := hm μ nx w _ (hr i (by simp [ho, Op.operands]) _ hi)
  refine ⟨.int .u8 ((UInt8.ofNat (bits / 256 ^ m)).toNat : Nat), ?_, ?_⟩
  · simp only [execOp, ho]
    refine run_v ?_
    rw [hv, h2]
    have h4 := dec_get len bits m (by omega)
    simp only [Instr.index, asIntOf, Sem.run_bind, run_underlying hu, Result.andThen_ok, Sem.run_pure]
    rw [if_pos (by omega)]
    simp only [Int.toNat_natCast, h4]
    rfl
  · rw [byte_of]; rfl

theorem ex_good {x : Operand} {i : Nat} {x' : OA} (ho : o.op = .extract x i) (hx : opndOf x = some x') (h : (hEx x' i e k).good) : PG P o e k := by
  unfold hEx at h
  rw [oK_eq] at h
  obtain ⟨l, hl, h⟩ := isTu_good h
  obtain ⟨v, hn, h⟩ := nthK_good _ h
  refine ⟨v, fun μ nx w a hr => ?_, h⟩
  have := hr x (by simp [ho, Op.operands]) _ hx
  rw [hl] at this
  obtain ⟨xs, hv, hxs⟩ := this
  obtain ⟨y, hy, hvy⟩ := hn μ nx w _ hxs
  refine ⟨y, ?_, hvy⟩
  simp only [execOp, ho]
  refine run_v ?_
  have hy' : xs[i]? = some y := by rw [← hy]; simp
  rw [hv]
  simp [Instr.extract, hy']

theorem cv_good {s d : TypeId} {x : Operand} {x' : OA} {ds : TypeDesc} {kd : IntKind} (ho : o.op = .convert s d x) (hx : opndOf x = some x') (hs : P.underlying s = some ds) (hd : P.underlying d = some (.int kd))
    (h : (hCv kd x' e k).good) : PG P o e k := by
  unfold hCv at h
  rw [oK_eq] at h
  have run : ∀ {a : Act} {w : World} {k' : IntKind} {z : Int}, a.eval x = .int k' z → (execOp a.eval o).run P w = .ok (.value (.int kd (kd.wrap z))) w := by
    intro a w k' z hv
    simp only [execOp, ho]
    refine run_v ?_
    rw [hv]
    simp only [convert, Sem.run_bind, run_underlying hs, run_underlying hd, Result.andThen_ok]
    cases ds <;> rfl
  have slow : (zK (oV e.get x') fun _ z => mkZ kd (kd.wrap z) k).good → PG P o e k := by
    intro h
    obtain ⟨k', z, hz, h⟩ := zK_good h
    obtain ⟨r, hv, h⟩ := mkZ_good h
    exact ⟨r, fun μ nx w a hr => ⟨_, run (toZ_VR hz (hr x (by simp [ho, Op.operands]) _ hx)), hv _ _ _⟩, h⟩
  cases kd
  case i8 => exact slow h
  case i16 => exact slow h
  case i32 => exact slow h
  case u16 => exact slow h
  case u32 => exact slow h
  case u64 => exact slow h
  case i64 =>
    rcases isP_or (show (isP (oV e.get x') (fun m => okP m k) (isW (oV e.get x') (fun _ m => okP m k) (zK (oV e.get x') fun _ z => mkZ .i64 (IntKind.i64.wrap z) k))).good from h) with ⟨m, hm, h1⟩ | h1
    · obtain ⟨hle, h2⟩ := okP_good h1
      refine ⟨.p m, fun μ nx w a hr => ⟨.int .i64 m, ?_, rfl⟩, h2⟩
      have := hr x (by simp [ho, Op.operands]) _ hx
      rw [hm] at this
      rw [run (show a.eval x = .int .i64 m from this), wrap_in (by omega) (by simp only [top63] at hle; omega)]
    · rcases isW_or h1 with ⟨k', m, hm, h2⟩ | h2
      · obtain ⟨hle, h3⟩ := okP_good h2
        refine ⟨.p m, fun μ nx w a hr => ⟨.int .i64 m, ?_, rfl⟩, h3⟩
        have := hr x (by simp [ho, Op.operands]) _ hx
        rw [hm] at this
        rw [run (show a.eval x = .int k' m from this), wrap_in (by omega) (by simp only [top63] at hle; omega)]
      · exact slow h2
  case u8 =>
    rcases isP_or (show (isP (oV e.get x') (fun m => forceN (Nat.mod m 256) fun m => k (.w .u8 m)) (zK (oV e.get x') fun _ z => mkZ .u8 (IntKind.u8.wrap z) k)).good from h) with ⟨m, hm, h1⟩ | h1
    · rw [forceN_eq] at h1
      refine ⟨.w .u8 (m % 256), fun μ nx w a hr => ⟨.int .u8 ((m % 256 : Nat) : Int), ?_, rfl⟩, h1⟩
      have := hr x (by simp [ho, Op.operands]) _ hx
      rw [hm] at this
      rw [run (show a.eval x = .int .i64 m from this)]
      simp [IntKind.wrap, IntKind.bits, IntKind.signed]
    · exact slow h1

theorem lnS_good {x : Operand} {xs : Array Operand} {ts : Array TypeId} {x' : OA} (ho : o.op = .call { callee := .builtin .len, args := xs, argTypes := ts }) (hxs : xs.toList = [x]) (hx : opndOf x = some x')
    (ht : (ts[0]?).bind P.underlying = some .string) (h : (hLnS x' e k).good) : PG P o e k := by
  obtain ⟨t, ht0, hu⟩ := Option.bind_eq_some_iff.1 ht
  have hxs' : xs = #[x] := by rw [← Array.toArray_toList (xs := xs), hxs]
  subst hxs'
  unfold hLnS at h
  rw [oK_eq] at h
  obtain ⟨len, bits, hv, h⟩ := isS_good h
  refine ⟨.p len, fun μ nx w a hr => ⟨.int .i64 len, ?_, rfl⟩, h⟩
  have := hr x (by simp [ho, Op.operands, Call.operands]) _ hx
  rw [hv] at this
  simp only [execOp, ho, resolve]
  simp [invoke, builtin, Builtin.len_, ht0, run_underlying hu, this.1, goInt, dec_size]

theorem lnX_good {x : Operand} {xs : Array Operand} {ts : Array TypeId} {x' : OA} {el : TypeId} (ho : o.op = .call { callee := .builtin .len, args := xs, argTypes := ts }) (hxs : xs.toList = [x]) (hx : opndOf x = some x')
    (ht : (ts[0]?).bind P.underlying = some (.slice el)) (h : (hLnX x' e k).good) : PG P o e k := by
  obtain ⟨t, ht0, hu⟩ := Option.bind_eq_some_iff.1 ht
  have hxs' : xs = #[x] := by rw [← Array.toArray_toList (xs := xs), hxs]
  subst hxs'
  unfold hLnX at h
  rw [oK_eq] at h
  have hmem : x ∈ o.op.operands := by simp [ho, Op.operands, Call.operands]
  rcases isEz_good h with ⟨hv, h⟩ | h
  · refine ⟨.p 0, fun μ nx w a hr => ⟨.int .i64 ((0 : Nat) : Int), ?_, rfl⟩, h⟩
    have := hr x hmem _ hx
    rw [hv] at this
    obtain ⟨ad, c, he⟩ := this
    simp only [execOp, ho, resolve]
    simp [invoke, builtin, Builtin.len_, ht0, run_underlying hu, he, goInt]
  rcases isSl_good h with ⟨b, off, len, cap, st, hv, h⟩ | ⟨hv, h⟩
  · refine ⟨.p len, fun μ nx w a hr => ⟨.int .i64 len, ?_, rfl⟩, h⟩
    have := hr x hmem _ hx
    rw [hv] at this
    obtain ⟨_, _, c, he, _⟩ := this
    simp only [execOp, ho, resolve]
    simp [invoke, builtin, Builtin.len_, ht0, run_underlying hu, he, goInt]
  · refine ⟨.p 0, fun μ nx w a hr => ⟨.int .i64 ((0 : Nat) : Int), ?_, rfl⟩, h⟩
    have := hr x hmem _ hx
    rw [hv] at this
    have he : a.eval x = .slice none 0 0 := this
    simp only [execOp, ho, resolve]
    simp [invoke, builtin, Builtin.len_, ht0, run_underlying hu, he, goInt]

theorem mm_good {mx : Bool} {x y : Operand} {xs : Array Operand} {ts : Array TypeId} {x' y' : OA} (ho : o.op = .call { callee := .builtin (if mx then .max else .min), args := xs, argTypes := ts }) (hxs : xs.toList = [x, y])
    (hx : opndOf x = some x') (hy : opndOf y = some y') (h : (hMm mx x' y' e k).good) : PG P o e k := by
  have hxs' : xs = #[x, y] := by rw [← Array.toArray_toList (xs := xs), hxs]
  subst hxs'
  unfold hMm at h
  rw [oK_eq] at h
  obtain ⟨m, hm, h⟩ := isP_good h
  rw [oK_eq] at h
  obtain ⟨n, hn, h⟩ := isP_good h
  rw [iteK_eq] at h
  have fin : ∀ r : Nat, (mx = false → (r : Int) = if (n : Int) < m then (n : Int) else m) → (mx = true → (r : Int) = if (n : Int) > m then (n : Int) else m) → (k (.p r)).good → PG P o e k := by
    intro r h1 h2 hk
    refine ⟨.p r, fun μ nx w a hr => ⟨.int .i64 r, ?_, rfl⟩, hk⟩
    have hvx := hr x (by simp [ho, Op.operands, Call.operands]) _ hx
    have hvy := hr y (by simp [ho, Op.operands, Call.operands]) _ hy
    rw [hm] at hvx
    rw [hn] at hvy
    have hvx : a.eval x = .int .i64 m := hvx
    have hvy : a.eval y = .int .i64 n := hvy
    simp only [execOp, ho, resolve]
    cases mx
    · rw [h1 rfl]
      simp [invoke, builtin, Builtin.min_, Builtin.min2, hvx, hvy]
    · rw [h2 rfl]
      simp [invoke, builtin, Builtin.max_, Builtin.max2, hvx, hvy]
  split at h
  · rename_i hle
    have hle := Nat.le_of_ble_eq_true hle
    cases mx
    · exact fin m (fun _ => by rw [if_neg (by omega)]) (by simp) h
    · exact fin n (by simp) (fun _ => by split <;> omega) h
  · rename_i hle
    have hle : ¬ m ≤ n := fun hh => hle (Nat.ble_eq_true_of_le hh)
    cases mx
    · exact fin n (fun _ => by rw [if_pos (by omega)]) (by simp) h
    · exact fin m (by simp) (fun _ => by rw [if_neg (by omega)]) h

end
end Go.Ev
