/-
  An abstract evaluator for Go code under the model: slices of slices and strings, structs, function values; and all operations that only compute, together.
-/
import Derived.Test.YtceplogmemkblaaGreatEvG
namespace Go.Ev

section
variable {P : Program} {o : Oper} {e : Env} {k : AV → Res}

/-- A bound that is given, or its default. -/
def OptV (v : Option Value) (d n : Nat) : Prop := (v = none ∧ n = d) ∨ ∃ kd, v = some (.int kd (n : Nat))

theorem optK_good {x : Option OA} {d : Nat} {k : Nat → Res} (h : (optK x d k e).good) :
    ∃ n, (∀ (xo : Option Operand), optO xo = some x → ∀ μ nx w a (xs : Array Operand), Rho μ nx w (oV e.get) a xs → (∀ y, xo = some y → y ∈ xs) → OptV (xo.map a.eval) d n) ∧ (k n).good := by
  cases x with
  | none =>
    refine ⟨d, fun xo hx μ nx w a xs _ _ => ?_, h⟩
    cases xo with
    | none => exact .inl ⟨rfl, rfl⟩
    | some y => obtain ⟨z, hz, hh⟩ := Option.map_eq_some_iff.1 hx; cases hh
  | some x' =>
    have h : (oK x' (fun v => idxK v k) e).good := h
    rw [oK_eq] at h
    obtain ⟨m, ⟨kd, hm⟩, h⟩ := idxK_good h
    refine ⟨m, fun xo hx μ nx w a xs hr hmem => ?_, h⟩
    cases xo with
    | none => cases hx
    | some y =>
      obtain ⟨z, hz, hh⟩ := Option.map_eq_some_iff.1 hx
      cases hh
      exact .inr ⟨kd, by rw [Option.map_some, hm μ nx w _ (hr y (hmem y rfl) _ hz)]⟩

theorem run_sliceBound {v : Value} {kd : IntKind} {n y : Nat} {code : BoundsCode} {w : World} (hv : v = .int kd (n : Nat)) (h : n ≤ y) : (Instr.sliceBound v y code).run P w = .ok n w := by
  subst hv
  have h3 : (0 : Int) ≤ (n : Int) ∧ (n : Int) ≤ y := ⟨by omega, by omega⟩
  simp [Instr.sliceBound, asIntOf, h3]

theorem run_sliceBounds {b : Bool} {lo hi : Option Value} {len cap l h : Nat} {w : World} (hl : OptV lo 0 l) (hh : OptV hi len h) (h1 : l ≤ h) (h2 : h ≤ cap) : (Instr.sliceBounds b len cap lo hi none).run P w = .ok (l, h, cap) w := by
  unfold Instr.sliceBounds
  rcases hl with ⟨rfl, rfl⟩ | ⟨kl, rfl⟩ <;> rcases hh with ⟨rfl, rfl⟩ | ⟨kh, rfl⟩ <;> simp [run_sliceBound rfl h1, run_sliceBound rfl h2]

theorem run_sliceBoundsMax {b : Bool} {lo hi : Option Value} {km : IntKind} {len cap l h m : Nat} {w : World} (hl : OptV lo 0 l) (hh : OptV hi len h) (hi' : hi ≠ none) (h1 : l ≤ h) (h2 : h ≤ m) (h3 : m ≤ cap) :
    (Instr.sliceBounds b len cap lo hi (some (.int km (m : Nat)))).run P w = .ok (l, h, m) w := by
  unfold Instr.sliceBounds
  rcases hh with ⟨rfl, rfl⟩ | ⟨kh, rfl⟩
  · exact absurd rfl hi'
  · rcases hl with ⟨rfl, rfl⟩ | ⟨kl, rfl⟩ <;> simp [run_sliceBound rfl h1, run_sliceBound rfl h2, run_sliceBound rfl h3]

theorem sls_good {t : TypeId} {x : Operand} {lo hi : Option Operand} {x' : OA} {lo' hi' : Option OA} (ho : o.op = .slice t x lo hi none) (hx : opndOf x = some x') (hlo : optO lo = some lo') (hhi : optO hi = some hi')
    (hu : P.underlying t = some .string) (hg : (hSls x' lo' hi' e k).good) : PG P o e k := by
  unfold hSls at hg
  rw [oK_eq] at hg
  obtain ⟨len, bits, hb, hg⟩ := isS_good hg
  obtain ⟨h, hh, hg⟩ := optK_good hg
  obtain ⟨l, hl, hg⟩ := optK_good hg
  obtain ⟨h1, hg⟩ := iteK_good hg
  obtain ⟨h2, hg⟩ := iteK_good hg
  rw [forceN_eq, forceN_eq] at hg
  have h1 := Nat.le_of_ble_eq_true h1
  have h2 := Nat.le_of_ble_eq_true h2
  refine ⟨_, fun μ nx w a hr => ?_, hg⟩
  have hv := hr x (by simp [ho, Op.operands]) _ hx
  rw [hb] at hv
  obtain ⟨hv, hbits⟩ := hv
  have hl := hl lo hlo μ nx w a _ hr (fun y hy => by simp [ho, Op.operands, hy])
  have hh := hh hi hhi μ nx w a _ hr (fun y hy => by simp [ho, Op.operands, hy])
  have e1 : Nat.mod (Nat.shiftRight bits (Nat.mul 8 l)) (Nat.pow 2 (Nat.mul 8 (Nat.sub h l))) = (bits / 256 ^ l) % 256 ^ (h - l) := by
    show (bits >>> (8 * l)) % 2 ^ (8 * (h - l)) = _
    rw [Nat.shiftRight_eq_div_pow, ← pow256, ← pow256]
  refine ⟨.string ((dec len bits).extract l h), ?_, ?_⟩
  · simp only [execOp, ho]
    refine run_v ?_
    rw [hv]
    have := run_sliceBounds (P := P) (b := false) (w := w) (len := len) (cap := len) hl hh h1 h2
    simp [Instr.sliceAt, Instr.slice, run_underlying hu, dec_size, this]
  · rw [e1]
    exact ⟨by rw [dec_extract len bits l h h1 h2]; rfl, Nat.mod_lt _ (Nat.pow_pos (by decide))⟩

theorem slx_good {t el : TypeId} {x : Operand} {lo hi mx : Option Operand} {x' : OA} {lo' hi' mx' : Option OA} {sz : Nat} (ho : o.op = .slice t x lo hi mx) (hx : opndOf x = some x') (hlo : optO lo = some lo')
    (hhi : optO hi = some hi') (hmx : optO mx = some mx') (hmh : (mx'.isSome && hi'.isNone) = false) (hu : P.underlying t = some (.slice el)) (hs : szOf P el = some sz) (hg : (hSlx x' lo' hi' mx' sz e k).good) : PG P o e k := by
  unfold hSlx at hg
  rw [oK_eq] at hg
  have hhi0 : mx ≠ none → hi ≠ none := by
    intro hm hn
    subst hn
    cases hhi
    cases mx with
    | none => exact hm rfl
    | some m => obtain ⟨z, hz, hh⟩ := Option.map_eq_some_iff.1 hmx; subst hh; simp at hmh
  -- the model's way, when all bounds are known
  have run : ∀ {μ nx w a} (base : Option Addr) (len c l h m : Nat), Rho μ nx w (oV e.get) a o.op.operands → a.eval x = .slice base len c → OptV (lo.map a.eval) 0 l → OptV (hi.map a.eval) len h →
      (mx = none ∧ m = c ∨ ∃ y km, mx = some y ∧ a.eval y = .int km (m : Nat)) → l ≤ h → h ≤ m → m ≤ c →
      (execOp a.eval o).run P w = .ok (.value (.slice (if m = l then base else base.map (·.add (l * sz))) (h - l) (m - l))) w := by
    intro μ nx w a base len c l h m hr hv hl hh hm h1 h2 h3
    simp only [execOp, ho]
    refine run_v ?_
    rw [hv]
    rcases hm with ⟨rfl, rfl⟩ | ⟨y, km, rfl, hy⟩
    · have := run_sliceBounds (P := P) (b := true) (w := w) (len := len) (cap := m) hl hh h1 h2
      simp [Instr.sliceAt, Instr.slice, run_underlying hu, this, run_szOf hs]
    · have := run_sliceBoundsMax (P := P) (b := true) (w := w) (len := len) (cap := c) (km := km) hl hh (by have := hhi0 (by simp); cases hi <;> simp_all) h1 h2 h3
      simp [Instr.sliceAt, Instr.slice, run_underlying hu, hy, this, run_szOf hs]
  have memx : x ∈ o.op.operands := by simp [ho, Op.operands]
  have meml : ∀ y, lo = some y → y ∈ o.op.operands := fun y hy => by simp [ho, Op.operands, hy]
  have memh : ∀ y, hi = some y → y ∈ o.op.operands := fun y hy => by simp [ho, Op.operands, hy]
  have memm : ∀ y, mx = some y → y ∈ o.op.operands := fun y hy => by simp [ho, Op.operands, hy]
  have beq : ∀ a b : Nat, Nat.beq a b = decide (a = b) := fun a b => by rw [Bool.eq_iff_iff, Nat.beq_eq, decide_eq_true_eq]
  rcases isEz_good hg with ⟨hb, hg⟩ | hg
  · obtain ⟨h, hh, hg⟩ := optK_good hg
    obtain ⟨l, hl, hg⟩ := optK_good hg
    obtain ⟨h0, hg⟩ := iteK_good hg
    obtain ⟨l0, hg⟩ := iteK_good hg
    have h0 : h = 0 := Nat.eq_of_beq_eq_true h0
    have l0 : l = 0 := Nat.eq_of_beq_eq_true l0
    subst h0; subst l0
    cases mx' with
    | none =>
      have hmx : mx = none := by
        cases mx with
        | none => rfl
        | some m => obtain ⟨z, hz, hh⟩ := Option.map_eq_some_iff.1 hmx; cases hh
      have hg : (k .ez).good := hg
      refine ⟨.ez, fun μ nx w a hr => ?_, hg⟩
      have hv := hr x memx _ hx
      rw [hb] at hv
      obtain ⟨ad, c, hv⟩ := hv
      refine ⟨_, run (some ad) 0 c 0 0 c hr hv (hl lo hlo μ nx w a _ hr meml) (hh hi hhi μ nx w a _ hr memh) (.inl ⟨hmx, rfl⟩) (Nat.le_refl _) (Nat.zero_le _) (Nat.le_refl _), ?_⟩
      by_cases hc : c = 0
      · exact ⟨ad, 0, by simp [hc]⟩
      · exact ⟨ad.add (0 * sz), c, by simp [hc]⟩
    | some m' =>
      have hg : (oK m' (fun m => idxK m fun m => iteK (Nat.beq m 0) (k .ez) (.fail 49)) e).good := hg
      rw [oK_eq] at hg
      obtain ⟨m, ⟨km, hm⟩, hg⟩ := idxK_good hg
      obtain ⟨m0, hg⟩ := iteK_good hg
      have m0 : m = 0 := Nat.eq_of_beq_eq_true m0
      subst m0
      obtain ⟨y, hy, hmy⟩ : ∃ y, mx = some y ∧ opndOf y = some m' := by
        cases mx with
        | none => cases hmx
        | some y => obtain ⟨z, hz, hh⟩ := Option.map_eq_some_iff.1 hmx; cases hh; exact ⟨y, rfl, hz⟩
      refine ⟨.ez, fun μ nx w a hr => ?_, hg⟩
      have hv := hr x memx _ hx
      rw [hb] at hv
      obtain ⟨ad, c, hv⟩ := hv
      refine ⟨_, run (some ad) 0 c 0 0 0 hr hv (hl lo hlo μ nx w a _ hr meml) (hh hi hhi μ nx w a _ hr memh) (.inr ⟨y, km, hy, hm μ nx w _ (hr y (memm y hy) _ hmy)⟩) (Nat.le_refl _) (Nat.le_refl _) (Nat.zero_le _), ad, 0, by simp⟩
  rcases isSl_good hg with ⟨b, off, len, cap, st, hb, hg⟩ | ⟨hb, hg⟩
  · obtain ⟨h, hh, hg⟩ := optK_good hg
    obtain ⟨l, hl, hg⟩ := optK_good hg
    obtain ⟨h1, hg⟩ := iteK_good hg
    have h1 := Nat.le_of_ble_eq_true h1
    cases mx' with
    | none =>
      have hmx : mx = none := by
        cases mx with
        | none => rfl
        | some m => obtain ⟨z, hz, hh⟩ := Option.map_eq_some_iff.1 hmx; cases hh
      obtain ⟨h2, hg⟩ := iteK_good hg
      have h2 := Nat.le_of_ble_eq_true h2
      cases st with
      | zero =>
        have hg : (forceN (Nat.add off (Bool.rec (Nat.mul l sz) 0 (Nat.beq cap l))) fun o => forceN (Nat.sub h l) fun n => forceN (Nat.sub cap l) fun c => k (.sl b o n c 0)).good := hg
        rw [forceN_eq, forceN_eq, forceN_eq] at hg
        refine ⟨_, fun μ nx w a hr => ?_, hg⟩
        have hv := hr x memx _ hx
        rw [hb] at hv
        obtain ⟨hlt, hle, c, hv, hc, _⟩ := hv
        have hc := hc rfl
        subst hc
        refine ⟨_, run _ len c l h c hr hv (hl lo hlo μ nx w a _ hr meml) (hh hi hhi μ nx w a _ hr memh) (.inl ⟨hmx, rfl⟩) h1 h2 (Nat.le_refl _), hlt, ?_, c - l, ?_, fun _ => rfl, fun hne => absurd rfl hne⟩
        · show h - l ≤ c - l; omega
        · rw [beq]
          by_cases hcl : c = l
          · simp [hcl]
          · simp [hcl, Addr.add_lit]
      | succ st1 =>
        have hg : (iteK (Nat.beq st1 sz) (iteK (Bool.or (Nat.beq l 0) (Nat.ble (Nat.succ l) cap)) (forceN (Nat.add off (Nat.mul l sz)) fun o => forceN (Nat.sub h l) fun n => forceN (Nat.sub cap l) fun c => k (.sl b o n c (Nat.succ st1))) (k .ez)) (.fail 48)).good := hg
        obtain ⟨hst, hg2⟩ := iteK_good hg
        have hst : st1 = sz := Nat.eq_of_beq_eq_true hst
        subst hst
        rw [iteK_eq] at hg2
        by_cases hl0 : (Bool.or (Nat.beq l 0) (Nat.ble (Nat.succ l) cap)) = true
        rotate_left
        · rw [if_neg hl0] at hg2
          have hlc : ¬ (l + 1 ≤ cap) := fun q => hl0 (by
            have e1 : Nat.ble (Nat.succ l) cap = true := Nat.ble_eq_true_of_le q
            rw [e1]; cases Nat.beq l 0 <;> rfl)
          have hle' : l = cap ∧ h = cap := by omega
          obtain ⟨rfl, rfl⟩ := hle'
          refine ⟨.ez, fun μ nx w a hr => ?_, hg2⟩
          have hv := hr x memx _ hx
          rw [hb] at hv
          obtain ⟨hlt, hle, c, hv, _, hst⟩ := hv
          obtain ⟨hcap, _⟩ := hst (by simp)
          refine ⟨_, run _ len c h h c hr hv (hl lo hlo μ nx w a _ hr meml) (hh hi hhi μ nx w a _ hr memh) (.inl ⟨hmx, rfl⟩) (Nat.le_refl _) hcap (Nat.le_refl _), ?_⟩
          by_cases hc : c = h
          · exact ⟨⟨μ b, off, none⟩, 0, by simp [hc]⟩
          · exact ⟨_, c - h, by rw [if_neg hc, Nat.sub_self]; rfl⟩
        rw [if_pos hl0] at hg2
        rw [forceN_eq, forceN_eq, forceN_eq] at hg2
        refine ⟨_, fun μ nx w a hr => ?_, hg2⟩
        have hv := hr x memx _ hx
        rw [hb] at hv
        obtain ⟨hlt, hle, c, hv, _, hst⟩ := hv
        obtain ⟨hcap, E, m, hsh, hroom⟩ := hst (by simp)
        refine ⟨_, run _ len c l h c hr hv (hl lo hlo μ nx w a _ hr meml) (hh hi hhi μ nx w a _ hr memh) (.inl ⟨hmx, rfl⟩) h1 (by omega) (Nat.le_refl _), hlt, ?_, c - l, ?_, fun hh => absurd hh (by simp), fun _ => ⟨?_, E, m, hsh, ?_⟩⟩
        · show h - l ≤ cap - l; omega
        · have hl0 : l = 0 ∨ l + 1 ≤ cap := by
            cases hq : Nat.beq l 0
            · rw [hq] at hl0; exact .inr (Nat.le_of_ble_eq_true hl0)
            · exact .inl (Nat.eq_of_beq_eq_true hq)
          rcases hl0 with rfl | hl0
          · simp [Addr.add_lit]
          · rw [if_neg (by omega)]
            simp [Addr.add_lit]
        · show cap - l ≤ c - l; omega
        · show off + l * st1 + (c - l) * (st1 + 1 - 1) ≤ m
          simp only [Nat.add_sub_cancel] at hroom ⊢
          rw [Nat.sub_mul]
          have : l * st1 ≤ c * st1 := Nat.mul_le_mul_right _ (by omega)
          omega
    | some m' =>
      have hg : (oK m' (fun m => idxK m fun m => iteK (Nat.ble h m) (iteK (Nat.ble m cap)
            (forceN (Nat.add off (Bool.rec (Nat.mul l sz) 0 (Nat.beq m l))) fun o => forceN (Nat.sub h l) fun n => forceN (Nat.sub m l) fun c => k (.sl b o n c 0)) (.fail 48)) (.fail 48)) e).good := hg
      rw [oK_eq] at hg
      obtain ⟨m, ⟨km, hm⟩, hg⟩ := idxK_good hg
      obtain ⟨h2, hg⟩ := iteK_good hg
      obtain ⟨h3, hg⟩ := iteK_good hg
      have h2 := Nat.le_of_ble_eq_true h2
      have h3 := Nat.le_of_ble_eq_true h3
      rw [forceN_eq, forceN_eq, forceN_eq] at hg
      obtain ⟨y, hy, hmy⟩ : ∃ y, mx = some y ∧ opndOf y = some m' := by
        cases mx with
        | none => cases hmx
        | some y => obtain ⟨z, hz, hh⟩ := Option.map_eq_some_iff.1 hmx; cases hh; exact ⟨y, rfl, hz⟩
      refine ⟨_, fun μ nx w a hr => ?_, hg⟩
      have hv := hr x memx _ hx
      rw [hb] at hv
      obtain ⟨hlt, hle, c, hv, hc0, hc1⟩ := hv
      have hcc : cap ≤ c := by
        by_cases hst : st = 0
        · exact Nat.le_of_eq (hc0 hst).symm
        · exact (hc1 hst).1
      refine ⟨_, run _ len c l h m hr hv (hl lo hlo μ nx w a _ hr meml) (hh hi hhi μ nx w a _ hr memh) (.inr ⟨y, km, hy, hm μ nx w _ (hr y (memm y hy) _ hmy)⟩) h1 h2 (by omega), hlt, ?_, m - l, ?_, fun _ => rfl, fun hne => absurd rfl hne⟩
      · show h - l ≤ m - l; omega
      · rw [beq]
        by_cases hcl : m = l
        · simp [hcl]
        · simp [hcl, Addr.add_lit]
  · obtain ⟨h, hh, hg⟩ := optK_good hg
    obtain ⟨l, hl, hg⟩ := optK_good hg
    have fin : ∀ (m : Nat), m = 0 → h = 0 → l = 0 → (k .ns).good → (mx = none ∨ ∃ y km, mx = some y ∧ ∀ μ nx w a, Rho μ nx w (oV e.get) a o.op.operands → a.eval y = .int km (m : Nat)) → PG P o e k := by
      intro m hm0 hh0 hl0 hk hmm
      subst hm0; subst hh0; subst hl0
      refine ⟨.ns, fun μ nx w a hr => ⟨.slice none 0 0, ?_, rfl⟩, hk⟩
      have hv := hr x memx _ hx
      rw [hb] at hv
      have hv : a.eval x = .slice none 0 0 := hv
      have := run none 0 0 0 0 0 hr hv (hl lo hlo μ nx w a _ hr meml) (hh hi hhi μ nx w a _ hr memh) (by rcases hmm with h | ⟨y, km, h1, h2⟩; exact .inl ⟨h, rfl⟩; exact .inr ⟨y, km, h1, h2 _ _ _ _ hr⟩) (Nat.le_refl _) (Nat.le_refl _) (Nat.le_refl _)
      simpa using this
    cases mx' with
    | none =>
      have hmx : mx = none := by
        cases mx with
        | none => rfl
        | some m => obtain ⟨z, hz, hh⟩ := Option.map_eq_some_iff.1 hmx; cases hh
      obtain ⟨h1, hg⟩ := iteK_good hg
      obtain ⟨h2, hg⟩ := iteK_good hg
      exact fin 0 rfl (Nat.eq_of_beq_eq_true h1) (Nat.eq_of_beq_eq_true h2) hg (.inl hmx)
    | some m' =>
      have hg : (oK m' (fun m => idxK m fun m => iteK (Nat.beq m 0) (iteK (Nat.beq h 0) (iteK (Nat.beq l 0) (k .ns) (.fail 49)) (.fail 49)) (.fail 49)) e).good := hg
      rw [oK_eq] at hg
      obtain ⟨m, ⟨km, hm⟩, hg⟩ := idxK_good hg
      obtain ⟨h0, hg⟩ := iteK_good hg
      obtain ⟨h1, hg⟩ := iteK_good hg
      obtain ⟨h2, hg⟩ := iteK_good hg
      obtain ⟨y, hy, hmy⟩ : ∃ y, mx = some y ∧ opndOf y = some m' := by
        cases mx with
        | none => cases hmx
        | some y => obtain ⟨z, hz, hh⟩ := Option.map_eq_some_iff.1 hmx; cases hh; exact ⟨y, rfl, hz⟩
      exact fin m (Nat.eq_of_beq_eq_true h0) (Nat.eq_of_beq_eq_true h1) (Nat.eq_of_beq_eq_true h2) hg (.inr ⟨y, km, hy, fun μ nx w a hr => hm μ nx w _ (hr y (memm y hy) _ hmy)⟩)

theorem oLK_good : ∀ {xs : List OA} {k : AV → Res}, (oLK xs e k).good → ∃ l, (∀ (ys : List Operand), opndL ys = some xs → ∀ μ nx w a (zs : Array Operand), Rho μ nx w (oV e.get) a zs → (∀ y ∈ ys, y ∈ zs) → VRL μ nx w l (ys.map a.eval)) ∧ (k l).good
  | [], k, h => by
    refine ⟨.nil, fun ys hy μ nx w a zs hr hm => ?_, h⟩
    cases ys with
    | nil => rfl
    | cons y ys => unfold opndL at hy; split at hy <;> cases hy
  | x :: xs, k, h => by
    have h : (oK x (fun v => oLK xs e fun l => k (.cons v l)) e).good := h
    rw [oK_eq] at h
    obtain ⟨l, hl, h⟩ := oLK_good h
    refine ⟨.cons (oV e.get x) l, fun ys hy μ nx w a zs hr hm => ?_, h⟩
    cases ys with
    | nil => cases hy
    | cons y ys =>
      unfold opndL at hy
      split at hy
      · rename_i b bs h1 h2
        cases hy
        exact ⟨a.eval y, ys.map a.eval, rfl, hr y (hm y (by simp)) _ h1, hl ys h2 μ nx w a zs hr (fun y' h' => hm y' (by simp [h']))⟩
      · cases hy

theorem mf_good {f : Nat} {first cap : Array Operand} {fi ca : List OA} (ho : o.op = .makeFunc (.func f) first cap) (h1 : opndL first.toList = some fi) (h2 : opndL cap.toList = some ca) (h : (hMf f fi ca e k).good) : PG P o e k := by
  unfold hMf at h
  obtain ⟨l, hl, h⟩ := oLK_good h
  obtain ⟨c, hc, h⟩ := oLK_good h
  refine ⟨_, fun μ nx w a hr => ⟨.func (.func f) (first.map a.eval) (cap.map a.eval), ?_, ?_⟩, h⟩
  · simp only [execOp, ho]
    exact run_v rfl
  · refine ⟨_, _, rfl, ?_, ?_⟩
    · have := hl _ h1 μ nx w a _ hr (fun y hy => by simp [ho, Op.operands]; exact .inl (by simpa using hy))
      rw [← Array.toList_map] at this; exact this
    · have := hc _ h2 μ nx w a _ hr (fun y hy => by simp [ho, Op.operands]; exact .inr (by simpa using hy))
      rw [← Array.toList_map] at this; exact this

theorem cellsK_good {v : AV} {k : AV → Res} (h : (cellsK v k).good) :
    ∃ cs, (∀ μ nx w x, VR μ nx w v x → VRL μ nx w cs x.cells.toList ∧ ∀ y ∈ x.cells.toList, y.oneCell' = true) ∧ (k cs).good := by
  unfold cellsK at h
  rw [iteK_eq] at h
  split at h
  · rename_i h1
    refine ⟨_, fun μ nx w x hx => ?_, h⟩
    have := AV.one_cell h1 hx
    rw [cells_one this]
    exact ⟨⟨x, [], rfl, hx, rfl⟩, by simp [this]⟩
  · obtain ⟨l, rfl, h⟩ := isAg_good h
    exact ⟨l, fun μ nx w x hx => by obtain ⟨xs, rfl, h1, h2⟩ := hx; exact ⟨h1, h2⟩, h⟩

theorem bdK_good {sz : Nat → Option (Nat × Nat)} : ∀ {ps : List (Nat × Nat × OA)} {l : AV} {k : AV → Res}, (bdK ps l e k).good →
    ∃ r, (∀ (parts : List (Nat × Operand)), partsOf sz parts = some ps → ∀ μ nx w a (zs : Array Operand), Rho μ nx w (oV e.get) a zs → (∀ p ∈ parts, p.2 ∈ zs) →
      ∀ xs : Array Value, VRL μ nx w l xs.toList → (∀ y ∈ xs.toList, y.oneCell' = true) →
      ∃ ys : Array Value, Instr.fill sz xs (parts.map fun p => (p.1, a.eval p.2)) = some ys ∧ VRL μ nx w r ys.toList ∧ ∀ y ∈ ys.toList, y.oneCell' = true) ∧ (k (.ag r)).good
  | [], l, k, h => by
    refine ⟨l, fun parts hp μ nx w a zs hr hm xs hx h1 => ?_, h⟩
    cases parts with
    | nil => exact ⟨xs, rfl, hx, h1⟩
    | cons p ps => unfold partsOf at hp; split at hp <;> cases hp
  | (off, s, x) :: ps, l, k, h => by
    have h : (oK x (fun v => cellsK v fun cs => splK off s cs l fun l => bdK ps l e k) e).good := h
    rw [oK_eq] at h
    obtain ⟨cs, hcs, h⟩ := cellsK_good h
    obtain ⟨l', hl', h⟩ := splK_good _ h
    obtain ⟨r, hr, h⟩ := bdK_good h
    refine ⟨r, fun parts hp μ nx w a zs hrho hm xs hx h1 => ?_, h⟩
    cases parts with
    | nil => cases hp
    | cons p parts =>
      obtain ⟨i, y⟩ := p
      unfold partsOf at hp
      split at hp
      · rename_i off' s' y' ps' h2 h3 h4
        cases hp
        obtain ⟨h5, h6⟩ := hcs μ nx w _ (hrho y (hm (i, y) (by simp)) _ h3)
        obtain ⟨h7, h8, h9⟩ := hl' μ nx w _ _ hx h5
        have hsz : (a.eval y).cells.size = s := by rw [← h7]; simp
        have hxs : off + (a.eval y).cells.size ≤ xs.size := by rw [hsz]; simpa using h8
        have hfold := fold_spl off (a.eval y).cells.toList xs (by simpa using hxs)
        simp only [Array.toArray_toList] at hfold
        obtain ⟨ys, h10, h11, h12⟩ := hr parts h4 μ nx w a zs hrho (fun q hq => hm q (by simp [hq])) ((a.eval y).cells.zipIdx.foldl (fun cs (c, j) => cs.setIfInBounds (off + j) c) xs) (by rw [hfold]; exact h9)
          (fun z hz => by
            rw [hfold] at hz
            rcases spl_mem hz with h | h
            · exact h1 z h
            · exact h6 z h)
        refine ⟨ys, ?_, h11, h12⟩
        simp only [List.map_cons, Instr.fill, h2]
        rw [if_neg (by simp [hsz]; omega)]
        exact h10
      · cases hp

theorem run_places {fs : Array Field} {w : World} (h : fs.all (fun f => (szOf P f.type).isSome) = true) :
    (fs.mapM fun f => do pure (f.offset, ← sizeOf f.type) : Sem (Array (Nat × Nat))).run P w = .ok (fs.map fun f => (f.offset, (szOf P f.type).getD 0)) w := by
  have key : ∀ l : List Field, (∀ f ∈ l, (szOf P f.type).isSome = true) →
      (l.mapM fun f => do pure (f.offset, ← sizeOf f.type) : Sem (List (Nat × Nat))).run P w = .ok (l.map fun f => (f.offset, (szOf P f.type).getD 0)) w := by
    intro l
    induction l with
    | nil => intro _; rfl
    | cons f l ih =>
      intro hl
      obtain ⟨n, hn⟩ := Option.isSome_iff_exists.1 (hl f (by simp))
      rw [List.mapM_cons, Sem.run_bind, Sem.run_bind, run_szOf hn]
      simp only [Result.andThen_ok, Sem.run_pure, Sem.run_bind, ih (fun g hg => hl g (by simp [hg])), List.map_cons, hn, Option.getD_some]
  have hmem : ∀ f ∈ fs.toList, (szOf P f.type).isSome = true := fun f hf => by
    have := Array.all_eq_true_iff_forall_mem.1 h f (by simpa using hf)
    exact this
  rw [Array.mapM_eq_mapM_toList, Sem.run_map, key _ hmem, Result.andThen_ok]
  congr 1
  apply Array.toList_inj.1
  simp

theorem bd_good {t : TypeId} {parts : Array (Nat × Operand)} {fs : Array Field} {z : Array Value} {z' : AV} {ps : List (Nat × Nat × OA)} (ho : o.op = .build t parts) (hu : P.underlying t = some (.struct fs))
    (hz : zeroOf P t = some (.agg z)) (hz' : constL z.toList = some z') (hall : fs.all (fun f => (szOf P f.type).isSome) = true)
    (hps : partsOf (fun i => match fs[i]? with | some (f : Field) => (szOf P f.type).map fun s => (f.offset, s) | none => none) parts.toList = some ps) (h : (hBd z' ps e k).good) : PG P o e k := by
  unfold hBd at h
  obtain ⟨r, hr, h⟩ := bdK_good (sz := fun i => match fs[i]? with | some (f : Field) => (szOf P f.type).map fun s => (f.offset, s) | none => none) h
  refine ⟨_, fun μ nx w a hrho => ?_, h⟩
  obtain ⟨h1, h2⟩ := constL_VRL hz' μ nx w
  obtain ⟨ys, h3, h4, h5⟩ := hr _ hps μ nx w a _ hrho (fun p hp => by simp only [ho, Op.operands]; simp; exact ⟨p.1, by simpa using hp⟩) z h1 h2
  refine ⟨.agg ys, ?_, ys, rfl, h4, h5⟩
  simp only [execOp, ho]
  refine run_v ?_
  unfold Instr.build
  have hplace : (fun x : Nat => (fs.map fun f => (f.offset, (szOf P f.type).getD 0))[x]?) = fun i : Nat => match fs[i]? with | some (f : Field) => (szOf P f.type).map fun s => (f.offset, s) | none => none := by
    funext i
    rw [Array.getElem?_map]
    cases hf : fs[i]? with
    | none => rfl
    | some f =>
      have hmem : f ∈ fs := Array.mem_of_getElem? hf
      have := Array.all_eq_true_iff_forall_mem.1 hall f hmem
      obtain ⟨n, hn⟩ := Option.isSome_iff_exists.1 this
      simp [hn]
  have h3' : Instr.fill (fun x : Nat => (fs.map fun f => (f.offset, (szOf P f.type).getD 0))[x]?) z (parts.map fun (i, x) => (i, a.eval x)).toList = some ys := by
    rw [hplace, Array.toList_map]; exact h3
  simp only [Sem.run_bind, run_zeroOf hz, Result.andThen_ok, run_underlying hu, Value.cells, run_places hall]
  rw [h3']
  rfl

/-- **Each operation that only computes.** -/
theorem compP_good {p : POp} (hc : compP P o = some p) (h : (hP p e k).good) : PG P o e k := by
  unfold compP at hc
  split at hc
  case h_1 x ho => obtain ⟨x', hx, rfl⟩ := Option.map_eq_some_iff.1 hc; exact mv_good (.inl ho) hx h
  case h_2 x ho => obtain ⟨x', hx, rfl⟩ := Option.map_eq_some_iff.1 hc; exact mv_good (.inr ho) hx h
  case h_3 c x y ho =>
    split at hc
    · rename_i h1 h2 h3; cases hc; exact pick_good ho h1 h2 h3 h
    · cases hc
  case h_4 x ho => obtain ⟨x', hx, rfl⟩ := Option.map_eq_some_iff.1 hc; exact nck_good ho hx h
  case h_5 op t x y yt ho =>
    split at hc
    · rename_i x' y' h1 h2
      split at hc
      · split at hc
        · cases hc; exact bin_good ho h1 h2 h
        · rename_i c h3; cases hc; exact eqv_good ho (.inl ⟨rfl, rfl⟩) h3 h1 h2 h
        · cases hc
      · split at hc
        · cases hc; exact bin_good ho h1 h2 h
        · rename_i c h3; cases hc; exact eqv_good ho (.inr ⟨rfl, rfl⟩) h3 h1 h2 h
        · cases hc
      · cases hc; exact bin_good ho h1 h2 h
    · cases hc
  case h_6 t x ho => obtain ⟨x', hx, rfl⟩ := Option.map_eq_some_iff.1 hc; exact nt_good ho hx h
  case h_7 t x ho => obtain ⟨x', hx, rfl⟩ := Option.map_eq_some_iff.1 hc; exact ng_good ho hx h
  case h_8 s d x ho =>
    split at hc
    · rename_i h1 h2 h3; cases hc; exact cv_good ho h3 h1 h2 h
    · cases hc
  case h_9 f first cap ho =>
    split at hc
    · rename_i h1 h2; cases hc; exact mf_good ho h1 h2 h
    · cases hc
  case h_10 t x lo hi mx ho =>
    split at hc
    · rename_i h1 h2 h3 h4 h5
      cases hc
      have hm : mx = none := by
        cases mx with
        | none => rfl
        | some m => obtain ⟨z, hz, hh⟩ := Option.map_eq_some_iff.1 h5; cases hh
      subst hm
      exact sls_good ho h2 h3 h4 h1 h
    · rename_i h1 h2 h3 h4 h5
      split at hc
      · cases hc
      · rename_i h6
        obtain ⟨s, h7, rfl⟩ := Option.map_eq_some_iff.1 hc
        exact slx_good ho h2 h3 h4 h5 (Bool.not_eq_true _ ▸ h6) h1 h7 h
    · cases hc
  case h_11 s x f ho =>
    split at hc
    · rename_i fs x' h1 h2
      split at hc
      · rename_i fl h3
        split at hc
        · rename_i h4; cases hc; exact fa_good ho h2 h1 h3 h4 h
        · cases hc
      · cases hc
    · cases hc
  case h_12 s x f ho =>
    split at hc
    · rename_i fs x' h1 h2
      split at hc
      · rename_i fl h3
        split at hc
        · rename_i h4; cases hc; exact fd_good ho h2 h1 h3 h4 h
        · rename_i h4
          obtain ⟨n, h5, rfl⟩ := Option.map_eq_some_iff.1 hc
          exact fdn_good ho h2 h1 h3 h4 h5 h
        · cases hc
      · cases hc
    · cases hc
  case h_13 t x i ho =>
    split at hc
    · rename_i h1 h2 h3
      obtain ⟨n, h5, rfl⟩ := Option.map_eq_some_iff.1 hc
      exact ia_good ho h2 h3 h1 h5 h
    · rename_i h1 h2 h3
      obtain ⟨n, h5, rfl⟩ := Option.map_eq_some_iff.1 hc
      exact iaa_good ho h2 h3 h1 h5 h
    · cases hc
  case h_14 t x i ho =>
    split at hc
    · rename_i h1 h2 h3; cases hc; exact ixs_good ho h2 h3 h1 h
    · cases hc
  case h_15 x i ho => obtain ⟨x', hx, rfl⟩ := Option.map_eq_some_iff.1 hc; exact ex_good ho hx h
  case h_16 t ps ho =>
    split at hc
    · rename_i fs z h1 h2
      split at hc
      · rename_i z' ps' h3 h4
        split at hc
        · rename_i h5; cases hc; exact bd_good ho h1 h2 h3 h5 h4 h
        · cases hc
      · cases hc
    · cases hc
  case h_17 xs ts ho =>
    split at hc
    · rename_i x h1 h2; obtain ⟨x', hx, rfl⟩ := Option.map_eq_some_iff.1 hc; exact lnS_good ho h1 hx h2 h
    · rename_i x el h1 h2; obtain ⟨x', hx, rfl⟩ := Option.map_eq_some_iff.1 hc; exact lnX_good ho h1 hx h2 h
    · cases hc
  case h_18 xs ts ho =>
    split at hc
    · rename_i x y h1
      split at hc
      · rename_i h2 h3; cases hc; exact mm_good (mx := false) ho h1 h2 h3 h
      · cases hc
    · cases hc
  case h_19 xs ts ho =>
    split at hc
    · rename_i x y h1
      split at hc
      · rename_i h2 h3; cases hc; exact mm_good (mx := true) ho h1 h2 h3 h
      · cases hc
    · cases hc
  case h_20 => cases hc

end
end Go.Ev
