/-
  An abstract evaluator for Go code under the model: what pieces of a run come to, put together.
-/
import Derived.Test.YtceplogmemkblaaGreatEvU
namespace Go.Ev
section
variable {P : Program}

/-- What a piece of code comes to, whatever it was made of. -/
def SemC (P : Program) (a : ACode) (e : Env) (h : H) (x : AEx) (e' : Env) (h' : H) : Prop := ∀ nt c, cmpC P nt c = some a → CodeS P nt c e h x e' h'
/-- What the rounds of a loop come to. -/
def SemL (P : Program) (a : ACode) (e : Env) (h : H) (x : AEx) (e' : Env) (h' : H) : Prop := ∀ nt c, cmpC P nt c = some a → LoopS P nt c e h x e' h'

/-- Less is known. -/
structure Drop (e : Env) (h : H) (e' : Env) (h' : H) : Prop where
  env : ∀ i, e'.get i = .u ∨ e'.get i = e.get i
  nx : h'.nx = h.nx
  heap : ∀ j, h'.t.get j = none ∨ h'.t.get j = h.t.get j

theorem CodeS.drop {nt : Nat} {c : Code} {e e1 e2 : Env} {h h1 h2 : H} {x : AEx} (hs : CodeS P nt c e h x e1 h1) (d : Drop e1 h1 e2 h2) : CodeS P nt c e h x e2 h2 := by
  have hm : ∀ j o, h2.t.get j = some o → h1.t.get j = some o := fun j o hj => by
    rcases d.heap j with h0 | h0
    · rw [h0] at hj; cases hj
    · rw [← h0]; exact hj
  intro μ a w Q s hq
  refine hs μ a w Q s fun μ' a' w' x s' => hq μ' a' w' ?_ ?_
  · exact ⟨x.agree, by rw [d.nx]; exact x.nx, x.size, x.shape, x.frame, fun b o hb => x.fresh b o (hm b o hb), x.same, x.gsz⟩
  · refine ⟨s'.size, s'.defers, fun i => ?_, fun b o hb => ?_, fun b o hb => ?_, fun b o b' o' hb hb' e => s'.heap.inj b o b' o' (hm b o hb) (hm b' o' hb') e, s'.heap.gl, fun b o hb => s'.heap.low b o (hm b o hb)⟩
    · rcases d.env i with h0 | h0
      · rw [h0]; trivial
      · rw [h0, d.nx]; exact s'.env i
    · rw [d.nx]; exact s'.heap.lt b o (hm b o hb)
    · rw [d.nx]; exact s'.heap.obj b o (hm b o hb)

/-! ### To forget -/

noncomputable def delsK (l : List Nat) : PT AO → (PT AO → Res) → Res := List.rec (motive := fun _ => PT AO → (PT AO → Res) → Res) (fun t k => k t) (fun b _ ih t k => PT.updK 6 t b none fun t => ih t k) l
theorem delsK_good : ∀ {l : List Nat} {t : PT AO} {k : PT AO → Res}, (delsK l t k).good → ∃ t', (∀ j, t'.get j = none ∨ t'.get j = t.get j) ∧ (k t').good
  | [], t, k, h => ⟨t, fun _ => .inr rfl, h⟩
  | b :: l, t, k, h => by
    obtain ⟨t1, h1, h⟩ := PT.updK_good (show (PT.updK 6 t b none fun t => delsK l t k).good from h)
    obtain ⟨t', h2, h⟩ := delsK_good h
    refine ⟨t', fun j => ?_, h⟩
    rcases h2 j with h3 | h3
    · exact .inl h3
    · rw [h3, h1 j]
      split
      · exact .inl rfl
      · exact .inr rfl
noncomputable def deadK (l : List Ix) : Env → (Env → Res) → Res := List.rec (motive := fun _ => Env → (Env → Res) → Res) (fun e k => k e) (fun i _ ih e k => Env.setK i .u (fun e => ih e k) e) l
theorem deadK_good : ∀ {l : List Ix} {e : Env} {k : Env → Res}, (deadK l e k).good → ∃ e', (∀ i, e'.get i = .u ∨ e'.get i = e.get i) ∧ (k e').good
  | [], e, k, h => ⟨e, fun _ => .inr rfl, h⟩
  | i :: l, e, k, h => by
    have h : (Env.setK i .u (fun e => deadK l e k) e).good := h
    rw [Env.setK_eq] at h
    obtain ⟨e', h1, h⟩ := deadK_good h
    refine ⟨e', fun j => ?_, h⟩
    rcases h1 j with h3 | h3
    · exact .inl h3
    · rw [h3, Env.get_set]
      split
      · exact .inl rfl
      · exact .inr rfl
/-- Of the places only these stay. -/
noncomputable def liveK (l : List Ix) (e : Env) (k : Env → Res) : Res :=
  List.rec (motive := fun _ => Env → (Env → Res) → Res) (fun acc k => k acc) (fun i _ ih acc k => Env.getK i (fun v => Env.setK i v (fun acc => ih acc k) acc) e) l env0 k
theorem liveK_good {l : List Ix} {e : Env} {k : Env → Res} (h : (liveK l e k).good) : ∃ e', (∀ i, e'.get i = .u ∨ e'.get i = e.get i) ∧ (k e').good := by
  have key : ∀ (l : List Ix) (acc : Env), (∀ i, acc.get i = .u ∨ acc.get i = e.get i) →
      (List.rec (motive := fun _ => Env → (Env → Res) → Res) (fun acc k => k acc) (fun i _ ih acc k => Env.getK i (fun v => Env.setK i v (fun acc => ih acc k) acc) e) l acc k).good →
      ∃ e', (∀ i, e'.get i = .u ∨ e'.get i = e.get i) ∧ (k e').good := by
    intro l
    induction l with
    | nil => intro acc ha h; exact ⟨acc, ha, h⟩
    | cons i l ih =>
      intro acc ha h
      have h : (Env.getK i (fun v => Env.setK i v (fun acc => List.rec (motive := fun _ => Env → (Env → Res) → Res) (fun acc k => k acc) (fun i _ ih acc k => Env.getK i (fun v => Env.setK i v (fun acc => ih acc k) acc) e) l acc k) acc) e).good := h
      rw [Env.getK_eq, Env.setK_eq] at h
      refine ih _ (fun j => ?_) h
      rw [Env.get_set]
      by_cases e1 : j = i
      · rw [if_pos e1, e1]; exact .inr rfl
      · rw [if_neg e1]; exact ha j
  exact key l env0 (fun i => .inl (env0_get i)) h

/-- Behind a piece: the blocks from nx0 on go unless they are to be kept; the others that are to go, go; of the environment only the named places stay. -/
noncomputable def forgetK (nx0 : Nat) (keep del : List Nat) (live : List Ix) (KK : KX) : KX := fun x e h =>
  H.rec (motive := fun _ => Res) (fun t nx => gcK keep nx0 t fun t => delsK del t fun t => liveK live e fun e => KK x e ⟨t, nx⟩) h
theorem forgetK_good {nx0 : Nat} {keep del : List Nat} {live : List Ix} {KK : KX} {x : AEx} {e : Env} {h : H} (hg : (forgetK nx0 keep del live KK x e h).good) : ∃ e' h', Drop e h e' h' ∧ (KK x e' h').good := by
  obtain ⟨t1, h1, hg⟩ := gcK_good (show (gcK keep nx0 h.t fun t => delsK del t fun t => liveK live e fun e => KK x e ⟨t, h.nx⟩).good from hg)
  obtain ⟨t2, h2, hg⟩ := delsK_good hg
  obtain ⟨e', h3, hg⟩ := liveK_good hg
  refine ⟨e', ⟨t2, h.nx⟩, ⟨h3, rfl, fun j => ?_⟩, hg⟩
  rcases h2 j with h4 | h4
  · exact .inl h4
  · rw [show (⟨t2, h.nx⟩ : H).t.get j = t2.get j from rfl, h4]; exact h1 j

/-! ### Pieces -/

open Classical in
/-- Asks for one end. -/
noncomputable def isEnd (x : AEx) (e : Env) (h : H) : KX := fun x1 e1 h1 => if x1 = x ∧ e1 = e ∧ h1 = h then .ok .u h else .fail 0
theorem isEnd_good {x x1 : AEx} {e e1 : Env} {h h1 : H} (hg : (isEnd x e h x1 e1 h1).good) : x1 = x ∧ e1 = e ∧ h1 = h := by
  unfold isEnd at hg
  split at hg
  · assumption
  · exact absurd hg Res.not_good_fail
theorem isEnd_self {x : AEx} {e : Env} {h : H} : (isEnd x e h x e h).good := by
  unfold isEnd
  rw [if_pos ⟨rfl, rfl, rfl⟩]
  exact ⟨_, _, rfl⟩

theorem semC_run (hmix : P.follows .mixedOrders = true) {T : Tb} (hT : TRel P T) (n m : Nat) (nx0 : Nat) (keep del : List Nat) (live : List Ix) {a : ACode} {e e' : Env} {h h' : H} {x : AEx}
    (hr : ∀ KK : KX, cK a (callX T (ev T n)) (ev T m) e h (forgetK nx0 keep del live KK) = KK x e' h') : SemC P a e h x e' h' := by
  intro nt c hc
  have hg : (cK a (callX T (ev T n)) (ev T m) e h (forgetK nx0 keep del live (isEnd x e' h'))).good := by rw [hr]; exact isEnd_self
  obtain ⟨x1, e1, h1, hs, hg⟩ := cK_good hmix (callX_good hT (ev_good hmix hT n)) (ev_good hmix hT m) c e h _ hc hg
  obtain ⟨e2, h2, d, hg⟩ := forgetK_good hg
  cases isEnd_good hg with
  | intro q1 q => obtain ⟨q2, q3⟩ := q; subst q1; subst q2; subst q3; exact hs.drop d

theorem SemC.seq {a b : ACode} {e e1 e2 : Env} {h h1 h2 : H} {x : AEx} (ha : SemC P a e h .n e1 h1) (hb : SemC P b e1 h1 x e2 h2) : SemC P (.seq a b) e h x e2 h2 := by
  intro nt c
  induction c with
  | seq c1 c2 _ _ =>
    intro hc
    unfold cmpC at hc
    split at hc
    · rename_i a' b' q1 q2
      cases hc
      intro μ ac w Q s hq
      exact wp_seq (ha nt c1 q1 μ ac w _ s fun μ' a' w' x1 s' => hb nt c2 q2 μ' a' w' Q s' fun μ'' a'' w'' x2 s'' => hq μ'' a'' w'' (x1.trans x2) s'')
    · split at hc <;> cases hc
    · cases hc
  | scope c ih =>
    intro hc μ ac w Q s hq
    refine wp_scope_straight (ih hc μ ac w _ s fun μ' a' w' x1 s' => ?_)
    cases x <;> exact hq μ' a' w' x1 s'
  | region id ops d => intro hc; cases d <;> (obtain ⟨_, _, q⟩ := Option.map_eq_some_iff.1 hc; cases q)
  | block id c _ => intro hc; obtain ⟨_, _, q⟩ := Option.map_eq_some_iff.1 hc; cases q
  | loop c _ => intro hc; obtain ⟨_, _, q⟩ := Option.map_eq_some_iff.1 hc; cases q
  | cond x c1 c2 _ _ => intro hc; unfold cmpC at hc; split at hc <;> cases hc
  | _ => intro hc; cases hc

/-- What stops early stops the whole. -/
theorem SemC.seqStop {a b : ACode} {e e1 : Env} {h h1 : H} {x : AEx} (hx : x ≠ .n) (ha : SemC P a e h x e1 h1) : SemC P (.seq a b) e h x e1 h1 := by
  intro nt c
  induction c with
  | seq c1 c2 _ _ =>
    intro hc
    unfold cmpC at hc
    split at hc
    · rename_i a' b' q1 q2
      cases hc
      intro μ ac w Q s hq
      refine wp_seq (ha nt c1 q1 μ ac w _ s fun μ' a' w' x1 s' => ?_)
      cases x with
      | n => exact absurd rfl hx
      | x id => exact hq μ' a' w' x1 s'
      | r => exact hq μ' a' w' x1 s'
    · split at hc <;> cases hc
    · cases hc
  | scope c ih =>
    intro hc μ ac w Q s hq
    refine wp_scope_straight (ih hc μ ac w _ s fun μ' a' w' x1 s' => ?_)
    cases x <;> exact hq μ' a' w' x1 s'
  | region id ops d => intro hc; cases d <;> (obtain ⟨_, _, q⟩ := Option.map_eq_some_iff.1 hc; cases q)
  | block id c _ => intro hc; obtain ⟨_, _, q⟩ := Option.map_eq_some_iff.1 hc; cases q
  | loop c _ => intro hc; obtain ⟨_, _, q⟩ := Option.map_eq_some_iff.1 hc; cases q
  | cond x c1 c2 _ _ => intro hc; unfold cmpC at hc; split at hc <;> cases hc
  | _ => intro hc; cases hc

def exBlk (id : Nat) : AEx → AEx
  | .n => .n
  | .x i => if i = id then .n else .x i
  | .r => .r
theorem SemC.blk {id : Nat} {a : ACode} {e e1 : Env} {h h1 : H} {x y : AEx} (hy : exBlk id x = y) (ha : SemC P a e h x e1 h1) : SemC P (.blk id a) e h y e1 h1 := by
  subst hy
  intro nt c
  induction c with
  | block id' c _ =>
    intro hc
    obtain ⟨a', h1', q⟩ := Option.map_eq_some_iff.1 hc
    cases q
    intro μ ac w Q s hq
    refine wp_block (ha nt c h1' μ ac w _ s fun μ' a' w' x1 s' => ?_)
    cases x with
    | n => exact hq μ' a' w' x1 s'
    | x i =>
      by_cases e : i = id
      · subst e
        have : exBlk i (.x i) = .n := by simp [exBlk]
        rw [this] at hq
        simp only [exOf, Exit.inBlock, if_true]
        exact hq μ' a' w' x1 s'
      · have : exBlk id (.x i) = .x i := by simp [exBlk, e]
        rw [this] at hq
        simp only [exOf, Exit.inBlock, e, if_false]
        exact hq μ' a' w' x1 s'
    | r => exact hq μ' a' w' x1 s'
  | scope c ih =>
    intro hc μ ac w Q s hq
    refine wp_scope_straight (ih hc μ ac w _ s fun μ' a' w' x1 s' => ?_)
    generalize exBlk id x = y at hq
    cases y <;> exact hq μ' a' w' x1 s'
  | region id ops d => intro hc; cases d <;> (obtain ⟨_, _, q⟩ := Option.map_eq_some_iff.1 hc; cases q)
  | seq c1 c2 _ _ =>
    intro hc
    unfold cmpC at hc
    split at hc
    · cases hc
    · split at hc <;> cases hc
    · cases hc
  | loop c _ => intro hc; obtain ⟨_, _, q⟩ := Option.map_eq_some_iff.1 hc; cases q
  | cond x c1 c2 _ _ => intro hc; unfold cmpC at hc; split at hc <;> cases hc
  | _ => intro hc; cases hc

theorem SemL.step {a : ACode} {e e1 e2 : Env} {h h1 h2 : H} {x : AEx} (ha : SemC P a e h .n e1 h1) (hl : SemL P a e1 h1 x e2 h2) : SemL P a e h x e2 h2 := by
  intro nt c hc
  obtain ⟨n, hs⟩ := hl nt c hc
  exact ⟨n + 1, fun μ ac w Q s hq => ha nt c hc μ ac w _ s fun μ' a' w' x1 s' => hs μ' a' w' Q s' fun μ'' a'' w'' x2 s'' => hq μ'' a'' w'' (x1.trans x2) s''⟩
theorem SemL.exit {a : ACode} {e e1 : Env} {h h1 : H} {x : AEx} (hx : x ≠ .n) (ha : SemC P a e h x e1 h1) : SemL P a e h x e1 h1 := by
  intro nt c hc
  refine ⟨1, fun μ ac w Q s hq => ha nt c hc μ ac w _ s fun μ' a' w' x1 s' => ?_⟩
  cases x with
  | n => exact absurd rfl hx
  | x id => exact hq μ' a' w' x1 s'
  | r => exact hq μ' a' w' x1 s'
theorem SemC.loop {a : ACode} {e e1 : Env} {h h1 : H} {x : AEx} (ha : SemL P a e h x e1 h1) : SemC P (.loop a) e h x e1 h1 := by
  intro nt c
  induction c with
  | loop c _ =>
    intro hc
    obtain ⟨a', h1', q⟩ := Option.map_eq_some_iff.1 hc
    cases q
    obtain ⟨n, hs⟩ := ha nt c h1'
    exact fun μ ac w Q s hq => wp_loop_rounds n (hs μ ac w Q s hq)
  | scope c ih =>
    intro hc μ ac w Q s hq
    refine wp_scope_straight (ih hc μ ac w _ s fun μ' a' w' x1 s' => ?_)
    cases x <;> exact hq μ' a' w' x1 s'
  | region id ops d => intro hc; cases d <;> (obtain ⟨_, _, q⟩ := Option.map_eq_some_iff.1 hc; cases q)
  | seq c1 c2 _ _ =>
    intro hc
    unfold cmpC at hc
    split at hc
    · cases hc
    · split at hc <;> cases hc
    · cases hc
  | block id c _ => intro hc; obtain ⟨_, _, q⟩ := Option.map_eq_some_iff.1 hc; cases q
  | cond x c1 c2 _ _ => intro hc; unfold cmpC at hc; split at hc <;> cases hc
  | _ => intro hc; cases hc

theorem SemC.cond {y : OA} {a b : ACode} {e e1 : Env} {h h1 : H} {x : AEx} (t : Bool) (hy : ∀ k, oK y k e = k (.b t)) (ha : SemC P (if t then a else b) e h x e1 h1) : SemC P (.cond y a b) e h x e1 h1 := by
  intro nt c
  induction c with
  | cond z c1 c2 _ _ =>
    intro hc
    unfold cmpC at hc
    split at hc
    · rename_i y' a' b' q0 q1 q2
      cases hc
      intro μ ac w Q s hq
      have hev : ac.eval z = .bool t := by
        have h1 := Rho.of_env s.env #[z] z (by simp) y q0
        have h2 : oV e.get y = .b t := by
          have := hy (fun v => .ok v ⟨.nil, 0⟩)
          rw [oK_eq] at this
          injection this
        rw [h2] at h1
        exact h1
      cases t with
      | true => exact wp_cond_true hev ((show SemC P _ e h x e1 h1 from ha) nt c1 q1 μ ac w Q s hq)
      | false => exact wp_cond_false hev (ha nt c2 q2 μ ac w Q s hq)
    · cases hc
  | scope c ih =>
    intro hc μ ac w Q s hq
    refine wp_scope_straight (ih hc μ ac w _ s fun μ' a' w' x1 s' => ?_)
    cases x <;> exact hq μ' a' w' x1 s'
  | region id ops d => intro hc; cases d <;> (obtain ⟨_, _, q⟩ := Option.map_eq_some_iff.1 hc; cases q)
  | seq c1 c2 _ _ =>
    intro hc
    unfold cmpC at hc
    split at hc
    · cases hc
    · split at hc <;> cases hc
    · cases hc
  | block id c _ => intro hc; obtain ⟨_, _, q⟩ := Option.map_eq_some_iff.1 hc; cases q
  | loop c _ => intro hc; obtain ⟨_, _, q⟩ := Option.map_eq_some_iff.1 hc; cases q
  | _ => intro hc; cases hc

open Classical in
theorem csem_of {f : Nat} {ps : List Ix} {body : ACode} {rs : RSt} {l v : AV} {e e' : Env} {h h' : H} {x : AEx} (hcf : cmpF P f = some (.fn ps body rs)) (hs : SemC P body e h x e' h') (hx : x = .n ∨ x = .r)
    (hb : ∀ k, bind8 ps l k = k e) (hr : ∀ k, resK rs e' h' k = k v h') : CSem P f l h v h' := by
  let ih : IH := fun ac e1 h1 k => if ac = body ∧ e1 = e ∧ h1 = h then k x e' h' else .fail 0
  let k : AV → H → Res := fun v1 h1 => if v1 = v ∧ h1 = h' then .ok .u h else .fail 0
  have hg : (bind8 ps l fun e => ih body e h (retX rs k)).good := by
    rw [hb]
    show (if body = body ∧ e = e ∧ h = h then retX rs k x e' h' else .fail 0).good
    rw [if_pos ⟨rfl, rfl, rfl⟩]
    have : retX rs k x e' h' = resK rs e' h' k := by rcases hx with rfl | rfl <;> rfl
    rw [this, hr]
    show (if v = v ∧ h' = h' then Res.ok .u h else .fail 0).good
    rw [if_pos ⟨rfl, rfl⟩]
    exact ⟨_, _, rfl⟩
  obtain ⟨v1, h1, hs1, hk⟩ := fn_good (ih := ih) (fun nt c ac e1 h1 k2 hc hg2 => by
    have hg3 : (if ac = body ∧ e1 = e ∧ h1 = h then k2 x e' h' else .fail 0).good := hg2
    by_cases q : ac = body ∧ e1 = e ∧ h1 = h
    · rw [if_pos q] at hg3
      obtain ⟨q1, q2, q3⟩ := q
      subst q1; subst q2; subst q3
      exact ⟨x, e', h', hs nt c hc, hg3⟩
    · rw [if_neg q] at hg3
      exact absurd hg3 Res.not_good_fail) hcf hg
  have hk : (if v1 = v ∧ h1 = h' then Res.ok .u h else .fail 0).good := hk
  split at hk
  · rename_i q
    obtain ⟨rfl, rfl⟩ := q
    exact hs1
  · exact absurd hk Res.not_good_fail

/-- The same code some times more, one behind the other. -/
noncomputable def repC (n : Nat) (a : ACode) : ACode := Nat.rec (motive := fun _ => ACode) a (fun _ b => .seq a b) n

theorem repC_good (hmix : P.follows .mixedOrders = true) {T : Tb} (hT : TRel P T) {n m nt : Nat} {c : Code} {a : ACode} (hc : cmpC P nt c = some a) {k : KX} (hk : ∀ x e h, (k x e h).good → x = .n) :
    ∀ (i : Nat) (e : Env) (h : H), (cK (repC i a) (callX T (ev T n)) (ev T m) e h k).good →
      ∃ e1 h1, (k .n e1 h1).good ∧ ∀ e2 h2, Drop e1 h1 e2 h2 → ∀ x e' h', LoopS P nt c e2 h2 x e' h' → LoopS P nt c e h x e' h' := by
  have step : ∀ {e e1 e' : Env} {h h1 h' : H} {x : AEx}, CodeS P nt c e h .n e1 h1 → LoopS P nt c e1 h1 x e' h' → LoopS P nt c e h x e' h' := by
    intro e e1 e' h h1 h' x ha ⟨r, hs⟩
    exact ⟨r + 1, fun μ ac w Q s hq => ha μ ac w _ s fun μ' a' w' x1 s' => hs μ' a' w' Q s' fun μ'' a'' w'' x2 s'' => hq μ'' a'' w'' (x1.trans x2) s''⟩
  intro i
  induction i with
  | zero =>
    intro e h hg
    obtain ⟨x, e1, h1, hs, hg⟩ := cK_good hmix (callX_good hT (ev_good hmix hT n)) (ev_good hmix hT m) c e h k hc hg
    have := hk _ _ _ hg
    subst this
    exact ⟨e1, h1, hg, fun e2 h2 d x e' h' hl => step (hs.drop d) hl⟩
  | succ i ih =>
    intro e h hg
    obtain ⟨x, e1, h1, hs, hg⟩ := cK_good hmix (callX_good hT (ev_good hmix hT n)) (ev_good hmix hT m) c e h _ hc (show (cK a (callX T (ev T n)) (ev T m) e h (seqX (cK (repC i a)) (callX T (ev T n)) (ev T m) k)).good from hg)
    cases x with
    | n =>
      obtain ⟨e2, h2, q1, q2⟩ := ih e1 h1 hg
      exact ⟨e2, h2, q1, fun e3 h3 d x e' h' hl => step hs (q2 e3 h3 d x e' h' hl)⟩
    | x id => exact absurd (hk _ _ _ hg) (by simp)
    | r => exact absurd (hk _ _ _ hg) (by simp)

theorem semL_run (hmix : P.follows .mixedOrders = true) {T : Tb} (hT : TRel P T) (i n m : Nat) (nx0 : Nat) (keep del : List Nat) (live : List Ix) {a : ACode} {e e' e2 : Env} {h h' h2 : H} {x : AEx}
    (hr : ∀ KK : KX, cK (repC i a) (callX T (ev T n)) (ev T m) e h (forgetK nx0 keep del live KK) = KK .n e' h') (hl : SemL P a e' h' x e2 h2) : SemL P a e h x e2 h2 := by
  intro nt c hc
  have hg : (cK (repC i a) (callX T (ev T n)) (ev T m) e h (forgetK nx0 keep del live (isEnd .n e' h'))).good := by rw [hr]; exact isEnd_self
  obtain ⟨e1, h1, hg, hs⟩ := repC_good hmix hT hc (fun x e h q => by obtain ⟨_, _, _, q⟩ := forgetK_good q; exact (isEnd_good q).1) i e h hg
  obtain ⟨e3, h3, d, hg⟩ := forgetK_good hg
  obtain ⟨_, q2, q3⟩ := isEnd_good hg
  subst q2; subst q3
  exact hs _ _ d _ _ _ (hl nt c hc)

/-! Short words for the states' texts. -/
/-- A written list, and more behind it. -/
noncomputable def apA (x y : AV) : AV := AV.rec (motive := fun _ => AV) (y) (fun _ => y) (fun _ => y) (fun _ => y) (fun _ _ => y) (fun _ _ => y) (fun _ _ => y) (y) (fun _ _ _ _ _ => y) (y) (y) (fun _ => y) (y) (fun _ _ _ _ _ => y) (y) (fun _ _ => y) (fun _ _ => y) (y) (fun a _ _ it => .cons a it) x
/-- An entry of a map of string keys, ahead of others. -/
def me (l b p c : Nat) (t : AV) : AV := .cons (.tu (.cons (.s l b) (.cons (.p p) (.cons (.p c) .nil)))) t
def vp (m : Nat) : PT AV := .lf (.p m)
def n1 {α : Type} (x : PT α) : PT α := .nd x .nil .nil .nil .nil .nil .nil .nil
def q8 (a b c d e f g h : Nat) : PT AV := .nd (.lf (.p a)) (.lf (.p b)) (.lf (.p c)) (.lf (.p d)) (.lf (.p e)) (.lf (.p f)) (.lf (.p g)) (.lf (.p h))
def w1 (m : Nat) (a : AV) : PT AO := .lf (.row m (.s1 (.lf a) .nil .nil .nil .nil .nil .nil .nil) .u)
def w2 (m : Nat) (a b : AV) : PT AO := .lf (.row m (.s1 (.lf a) (.lf b) .nil .nil .nil .nil .nil .nil) .u)

/-- A function by what is known of one call of it. -/
noncomputable def onceK (ok : AV → H → Bool) (v : AV) (h' : H) (l : AV) (h : H) (k : AV → H → Res) : Res := iteK (ok l h) (k v h') (.fail 121)

end
end Go.Ev
