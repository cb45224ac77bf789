/-
  An abstract evaluator for Go code under the model: regions that draw their order. Whatever order is drawn, it comes to what one order comes to.
-/
import Derived.Test.YtceplogmemkblaaGreatEvP
namespace Go.Ev
open Classical

/-- What is known of a region's operations ahead of time: 'dn j k': k comes before j; ch: the operations that change the heap, in their order; ci: an operation's number among them; zi: the number of one of them that is tied to none before it, and that only makes a block; lo, hi: how many of them may have come when another operation comes. -/
structure Stat where
  dn : Nat → Nat → Bool
  m : Nat
  ch : Nat → Nat
  ci : Nat → Option Nat
  zi : Nat
  lo : Nat → Nat
  hi : Nat → Nat

structure StatOK (nt : Nat) (ops : Array Oper) (st : Stat) : Prop where
  back : ∀ (j : Nat) (o : Oper) (e : Edge), ops[j]? = some o → e ∈ o.after → Region.binds .any e = true → e.on < j
  d1 : ∀ j k, st.dn j k = true → ∃ o : Oper, ops[j]? = some o ∧ ∃ e ∈ o.after, Region.binds .any e = true ∧ (e.on = k ∨ st.dn e.on k = true)
  chlt : ∀ i, i < st.m → st.ch i < ops.size ∧ st.ci (st.ch i) = some i
  cich : ∀ j i, st.ci j = some i → i < st.m ∧ st.ch i = j
  c1 : ∀ i i', i < i' → i' < st.m → i' ≠ st.zi → st.dn (st.ch i') (st.ch i) = true
  l1 : ∀ j, j < ops.size → st.ci j = none → ∀ i, i < st.lo j → i < st.m ∧ st.dn j (st.ch i) = true
  u1 : ∀ j, j < ops.size → st.ci j = none → ∀ i, st.hi j ≤ i → i < st.m → st.dn (st.ch i) j = true
  w1 : ∀ (j j' : Nat) (o o' : Oper) (t : Nat), ops[j]? = some o → ops[j']? = some o' → o.dst = some t → o'.dst = some t → j = j'
  r1 : ∀ (j : Nat) (o : Oper) (k : Nat) (o' : Oper) (t : Nat), ops[j]? = some o → ops[k]? = some o' → t ∈ o.looksAt ops → o'.dst = some t → k ≠ j → st.dn j k = true ∨ st.dn k j = true
  rz : st.zi < st.m → ∀ (j : Nat) (o : Oper) (t : Nat) (oz : Oper), ops[j]? = some o → ops[st.ch st.zi]? = some oz → oz.dst = some t → t ∈ o.looksAt ops → ∀ i, i ≤ st.zi → st.dn j (st.ch i) = true
  dst : ∀ (j : Nat) (o : Oper) (t : Nat), ops[j]? = some o → o.dst = some t → t < nt ∧ ∃ i : Ix, i.toNat = t

/-- The operation is a writer of the place i. -/
def Wr (ops : Array Oper) (k : Nat) (i : Ix) : Prop := ∃ o : Oper, ops[k]? = some o ∧ o.dst = some i.toNat

/-- What an operation finds at a place. -/
noncomputable def opv (ops : Array Oper) (st : Stat) (ini fin : Ix → AV) (j : Nat) (i : Ix) : AV := if ∃ k, Wr ops k i ∧ st.dn j k = false then ini i else fin i

/-- An operation that makes a block, and nothing else: what the block is like, and what the answer is, by the block's number. -/
def MakeS (P : Program) (ops : Array Oper) (o : Oper) (ρ : Ix → AV) (ao : AO) (cv : Nat → Value) : Prop :=
  o.guard = none ∧ ∀ (μ : Nat → Nat) (nx : Nat) (w : World) (a : Act), GRho μ nx w ρ a ops o →
    ∃ ob, (execOp a.eval o).run P w = .ok (.value (cv w.heap.size)) (w.alloc ob) ∧ OR μ nx w ao (some ob)

structure DFacts (P : Program) (ops : Array Oper) (st : Stat) (ini fin : Ix → AV) (hp : Nat → H) (dz : Ix) (az : AO) (cv : Nat → Value) : Prop where
  keep : ∀ i, (∀ k, ¬ Wr ops k i) → fin i = ini i
  hold : ∀ (j : Nat) (o : Oper), ops[j]? = some o → st.ci j = none → ∀ q, st.lo j ≤ q → q ≤ st.hi j → q ≤ st.m → ∃ v, (∀ i : Ix, o.dst = some i.toNat → fin i = v) ∧ StepS P ops o (opv ops st ini fin j) (hp q) v (hp q)
  chain : ∀ i, i < st.m → i ≠ st.zi → ∀ o : Oper, ops[st.ch i]? = some o → ∃ v, (∀ x : Ix, o.dst = some x.toNat → fin x = v) ∧ StepS P ops o (opv ops st ini fin (st.ch i)) (hp i) v (hp (i + 1))
  late : st.zi < st.m → ∀ o : Oper, ops[st.ch st.zi]? = some o → MakeS P ops o (opv ops st ini fin (st.ch st.zi)) az cv ∧ o.dst = some dz.toNat ∧
    (∀ (μ : Nat → Nat) (w : World), VR μ ((hp st.zi).nx + 1) w (fin dz) (cv (μ (hp st.zi).nx))) ∧
    ∃ t', (∀ j, t'.get j = if j = (hp st.zi).nx then some az else (hp st.zi).t.get j) ∧ hp (st.zi + 1) = ⟨t', (hp st.zi).nx + 1⟩

def Ls (listed : Array Bool) (j : Nat) : Prop := listed.getD j false = true

theorem Ls.lt {listed : Array Bool} {j : Nat} (h : Ls listed j) : j < listed.size := by
  unfold Ls at h
  rcases Nat.lt_or_ge j listed.size with hl | hl
  · exact hl
  · simp [Array.getElem?_eq_none hl] at h
theorem Ls_set {listed : Array Bool} {i j : Nat} (hi : i < listed.size) : Ls (listed.setIfInBounds i true) j ↔ j = i ∨ Ls listed j := by
  unfold Ls
  by_cases e : j = i
  · subst e; simp [hi]
  · simp [Array.getElem?_setIfInBounds_ne (Ne.symm e), e]

noncomputable def cur (ops : Array Oper) (ini fin : Ix → AV) (listed : Array Bool) (i : Ix) : AV := if ∃ k, Wr ops k i ∧ ¬ Ls listed k then ini i else fin i

section
variable {P : Program} {nt : Nat} {ops : Array Oper} {st : Stat} {ini fin : Ix → AV} {hp : Nat → H} {dz : Ix} {az : AO} {cv : Nat → Value} {μ0 : Nat → Nat} {w0 : World}

structure JJ (P : Program) (nt : Nat) (ops : Array Oper) (st : Stat) (ini fin : Ix → AV) (hp : Nat → H) (dz : Ix) (az : AO) (cv : Nat → Value) (μ0 : Nat → Nat) (w0 : World)
    (listed : Array Bool) (q : Nat) (μ : Nat → Nat) (ez : Option Nat) (a : Act) (w : World) : Prop where
  qm : q ≤ st.m
  size : a.tmps.size = nt
  defers : a.defers = []
  heap : HR μ (hp q) w
  ext : Ext μ0 (hp 0) w0 μ (hp q) w
  closed : ∀ j, Ls listed j → ∀ k, st.dn j k = true → Ls listed k
  chain : ∀ i, i < st.m → i ≠ st.zi → (Ls listed (st.ch i) ↔ i < q)
  zn : ez = none → st.zi < st.m → (Ls listed (st.ch st.zi) ↔ st.zi < q)
  ze : ∀ c0, ez = some c0 → st.zi < st.m ∧ Ls listed (st.ch st.zi) ∧ q ≤ st.zi ∧ w0.heap.size ≤ c0 ∧ (∃ ob, w.heap[c0]? = some ob ∧ OR μ (hp q).nx w az (some ob)) ∧ (∀ b o, (hp q).t.get b = some o → μ b ≠ c0) ∧ a.tmps.getD dz.toNat undef = cv c0
  env : ∀ i : Ix, (ez ≠ none → i ≠ dz) → VR μ (hp q).nx w (cur ops ini fin listed i) (a.tmps.getD i.toNat undef)

def JS (P : Program) (nt : Nat) (ops : Array Oper) (st : Stat) (ini fin : Ix → AV) (hp : Nat → H) (dz : Ix) (az : AO) (cv : Nat → Value) (μ0 : Nat → Nat) (w0 : World) (listed : Array Bool) (a : Act) (w : World) : Prop :=
  ∃ q μ ez, JJ P nt ops st ini fin hp dz az cv μ0 w0 listed q μ ez a w ∧ (ez ≠ none → q < st.zi)

/-- A block that was made early is taken up when its turn has come. -/
theorem settle (df : DFacts P ops st ini fin hp dz az cv) (so : StatOK nt ops st) {listed : Array Bool} {q : Nat} {μ : Nat → Nat} {ez : Option Nat} {a : Act} {w : World}
    (j : JJ P nt ops st ini fin hp dz az cv μ0 w0 listed q μ ez a w) : JS P nt ops st ini fin hp dz az cv μ0 w0 listed a w := by
  cases hz : ez with
  | none => exact ⟨q, μ, none, hz ▸ j, fun h => absurd rfl h⟩
  | some c0 =>
    obtain ⟨z1, z2, z3, z4, ⟨ob, z5, zor⟩, z6, z7⟩ := j.ze c0 hz
    rcases Nat.lt_or_ge q st.zi with hlt | hge
    · exact ⟨q, μ, ez, j, fun _ => hlt⟩
    · have hq : q = st.zi := by omega
      subst hq
      obtain ⟨hchlt, _⟩ := so.chlt _ z1
      obtain ⟨hal, hd, hf, t', ht', he⟩ := df.late z1 ops[st.ch st.zi] (by simp [hchlt])
      have hag : ∀ b, b < (hp st.zi).nx → setμ μ (hp st.zi).nx c0 b = μ b := fun b hb => setμ_other μ _ (by omega)
      have hmem : ∀ b o, t'.get b = some o → (b = (hp st.zi).nx ∧ o = az) ∨ (b < (hp st.zi).nx ∧ (hp st.zi).t.get b = some o) := fun b o hb => by
        rw [ht' b] at hb
        by_cases e : b = (hp st.zi).nx
        · rw [if_pos e] at hb; cases hb; exact .inl ⟨e, rfl⟩
        · rw [if_neg e] at hb; exact .inr ⟨j.heap.lt _ _ hb, hb⟩
      have hmono : ∀ x v, VR μ (hp st.zi).nx w x v → VR (setμ μ (hp st.zi).nx c0) ((hp st.zi).nx + 1) w x v := fun x v hv => hv.mono hag (Nat.le_succ _) fun _ _ h => h
      refine ⟨st.zi + 1, setμ μ (hp st.zi).nx c0, none, ?_, fun h => absurd rfl h⟩
      refine ⟨z1, j.size, j.defers, ?_, ?_, j.closed, fun i hi hne => ?_, fun _ _ => ⟨fun _ => Nat.lt_succ_self _, fun _ => z2⟩, fun c hc => (by cases hc), fun i _ => ?_⟩
      · rw [he]
        refine ⟨fun b o hb => ?_, fun b o hb => ?_, fun b o b' o' hb hb' e => ?_, j.heap.gl, fun b o hb => ?_⟩
        · rcases hmem b o hb with ⟨rfl, _⟩ | ⟨h1, _⟩ <;> simp only <;> omega
        · rcases hmem b o hb with ⟨rfl, rfl⟩ | ⟨h1, h2⟩
          · rw [setμ_same, z5]; exact zor.mono hag (Nat.le_succ _) fun _ _ h => h
          · rw [hag b h1]; exact (j.heap.obj b o h2).mono hag (Nat.le_succ _) fun _ _ h => h
        · rcases hmem b o hb with ⟨rfl, rfl⟩ | ⟨h1, h2⟩ <;> rcases hmem b' o' hb' with ⟨rfl, rfl⟩ | ⟨h1', h2'⟩
          · rfl
          · rw [setμ_same, hag b' h1'] at e; exact absurd e.symm (z6 b' o' h2')
          · rw [setμ_same, hag b h1] at e; exact absurd e (z6 b o h2)
          · rw [hag b h1, hag b' h1'] at e; exact j.heap.inj b o b' o' h2 h2' e
        · rcases hmem b o hb with ⟨rfl, rfl⟩ | ⟨h1, h2⟩
          · rw [setμ_same]
            cases hc : GV c0 with
            | none => rfl
            | some cs => have := j.ext.gsz _ cs hc; omega
          · rw [hag b h1]; exact j.heap.low b o h2
      · have x := j.ext
        rw [he]
        refine ⟨fun b hb => ?_, by have := x.nx; simp only; omega, x.size, x.shape, x.frame, fun b o hb => ?_, x.same, x.gsz⟩
        · rw [hag b (by have := x.nx; omega)]; exact x.agree b hb
        · rcases hmem b o hb with ⟨rfl, _⟩ | ⟨h1, h2⟩
          · exact .inr (.inl (by rw [setμ_same]; exact z4))
          · rw [hag b h1]; exact x.fresh b o h2
      · rw [j.chain i hi hne]; omega
      · by_cases e : i = dz
        · subst e
          have hc : cur ops ini fin listed i = fin i := by
            unfold cur
            rw [if_neg]
            rintro ⟨k, ⟨o, ho, hdk⟩, hl⟩
            have := so.w1 k (st.ch st.zi) o _ i.toNat ho (by simp [hchlt]) hdk hd
            exact hl (this ▸ z2)
          have hv := hf (setμ μ (hp st.zi).nx c0) w
          rw [setμ_same] at hv
          rw [hc, z7, he]
          exact hv
        · rw [he]; exact hmono _ _ (j.env i fun _ => e)

theorem ready_closed (so : StatOK nt ops st) {listed : Array Bool} (hcl : ∀ j, Ls listed j → ∀ k, st.dn j k = true → Ls listed k) {j : Nat} (hr : j ∈ Region.ready .any ops listed) : ∀ k, st.dn j k = true → Ls listed k := by
  intro k hk
  obtain ⟨_, o, ho, hall⟩ := mem_ready.1 hr
  obtain ⟨o', ho', e, he, hb, hor⟩ := so.d1 j k hk
  rw [ho] at ho'; cases ho'
  have h1 : Ls listed e.on := hall e he hb
  rcases hor with rfl | h2
  · exact h1
  · exact hcl _ h1 _ h2

theorem opv_cur (so : StatOK nt ops st) {listed : Array Bool} (hcl : ∀ j, Ls listed j → ∀ k, st.dn j k = true → Ls listed k) {j : Nat} {o : Oper} (ho : ops[j]? = some o)
    (hr : j ∈ Region.ready .any ops listed) (hnl : ¬ Ls listed j) {i : Ix} (hi : i.toNat ∈ o.looksAt ops) : opv ops st ini fin j i = cur ops ini fin listed i := by
  unfold opv cur
  have : (∃ k, Wr ops k i ∧ st.dn j k = false) ↔ ∃ k, Wr ops k i ∧ ¬ Ls listed k := by
    constructor
    · rintro ⟨k, ⟨o', ho', hd⟩, hdn⟩
      by_cases e : k = j
      · exact ⟨k, ⟨o', ho', hd⟩, e ▸ hnl⟩
      · rcases so.r1 j o k o' i.toNat ho ho' hi hd e with h | h
        · rw [hdn] at h; cases h
        · exact ⟨k, ⟨o', ho', hd⟩, fun hl => hnl (hcl k hl j h)⟩
    · rintro ⟨k, hw, hl⟩
      refine ⟨k, hw, ?_⟩
      cases h : st.dn j k
      · rfl
      · exact absurd (ready_closed so hcl hr k h) hl
  simp only [this]

theorem cur_after {listed : Array Bool} {j : Nat} {o : Oper} (ho : ops[j]? = some o) (hj : j < listed.size) {i : Ix} (hne : o.dst ≠ some i.toNat) :
    cur ops ini fin (listed.setIfInBounds j true) i = cur ops ini fin listed i := by
  unfold cur
  have : (∃ k, Wr ops k i ∧ ¬ Ls (listed.setIfInBounds j true) k) ↔ ∃ k, Wr ops k i ∧ ¬ Ls listed k := by
    constructor
    · rintro ⟨k, hw, hl⟩
      rw [Ls_set hj] at hl
      exact ⟨k, hw, fun h => hl (.inr h)⟩
    · rintro ⟨k, hw, hl⟩
      refine ⟨k, hw, ?_⟩
      rw [Ls_set hj]
      rintro (rfl | h)
      · obtain ⟨o', ho', hd⟩ := hw
        rw [ho] at ho'; cases ho'
        exact hne hd
      · exact hl h
  simp only [this]

theorem cur_written (so : StatOK nt ops st) {listed : Array Bool} {j : Nat} {o : Oper} (ho : ops[j]? = some o) (hj : j < listed.size) {i : Ix} (hd : o.dst = some i.toNat) :
    cur ops ini fin (listed.setIfInBounds j true) i = fin i := by
  unfold cur
  rw [if_neg]
  rintro ⟨k, ⟨o', ho', hd'⟩, hl⟩
  have := so.w1 k j o' o i.toNat ho' ho hd' hd
  exact hl ((Ls_set hj).2 (.inl this))

theorem Ext.idle {μ : Nat → Nat} {h : H} {w : World} (hr : HR μ h w) (o : Obj) : Ext μ h w μ h (w.alloc o) ∧ HR μ h (w.alloc o) := by
  have hheap : ∀ c, c < w.heap.size → (w.alloc o).heap[c]? = w.heap[c]? := fun c hc => heap_alloc_old w o c hc
  have hs : ∀ c s, w.shape? c = some s → (w.alloc o).shape? c = some s := fun c s hc => by
    have hlt : c < w.heap.size := by
      rcases Nat.lt_or_ge c w.heap.size with hh | hh
      · exact hh
      · simp [World.shape?, Array.getElem?_eq_none hh] at hc
    rw [shape_heap (hheap c hlt)]; exact hc
  refine ⟨⟨fun _ _ => rfl, Nat.le_refl _, by simp, hs, fun c hc _ => hheap c hc, fun b ob hb => .inl ⟨hr.lt b ob hb, ob, hb⟩, Same.alloc w o, hr.glt⟩, hr.lt, fun b ob hb => ?_, hr.inj, fun c cs hc => by rw [hheap c (hr.glt c cs hc)]; exact hr.gl c cs hc, hr.low⟩
  rw [hheap _ (hr.block_lt hb)]
  exact (hr.obj b ob hb).mono (fun _ _ => rfl) (Nat.le_refl _) hs

/-- One operation that may come up, comes up. -/
theorem one_good (so : StatOK nt ops st) (df : DFacts P ops st ini fin hp dz az cv) {listed : Array Bool} (hsz : listed.size = ops.size) {a : Act} {w : World} {Q : Exit → Act → World → Prop} {K : Act → World → Prop} {j : Nat}
    (hr : j ∈ Region.ready .any ops listed) (hJ : JS P nt ops st ini fin hp dz az cv μ0 w0 listed a w)
    (hK : ∀ a' w', JS P nt ops st ini fin hp dz az cv μ0 w0 (listed.setIfInBounds j true) a' w' → K a' w') : wpOp P ops Q j K a w := by
  obtain ⟨hnl0, o, ho, hall⟩ := mem_ready.1 hr
  have hjn : j < ops.size := (Array.getElem?_eq_some_iff.1 ho).1
  have hjl : j < listed.size := by omega
  have hnl : ¬ Ls listed j := by
    unfold Ls
    have : listed.getD j false = listed.getD j true := by simp [hjl]
    rw [this, hnl0]; simp
  obtain ⟨q, μ, ez, J, hez⟩ := hJ
  have hcl := J.closed
  have hdn := ready_closed so hcl hr
  have hcl' : ∀ k, Ls (listed.setIfInBounds j true) k → ∀ k', st.dn k k' = true → Ls (listed.setIfInBounds j true) k' := by
    intro k hk k' hd
    rw [Ls_set hjl] at hk ⊢
    rcases hk with rfl | hk
    · exact .inr (hdn k' hd)
    · exact .inr (hcl k hk k' hd)
  -- an operation that reads what the late one makes comes behind it
  have hnoz : ez ≠ none → dz.toNat ∉ o.looksAt ops := by
    intro hne hin
    obtain ⟨c0, hc0⟩ := Option.ne_none_iff_exists'.1 hne
    obtain ⟨z1, z2, z3, _⟩ := J.ze c0 hc0
    have hlt := hez hne
    obtain ⟨hchlt, _⟩ := so.chlt _ z1
    obtain ⟨_, hd, _⟩ := df.late z1 ops[st.ch st.zi] (by simp [hchlt])
    have hq := hdn _ (so.rz z1 j o dz.toNat _ ho (by simp [hchlt]) hd hin q (by omega))
    have := (J.chain q (by omega) (by omega)).1 hq
    omega
  have hgr : GRho μ (hp q).nx w (opv ops st ini fin j) a ops o := by
    intro t ht i hi
    have hi' := ixOf_toNat hi
    subst hi'
    rw [opv_cur so hcl ho hr hnl ht]
    exact J.env i fun hne e => hnoz hne (e ▸ ht)
  -- what the state is behind an operation that is not the late one
  have next : ∀ q' μ' v v' w', q ≤ q' → q' ≤ st.m → (ez ≠ none → q' ≤ st.zi) → (∀ i : Ix, o.dst = some i.toNat → fin i = v) → Ext μ (hp q) w μ' (hp q') w' → HR μ' (hp q') w' → VR μ' (hp q').nx w' v v' →
      (∀ i, i < st.m → i ≠ st.zi → (Ls (listed.setIfInBounds j true) (st.ch i) ↔ i < q')) → (ez = none → st.zi < st.m → (Ls (listed.setIfInBounds j true) (st.ch st.zi) ↔ st.zi < q')) →
      (ez ≠ none → o.dst ≠ some dz.toNat) → K (a.put o.dst v') w' := by
    intro q' μ' v v' w' hq1 hq2 hq3 hfin x hh hv hch hzn hnd
    refine hK _ _ (settle df so (q := q') (μ := μ') (ez := ez) ⟨hq2, by rw [put_size]; exact J.size, by rw [put_defers']; exact J.defers, hh, J.ext.trans x, hcl', hch, hzn, fun c0 hc0 => ?_, fun i hi => ?_⟩)
    · obtain ⟨z1, z2, z3, z4, ⟨ob, z5, zor⟩, z6, z7⟩ := J.ze c0 hc0
      have hne : ez ≠ none := by rw [hc0]; simp
      have hc0lt : c0 < w.heap.size := (Array.getElem?_eq_some_iff.1 z5).1
      refine ⟨z1, (Ls_set hjl).2 (.inr z2), hq3 hne, z4, ?_, fun b ob' hb => ?_, ?_⟩
      · exact ⟨ob, by rw [x.frame c0 hc0lt (fun b o hb => z6 b o hb)]; exact z5, zor.mono x.agree x.nx x.shape⟩
      · rcases x.fresh b ob' hb with ⟨hlt, o', ho'⟩ | hge | ⟨b0, o0, h0, e0⟩
        · rw [x.agree b hlt]; exact z6 b o' ho'
        · omega
        · rw [e0]; exact z6 b0 o0 h0
      · cases hd : o.dst with
        | none => exact z7
        | some t =>
          obtain ⟨hlt, _⟩ := so.dst j o t ho hd
          rw [put_getD a v' (by rw [J.size]; exact hlt), if_neg (fun e => hnd hne (by rw [hd, e]))]
          exact z7
    · by_cases hdi : o.dst = some i.toNat
      · rw [cur_written so ho hjl hdi, hfin i hdi, hdi]
        obtain ⟨hlt, _⟩ := so.dst j o _ ho hdi
        rw [put_getD a v' (by rw [J.size]; exact hlt), if_pos rfl]
        exact hv
      · rw [cur_after ho hjl hdi]
        have h1 : (a.put o.dst v').tmps.getD i.toNat undef = a.tmps.getD i.toNat undef := by
          cases hd : o.dst with
          | none => rfl
          | some t =>
            obtain ⟨hlt, _⟩ := so.dst j o t ho hd
            rw [put_getD a v' (by rw [J.size]; exact hlt), if_neg (fun e => hdi (by rw [hd, e]))]
        rw [h1]
        exact (J.env i hi).ext x
  have hnd : ez ≠ none → o.dst ≠ some dz.toNat := by
    intro hne e
    obtain ⟨c0, hc0⟩ := Option.ne_none_iff_exists'.1 hne
    obtain ⟨z1, z2, _⟩ := J.ze c0 hc0
    obtain ⟨hchlt, _⟩ := so.chlt _ z1
    obtain ⟨_, hd, _⟩ := df.late z1 ops[st.ch st.zi] (by simp [hchlt])
    have := so.w1 j (st.ch st.zi) o _ dz.toNat ho (by simp [hchlt]) e hd
    exact hnl (this ▸ z2)
  unfold wpOp
  simp only [ho]
  have fromStep : ∀ {v h'}, StepS P ops o (opv ops st ini fin j) (hp q) v h' → (∀ μ' v' w', Ext μ (hp q) w μ' h' w' → HR μ' h' w' → VR μ' h'.nx w' v v' → K (a.put o.dst v') w') →
      (if Region.wanted o (yielded ops a.tmps) = true then o.wp P a w K Q ∨ (o.asks P a w ∧ LetsOut Q) else K (a.put o.dst undef) w) := by
    intro v h' hs hk
    have := hs μ w a Q K hgr J.heap hk
    split
    · rename_i hw; rw [if_pos hw] at this; exact .inl this
    · rename_i hw; rw [if_neg hw] at this; exact this
  cases hci : st.ci j with
  | none =>
    have hnch : ∀ i, i < st.m → st.ch i ≠ j := fun i hi e => by
      have := (so.chlt i hi).2
      rw [e, hci] at this; cases this
    have hlo : st.lo j ≤ q := by
      rcases Nat.lt_or_ge q (st.lo j) with h | h
      · exfalso
        obtain ⟨h1, h2⟩ := so.l1 j hjn hci q h
        have h3 := hdn _ h2
        by_cases e : q = st.zi
        · cases hz : ez with
          | none => have := (J.zn hz (e ▸ h1)).1 (e ▸ h3); omega
          | some c0 => have := hez (by rw [hz]; simp); omega
        · have := (J.chain q h1 e).1 h3; omega
      · exact h
    have hhi : q ≤ st.hi j := by
      rcases Nat.lt_or_ge (st.hi j) q with h | h
      · exfalso
        have h1 := so.u1 j hjn hci (st.hi j) (Nat.le_refl _) (by have := J.qm; omega)
        have hlt : st.hi j < st.m := by have := J.qm; omega
        by_cases e : st.hi j = st.zi
        · cases hz : ez with
          | none => exact hnl (hcl _ ((J.zn hz (e ▸ hlt)).2 (e ▸ h)) _ (e ▸ h1))
          | some c0 => have := hez (by rw [hz]; simp); omega
        · exact hnl (hcl _ ((J.chain _ hlt e).2 h) _ h1)
      · exact h
    obtain ⟨v, hfin, hs⟩ := df.hold j o ho hci q hlo hhi J.qm
    refine fromStep hs fun μ' v' w' x hh hv => next q μ' v v' w' (Nat.le_refl _) J.qm (fun hne => Nat.le_of_lt (hez hne)) hfin x hh hv (fun i hi hne => ?_) (fun hz hm => ?_) hnd
    · rw [Ls_set hjl, ← J.chain i hi hne]
      exact ⟨fun h => h.resolve_left (hnch i hi), .inr⟩
    · rw [Ls_set hjl, ← J.zn hz hm]
      exact ⟨fun h => h.resolve_left (hnch _ hm), .inr⟩
  | some i =>
    obtain ⟨him, hchi⟩ := so.cich j i hci
    by_cases hiz : i = st.zi
    · -- the late one
      subst hiz
      have hz : ez = none := by
        cases hz : ez with
        | none => rfl
        | some c0 => exact absurd (hchi ▸ (J.ze c0 hz).2.1) hnl
      subst hz
      have hqz : q ≤ st.zi := by
        rcases Nat.lt_or_ge st.zi q with h | h
        · exact absurd (hchi ▸ (J.zn rfl him).2 h) hnl
        · exact h
      have ho' : ops[st.ch st.zi]? = some o := by rw [hchi]; exact ho
      obtain ⟨⟨hg, hmk⟩, hd, hf, _⟩ := df.late him o ho'
      obtain ⟨ob, hrun, hor⟩ := hmk μ (hp q).nx w a (by rw [hchi]; exact hgr)
      rw [if_pos (by simp [Region.wanted, hg])]
      refine .inl ?_
      unfold Oper.wp
      rw [hrun, Oper.upon_value]
      obtain ⟨x, hh⟩ := Ext.idle J.heap ob
      obtain ⟨hdlt, _⟩ := so.dst j o _ ho hd
      refine hK _ _ (settle df so (q := q) (μ := μ) (ez := some w.heap.size) ⟨J.qm, by rw [put_size]; exact J.size, by rw [put_defers']; exact J.defers, hh, J.ext.trans x, hcl', fun i hi hne => ?_, fun h => (by cases h), fun c0 hc0 => ?_, fun i hi => ?_⟩)
      · rw [Ls_set hjl, ← J.chain i hi hne]
        refine ⟨fun h => h.resolve_left fun e => hne ?_, .inr⟩
        have h1 := (so.chlt i hi).2
        rw [e, hci] at h1
        exact (Option.some.inj h1).symm
      · cases hc0
        refine ⟨him, (Ls_set hjl).2 (.inl hchi), hqz, J.ext.size, ⟨ob, heap_alloc_new w ob, hor.mono x.agree x.nx x.shape⟩, fun b o hb e => ?_, ?_⟩
        · have := J.heap.block_lt hb; omega
        · rw [hd, put_getD a _ (by rw [J.size]; exact hdlt), if_pos rfl]
      · have hne : i ≠ dz := hi (by simp)
        have hdi : o.dst ≠ some i.toNat := by rw [hd]; intro e; exact hne (Ix.toNat_inj (Option.some.inj e).symm)
        rw [cur_after ho hjl hdi, hd, put_getD a _ (by rw [J.size]; exact hdlt), if_neg (fun e => hne (Ix.toNat_inj e))]
        exact (J.env i (fun h => absurd rfl h)).ext x
    · -- one of the chain
      have hiq : i = q := by
        have h1 : ¬ i < q := fun h => hnl (hchi ▸ (J.chain i him hiz).2 h)
        rcases Nat.lt_or_ge q i with h | h
        · exfalso
          have h3 := hdn _ (hchi ▸ so.c1 q i h him hiz)
          by_cases e : q = st.zi
          · cases hz : ez with
            | none => have := (J.zn hz (by omega)).1 (e ▸ h3); omega
            | some c0 => have := hez (by rw [hz]; simp); omega
          · have := (J.chain q (by omega) e).1 h3; omega
        · omega
      subst hiq
      obtain ⟨v, hfin, hs⟩ := df.chain i him hiz o (by rw [hchi]; exact ho)
      rw [hchi] at hs
      refine fromStep hs fun μ' v' w' x hh hv => next (i + 1) μ' v v' w' (Nat.le_succ _) him (fun hne => hez hne) hfin x hh hv (fun i' hi' hne => ?_) (fun hz hm => ?_) hnd
      · rw [Ls_set hjl, J.chain i' hi' hne]
        constructor
        · rintro (e | h)
          · have h1 := (so.chlt i' hi').2
            rw [e, hci] at h1
            have := Option.some.inj h1
            omega
          · omega
        · intro h
          by_cases e : i' = i
          · exact .inl (by rw [e, hchi])
          · exact .inr (by omega)
      · rw [Ls_set hjl, J.zn hz hm]
        constructor
        · rintro (e | h)
          · have h1 := (so.chlt _ hm).2
            rw [e, hci] at h1
            exact absurd (Option.some.inj h1) hiz
          · omega
        · intro h; exact .inr (by omega)

/-- How many have not come up yet. -/
def unl (n : Nat) (listed : Array Bool) : Nat := ((List.range n).filter fun j => !listed.getD j true).length

theorem unl_set {n : Nat} {listed : Array Bool} {i : Nat} (hn : listed.size = n) (hi : i < n) (h : listed.getD i true = false) : unl n (listed.setIfInBounds i true) < unl n listed := by
  have key : ∀ l : List Nat, (i ∈ l → ((l.filter fun j => !(listed.setIfInBounds i true).getD j true).length < (l.filter fun j => !listed.getD j true).length)) ∧
      ((l.filter fun j => !(listed.setIfInBounds i true).getD j true).length ≤ (l.filter fun j => !listed.getD j true).length) := by
    intro l
    induction l with
    | nil => simp
    | cons x l ih =>
      by_cases e : x = i
      · subst e
        have h1 : (listed.setIfInBounds x true).getD x true = true := by simp [hn, hi]
        simp only [List.filter_cons, h1, h]
        simp only [Bool.not_true, Bool.false_eq_true, if_false, Bool.not_false, if_true, List.length_cons]
        exact ⟨fun _ => by have := ih.2; omega, by have := ih.2; omega⟩
      · have h1 : (listed.setIfInBounds i true).getD x true = listed.getD x true := by simp [Array.getElem?_setIfInBounds_ne (Ne.symm e)]
        simp only [List.filter_cons, h1]
        split
        · simp only [List.length_cons]
          exact ⟨fun hm => by have := ih.1 ((List.mem_cons.1 hm).resolve_left (Ne.symm e)); omega, by have := ih.2; omega⟩
        · exact ⟨fun hm => ih.1 ((List.mem_cons.1 hm).resolve_left (Ne.symm e)), ih.2⟩
  exact (key (List.range n)).1 (List.mem_range.2 hi)

theorem all_listed (so : StatOK nt ops st) {listed : Array Bool} (hsz : listed.size = ops.size) (hr : Region.ready .any ops listed = []) : ∀ j, j < ops.size → Ls listed j := by
  intro j
  induction j using Nat.strongRecOn with
  | _ j ih =>
    intro hj
    by_cases hl : Ls listed j
    · exact hl
    · exfalso
      have : j ∈ Region.ready .any ops listed := mem_ready.2 ⟨by
        unfold Ls at hl
        have h1 : listed.getD j false = listed.getD j true := by simp [show j < listed.size by omega]
        rw [h1] at hl
        simpa using hl, ops[j], by simp [hj], fun e he hb => by
          have := so.back j ops[j] e (by simp [hj]) he hb
          exact ih e.on this (by omega)⟩
      rw [hr] at this; cases this

theorem any_good (so : StatOK nt ops st) (df : DFacts P ops st ini fin hp dz az cv) {Q : Exit → Act → World → Prop}
    (hQ : ∀ μ a w, Ext μ0 (hp 0) w0 μ (hp st.m) w → a.tmps.size = nt → a.defers = [] → HR μ (hp st.m) w → (∀ i : Ix, VR μ (hp st.m).nx w (fin i) (a.tmps.getD i.toNat undef)) → Q .normal a w) :
    ∀ (fuel : Nat) (listed : Array Bool) (a : Act) (w : World), listed.size = ops.size → unl ops.size listed ≤ fuel → JS P nt ops st ini fin hp dz az cv μ0 w0 listed a w → wpAny P .any ops Q fuel listed a w := by
  have fin_ : ∀ (listed : Array Bool) (a : Act) (w : World), listed.size = ops.size → Region.ready .any ops listed = [] → JS P nt ops st ini fin hp dz az cv μ0 w0 listed a w → Q .normal a w := by
    rintro listed a w hsz hr ⟨q, μ, ez, J, hez⟩
    have hall := all_listed so hsz hr
    have hq : q = st.m := by
      rcases Nat.lt_or_ge q st.m with h | h
      · exfalso
        have h3 := hall _ (so.chlt q h).1
        by_cases e : q = st.zi
        · cases hz : ez with
          | none => have := (J.zn hz (e ▸ h)).1 (e ▸ h3); omega
          | some c0 => have := hez (by rw [hz]; simp); omega
        · have := (J.chain q h e).1 h3; omega
      · have := J.qm; omega
    subst hq
    have hz : ez = none := by
      cases hz : ez with
      | none => rfl
      | some c0 => have := hez (by rw [hz]; simp); have := (J.ze c0 hz).1; omega
    subst hz
    refine hQ μ a w J.ext J.size J.defers J.heap fun i => ?_
    have := J.env i (fun h => absurd rfl h)
    have hc : cur ops ini fin listed i = fin i := by
      unfold cur
      rw [if_neg]
      rintro ⟨k, ⟨o, ho, _⟩, hl⟩
      exact hl (hall k (Array.getElem?_eq_some_iff.1 ho).1)
    rwa [hc] at this
  intro fuel
  induction fuel with
  | zero =>
    intro listed a w hsz hu hJ
    have hr : Region.ready .any ops listed = [] := by
      apply List.eq_nil_iff_forall_not_mem.2
      intro j hj
      obtain ⟨h1, o, ho, _⟩ := mem_ready.1 hj
      have hjn : j < ops.size := (Array.getElem?_eq_some_iff.1 ho).1
      have : 0 < unl ops.size listed := List.length_pos_of_mem (List.mem_filter.2 ⟨List.mem_range.2 hjn, by rw [h1]; rfl⟩)
      omega
    exact ⟨hr, fin_ listed a w hsz hr hJ⟩
  | succ fuel ih =>
    intro listed a w hsz hu hJ
    refine ⟨fun hr => fin_ listed a w hsz hr hJ, fun j hj => one_good so df hsz hj hJ fun a' w' hJ' => ih _ a' w' (by simpa using hsz) ?_ hJ'⟩
    obtain ⟨h1, o, ho, _⟩ := mem_ready.1 hj
    have := unl_set hsz (Array.getElem?_eq_some_iff.1 ho).1 h1
    omega
end

end Go.Ev
