/-
  An abstract evaluator for Go code under the model: what abstract values and heaps say of the model's; how that is kept.
-/
import Derived.Test.YtceplogmemkblaaGreatEvA
import Derived.Laws.Rows
import Derived.Laws.CopyRow
import Derived.Test.YtceplogmemkblaaGreatEvG0
namespace Go.Ev

/-- The bytes of an abstract string. -/
def dec (len bits : Nat) : ByteArray := ⟨((List.range len).map fun i => UInt8.ofNat (bits / 256 ^ i)).toArray⟩

/-- What an abstract value says of a value, and a written list of a list. -/
def VR2 (μ : Nat → Nat) (nx : Nat) (w : World) : AV → (Value → Prop) × (List Value → Prop)
  | .u => (fun _ => True, fun _ => False)
  | .b x => (fun v => v = .bool x, fun _ => False)
  | .p m => (fun v => v = .int .i64 m, fun _ => False)
  | .n m => (fun v => v = .int .i64 (Int.negSucc m), fun _ => False)
  | .w k m => (fun v => v = .int k m, fun _ => False)
  | .s len bits => (fun v => v = .string (dec len bits) ∧ bits < 256 ^ len, fun _ => False)
  | .pt b o => (fun v => b < nx ∧ v = .pointer (some ⟨μ b, o, none⟩), fun _ => False)
  | .np => (fun v => v = .pointer none, fun _ => False)
  | .sl b o len cap st => (fun v => b < nx ∧ len ≤ cap ∧ ∃ c, v = .slice (some ⟨μ b, o, none⟩) len c ∧
      (st = 0 → c = cap) ∧ (st ≠ 0 → cap ≤ c ∧ ∃ E m, w.shape? (μ b) = some (E, m) ∧ o + c * (st - 1) ≤ m), fun _ => False)
  | .ns => (fun v => v = .slice none 0 0, fun _ => False)
  | .ez => (fun v => ∃ a c, v = .slice (some a) 0 c, fun _ => False)
  | .mp b => (fun v => b < nx ∧ v = .map (some (μ b)), fun _ => False)
  | .nm => (fun v => v = .map none, fun _ => False)
  | .fn f l c => (fun v => ∃ xs ys, v = .func (.func f) xs ys ∧ (VR2 μ nx w l).2 xs.toList ∧ (VR2 μ nx w c).2 ys.toList, fun _ => False)
  | .nf => (fun v => v = .nilFunc, fun _ => False)
  | .ag l => (fun v => ∃ xs, v = .agg xs ∧ (VR2 μ nx w l).2 xs.toList ∧ ∀ x ∈ xs.toList, x.oneCell' = true, fun _ => False)
  | .tu l => (fun v => ∃ xs, v = .tuple xs ∧ (VR2 μ nx w l).2 xs.toList, fun _ => False)
  | .nil => (fun _ => False, fun l => l = [])
  | .cons h t => (fun _ => False, fun l => ∃ x xs, l = x :: xs ∧ (VR2 μ nx w h).1 x ∧ (VR2 μ nx w t).2 xs)

def VR (μ : Nat → Nat) (nx : Nat) (w : World) (a : AV) (v : Value) : Prop := (VR2 μ nx w a).1 v
def VRL (μ : Nat → Nat) (nx : Nat) (w : World) (a : AV) (l : List Value) : Prop := (VR2 μ nx w a).2 l

theorem VR2_mono {μ μ' : Nat → Nat} {nx nx' : Nat} {w w' : World} (hm : ∀ b, b < nx → μ' b = μ b) (hn : nx ≤ nx') (hs : ∀ c s, w.shape? c = some s → w'.shape? c = some s) :
    ∀ (a : AV), (∀ v, (VR2 μ nx w a).1 v → (VR2 μ' nx' w' a).1 v) ∧ (∀ l, (VR2 μ nx w a).2 l → (VR2 μ' nx' w' a).2 l) := by
  intro a
  induction a with
  | pt b o => exact ⟨fun v ⟨h, e⟩ => ⟨by omega, by rw [hm b h]; exact e⟩, fun l h => h⟩
  | mp b => exact ⟨fun v ⟨h, e⟩ => ⟨by omega, by rw [hm b h]; exact e⟩, fun l h => h⟩
  | sl b o len cap st =>
    refine ⟨fun v ⟨h, hl, c, e, h0, h1⟩ => ⟨by omega, hl, c, by rw [hm b h]; exact e, h0, fun hst => ?_⟩, fun l h => h⟩
    obtain ⟨hc, E, m, hsh, hle⟩ := h1 hst
    exact ⟨hc, E, m, by rw [hm b h]; exact hs _ _ hsh, hle⟩
  | fn f l c il ic => exact ⟨fun v ⟨xs, ys, e, h1, h2⟩ => ⟨xs, ys, e, il.2 _ h1, ic.2 _ h2⟩, fun l h => h⟩
  | ag l il => exact ⟨fun v ⟨xs, e, h1, h2⟩ => ⟨xs, e, il.2 _ h1, h2⟩, fun l h => h⟩
  | tu l il => exact ⟨fun v ⟨xs, e, h1⟩ => ⟨xs, e, il.2 _ h1⟩, fun l h => h⟩
  | cons h t ih it => exact ⟨fun v h => h, fun l ⟨x, xs, e, h1, h2⟩ => ⟨x, xs, e, ih.1 _ h1, it.2 _ h2⟩⟩
  | _ => exact ⟨fun v h => h, fun l h => h⟩

theorem VR.mono {μ μ' : Nat → Nat} {nx nx' : Nat} {w w' : World} {a : AV} {v : Value} (h : VR μ nx w a v) (hm : ∀ b, b < nx → μ' b = μ b) (hn : nx ≤ nx')
    (hs : ∀ c s, w.shape? c = some s → w'.shape? c = some s) : VR μ' nx' w' a v := (VR2_mono hm hn hs a).1 v h
theorem VRL.mono {μ μ' : Nat → Nat} {nx nx' : Nat} {w w' : World} {a : AV} {l : List Value} (h : VRL μ nx w a l) (hm : ∀ b, b < nx → μ' b = μ b) (hn : nx ≤ nx')
    (hs : ∀ c s, w.shape? c = some s → w'.shape? c = some s) : VRL μ' nx' w' a l := (VR2_mono hm hn hs a).2 l h

/-- Entries of a map of int keys: where each key stands in the list, and what is known of it. -/
structure ImR (μ : Nat → Nat) (nx : Nat) (w : World) (t : PT AV) (clock : Nat) (es : Array MapEntry) : Prop where
  key : ∀ i (h : i < es.size), ∃ k : Nat, es[i].key = .int .i64 k ∧ ∃ a, t.get k = some (.tu (.cons a (.cons (.p es[i].born) .nil))) ∧ VR μ nx w a es[i].val
  has : ∀ k x, t.get k = some x → ∃ i, ∃ h : i < es.size, es[i].key = .int .i64 (k : Nat)
  one : ∀ i j (hi : i < es.size) (hj : j < es.size), es[i].key = es[j].key → i = j
  born : ∀ i j (hi : i < es.size) (hj : j < es.size), es[i].born = es[j].born → i = j
  lt : ∀ i (h : i < es.size), es[i].born < clock

/-- Entries of a map of string keys: in their order. -/
def SmR (μ : Nat → Nat) (nx : Nat) (w : World) (clock : Nat) : AV → List MapEntry → Prop
  | .nil, es => es = []
  | .cons (.tu (.cons (.s len bits) (.cons a (.cons (.p b) .nil)))) t, es => ∃ e r, es = e :: r ∧ e.key = .string (dec len bits) ∧ bits < 256 ^ len ∧ VR μ nx w a e.val ∧ e.born = b ∧ b < clock ∧
      (∀ e' ∈ r, e'.key ≠ e.key ∧ e'.born ≠ e.born) ∧ SmR μ nx w clock t r
  | _, _ => False

/-- What an abstract object says of an object. -/
def OR (μ : Nat → Nat) (nx : Nat) (w : World) : AO → Option Obj → Prop
  | .row m t df, o => ∃ cs E fz, o = some (.cells cs E fz) ∧ (∀ i, i < cs.size → ¬ (fz.1 ≤ i ∧ i < fz.2)) ∧ m ≤ cs.size ∧
      ∀ i (h : i < m) (h' : i < cs.size), VR μ nx w ((t.get i).getD df) cs[i] ∧ cs[i].oneCell' = true
  | .im t clock _, o => ∃ es, o = some (.map es clock) ∧ ImR μ nx w t clock es
  | .sm l clock, o => ∃ es, o = some (.map es clock) ∧ SmR μ nx w clock l es.toList
  | .si len bits pos, o => o = some (.stringIter (dec len bits) pos) ∧ bits < 256 ^ len

section mono
variable {μ μ' : Nat → Nat} {nx nx' : Nat} {w w' : World}

theorem ImR.mono (hm : ∀ b, b < nx → μ' b = μ b) (hn : nx ≤ nx') (hs : ∀ c s, w.shape? c = some s → w'.shape? c = some s) {t : PT AV} {clock : Nat} {es : Array MapEntry} (h : ImR μ nx w t clock es) : ImR μ' nx' w' t clock es :=
  { h with key := fun i hi => let ⟨k, e, a, ht, hv⟩ := h.key i hi; ⟨k, e, a, ht, hv.mono hm hn hs⟩ }

theorem SmR.mono (hm : ∀ b, b < nx → μ' b = μ b) (hn : nx ≤ nx') (hs : ∀ c s, w.shape? c = some s → w'.shape? c = some s) {clock : Nat} : ∀ (l : AV) (es : List MapEntry), SmR μ nx w clock l es → SmR μ' nx' w' clock l es := by
  intro l
  induction l with
  | nil => intro es h; exact h
  | cons x t _ it =>
    intro es h
    unfold SmR at h
    split at h
    · rename_i e; cases e
    · rename_i e
      obtain ⟨rfl, rfl⟩ := AV.cons.inj e
      unfold SmR
      obtain ⟨e, r, h1, h2, h3, h4, h5, h6, h7, h8⟩ := h
      exact ⟨e, r, h1, h2, h3, h4.mono hm hn hs, h5, h6, h7, it _ h8⟩
    · exact h.elim
  | _ => intro es h; exact h

theorem OR.mono (hm : ∀ b, b < nx → μ' b = μ b) (hn : nx ≤ nx') (hs : ∀ c s, w.shape? c = some s → w'.shape? c = some s) {ao : AO} {o : Option Obj} (h : OR μ nx w ao o) : OR μ' nx' w' ao o := by
  cases ao with
  | row m t df =>
    obtain ⟨cs, E, fz, h1, h2, h3, h4⟩ := h
    exact ⟨cs, E, fz, h1, h2, h3, fun i hi hi' => ⟨(h4 i hi hi').1.mono hm hn hs, (h4 i hi hi').2⟩⟩
  | im t clock _ => obtain ⟨es, h1, h2⟩ := h; exact ⟨es, h1, h2.mono hm hn hs⟩
  | sm l clock => obtain ⟨es, h1, h2⟩ := h; exact ⟨es, h1, SmR.mono hm hn hs _ _ h2⟩
  | si len bits pos => exact h
end mono

/-- What is frozen of an object. -/
def fzOf : Option Obj → Nat × Nat
  | some (.cells _ _ fr) => fr
  | _ => (0, 0)
/-- What is not memory is as it was, and what is frozen, too. -/
structure Same (w w' : World) : Prop where
  os : w'.os = w.os
  out : w'.output = w.output
  fz : ∀ c : Nat, c < w.heap.size → fzOf (w'.heap[c]?) = fzOf (w.heap[c]?)
theorem Same.refl (w : World) : Same w w := ⟨rfl, rfl, fun _ _ => rfl⟩
theorem Same.trans {a b c : World} (h : Same a b) (k : Same b c) (hs : a.heap.size ≤ b.heap.size) : Same a c := ⟨k.os.trans h.os, k.out.trans h.out, fun x hx => (k.fz x (Nat.lt_of_lt_of_le hx hs)).trans (h.fz x hx)⟩
theorem Same.alloc (w : World) (o : Obj) : Same w (w.alloc o) := ⟨rfl, rfl, fun c hc => by rw [heap_alloc_old w o c hc]⟩

/-- What an abstract heap says of a world, under a naming of its blocks. -/
structure HR (μ : Nat → Nat) (h : H) (w : World) : Prop where
  lt : ∀ b o, h.t.get b = some o → b < h.nx
  obj : ∀ b o, h.t.get b = some o → OR μ h.nx w o w.heap[μ b]?
  inj : ∀ b o b' o', h.t.get b = some o → h.t.get b' = some o' → μ b = μ b' → b = b'
  gl : ∀ c q, GV c = some q → ∃ cs E fz, w.heap[c]? = some (.cells cs E fz) ∧ q cs
  low : ∀ b o, h.t.get b = some o → GV (μ b) = none
theorem HR.glt {μ : Nat → Nat} {h : H} {w : World} (hr : HR μ h w) : ∀ c cs, GV c = some cs → c < w.heap.size := fun c cs hc => by
  obtain ⟨_, E, fz, h1, _⟩ := hr.gl c cs hc
  exact (Array.getElem?_eq_some_iff.1 h1).1

/-- How the world goes on. -/
structure Ext (μ : Nat → Nat) (h : H) (w : World) (μ' : Nat → Nat) (h' : H) (w' : World) : Prop where
  agree : ∀ b, b < h.nx → μ' b = μ b
  nx : h.nx ≤ h'.nx
  size : w.heap.size ≤ w'.heap.size
  shape : ∀ c s, w.shape? c = some s → w'.shape? c = some s
  frame : ∀ c, c < w.heap.size → (∀ b o, h.t.get b = some o → μ b ≠ c) → w'.heap[c]? = w.heap[c]?
  fresh : ∀ b o, h'.t.get b = some o → (b < h.nx ∧ ∃ o', h.t.get b = some o') ∨ w.heap.size ≤ μ' b ∨ ∃ b0 o0, h.t.get b0 = some o0 ∧ μ' b = μ b0
  same : Same w w'
  gsz : ∀ c cs, GV c = some cs → c < w.heap.size

theorem Ext.refl (μ : Nat → Nat) (h : H) (w : World) (hr : HR μ h w) : Ext μ h w μ h w :=
  ⟨fun _ _ => rfl, Nat.le_refl _, Nat.le_refl _, fun _ _ h => h, fun _ _ _ => rfl, fun b o hb => .inl ⟨hr.lt b o hb, o, hb⟩, Same.refl w, hr.glt⟩

theorem Ext.trans {μ μ' μ'' : Nat → Nat} {h h' h'' : H} {w w' w'' : World} (a : Ext μ h w μ' h' w') (b : Ext μ' h' w' μ'' h'' w'') : Ext μ h w μ'' h'' w'' where
  agree x hx := by rw [b.agree x (by have := a.nx; omega), a.agree x hx]
  nx := Nat.le_trans a.nx b.nx
  size := Nat.le_trans a.size b.size
  same := a.same.trans b.same a.size
  gsz := a.gsz
  shape c s hs := b.shape c s (a.shape c s hs)
  frame c hc hf := by
    rw [b.frame c (by have := a.size; omega) (fun x o hx e => ?_), a.frame c hc hf]
    rcases a.fresh x o hx with ⟨hlt, o', ho'⟩ | hge | ⟨b0, o0, h0, e0⟩
    · exact hf x o' ho' (by rw [← a.agree x hlt]; exact e)
    · omega
    · exact hf b0 o0 h0 (by rw [← e0]; exact e)
  fresh x o hx := by
    rcases b.fresh x o hx with ⟨hlt, o', ho'⟩ | hge | ⟨b0, o0, h0, e0⟩
    · rcases a.fresh x o' ho' with ⟨hlt', o'', ho''⟩ | hge | ⟨b0, o0, h0, e0⟩
      · exact .inl ⟨hlt', o'', ho''⟩
      · exact .inr (.inl (by rw [b.agree x hlt]; exact hge))
      · exact .inr (.inr ⟨b0, o0, h0, by rw [b.agree x hlt]; exact e0⟩)
    · exact .inr (.inl (by have := a.size; omega))
    · rcases a.fresh b0 o0 h0 with ⟨hlt', o'', ho''⟩ | hge | ⟨b1, o1, h1, e1⟩
      · exact .inr (.inr ⟨b0, o'', ho'', by rw [e0, a.agree b0 hlt']⟩)
      · exact .inr (.inl (by rw [e0]; exact hge))
      · exact .inr (.inr ⟨b1, o1, h1, by rw [e0, e1]⟩)

theorem VR.ext {μ μ' : Nat → Nat} {h h' : H} {w w' : World} {a : AV} {v : Value} (hv : VR μ h.nx w a v) (e : Ext μ h w μ' h' w') : VR μ' h'.nx w' a v := hv.mono e.agree e.nx e.shape
theorem VRL.ext {μ μ' : Nat → Nat} {h h' : H} {w w' : World} {a : AV} {l : List Value} (hv : VRL μ h.nx w a l) (e : Ext μ h w μ' h' w') : VRL μ' h'.nx w' a l := hv.mono e.agree e.nx e.shape

/-! ### The count of draws alone has moved on -/

theorem shape_heap {w w' : World} {c : Nat} (h : w'.heap[c]? = w.heap[c]?) : w'.shape? c = w.shape? c := by unfold World.shape?; rw [h]

theorem Ext.of_heap {μ : Nat → Nat} {h : H} {w w' : World} (hr : HR μ h w) (e : w'.heap = w.heap) (e1 : w'.os = w.os) (e2 : w'.output = w.output) : Ext μ h w μ h w' ∧ HR μ h w' := by
  have hs : ∀ c s, w.shape? c = some s → w'.shape? c = some s := fun c s x => by rw [shape_heap (w := w) (w' := w') (by rw [e])]; exact x
  refine ⟨⟨fun _ _ => rfl, Nat.le_refl _, by rw [e]; exact Nat.le_refl _, hs, fun _ _ _ => by rw [e], fun b o hb => .inl ⟨hr.lt b o hb, o, hb⟩, ⟨e1, e2, fun c _ => by rw [e]⟩, hr.glt⟩, hr.lt, fun b o hb => ?_, hr.inj, fun c cs hc => by rw [e]; exact hr.gl c cs hc, hr.low⟩
  rw [e]; exact (hr.obj b o hb).mono (fun _ _ => rfl) (Nat.le_refl _) hs

/-! ### A block is made -/

def setμ (μ : Nat → Nat) (b c : Nat) : Nat → Nat := fun x => if x = b then c else μ x
theorem setμ_same (μ : Nat → Nat) (b c : Nat) : setμ μ b c b = c := by simp [setμ]
theorem setμ_other (μ : Nat → Nat) {b x : Nat} (c : Nat) (h : x ≠ b) : setμ μ b c x = μ x := by simp [setμ, h]

theorem HR.block_lt {μ : Nat → Nat} {h : H} {w : World} (hr : HR μ h w) {b : Nat} {o : AO} (hb : h.t.get b = some o) : μ b < w.heap.size := by
  have := hr.obj b o hb
  cases o with
  | row m t df => obtain ⟨cs, E, fz, h1, _⟩ := this; exact (Array.getElem?_eq_some_iff.1 h1).1
  | im t clock _ => obtain ⟨es, h1, _⟩ := this; exact (Array.getElem?_eq_some_iff.1 h1).1
  | sm l clock => obtain ⟨es, h1, _⟩ := this; exact (Array.getElem?_eq_some_iff.1 h1).1
  | si len bits pos => exact (Array.getElem?_eq_some_iff.1 this.1).1

theorem made {μ : Nat → Nat} {h : H} {w : World} (hr : HR μ h w) {o : Obj} {ao : AO} {t' : PT AO} (ht : ∀ j, t'.get j = if j = h.nx then some ao else h.t.get j)
    (ho : OR (setμ μ h.nx w.heap.size) (h.nx + 1) (w.alloc o) ao (some o)) :
    Ext μ h w (setμ μ h.nx w.heap.size) ⟨t', h.nx + 1⟩ (w.alloc o) ∧ HR (setμ μ h.nx w.heap.size) ⟨t', h.nx + 1⟩ (w.alloc o) := by
  have hheap : ∀ c, c < w.heap.size → (w.alloc o).heap[c]? = w.heap[c]? := fun c hc => heap_alloc_old w o c hc
  have hs : ∀ c s, w.shape? c = some s → (w.alloc o).shape? c = some s := fun c s hc => by
    have hlt : c < w.heap.size := by
      rcases Nat.lt_or_ge c w.heap.size with hh | hh
      · exact hh
      · simp [World.shape?, Array.getElem?_eq_none hh] at hc
    rw [shape_heap (hheap c hlt)]; exact hc
  have hag : ∀ b, b < h.nx → setμ μ h.nx w.heap.size b = μ b := fun b hb => setμ_other μ _ (by omega)
  have hmem : ∀ b ob, t'.get b = some ob → (b = h.nx ∧ ob = ao) ∨ (b < h.nx ∧ h.t.get b = some ob) := fun b ob hb => by
    rw [ht b] at hb
    by_cases e : b = h.nx
    · rw [if_pos e] at hb; cases hb; exact .inl ⟨e, rfl⟩
    · rw [if_neg e] at hb; exact .inr ⟨hr.lt _ _ hb, hb⟩
  have hgl : ∀ c q, GV c = some q → ∃ cs E fz, (w.alloc o).heap[c]? = some (.cells cs E fz) ∧ q cs := fun c cs hc => by rw [hheap c (hr.glt c cs hc)]; exact hr.gl c cs hc
  refine ⟨⟨hag, Nat.le_succ _, by simp, hs, fun c hc _ => hheap c hc, fun b ob hb => ?_, Same.alloc w o, hr.glt⟩, fun b ob hb => ?_, fun b ob hb => ?_, fun b ob b' ob' hb hb' e => ?_, hgl, fun b ob hb => ?_⟩
  · rcases hmem b ob hb with ⟨rfl, _⟩ | ⟨hlt, h0⟩
    · exact .inr (.inl (by rw [setμ_same]; exact Nat.le_refl _))
    · exact .inl ⟨hlt, ob, h0⟩
  · rcases hmem b ob hb with ⟨rfl, _⟩ | ⟨hlt, _⟩
    · exact Nat.lt_succ_self _
    · exact Nat.lt_succ_of_lt hlt
  · rcases hmem b ob hb with ⟨rfl, rfl⟩ | ⟨hlt, h0⟩
    · rw [setμ_same, heap_alloc_new]; exact ho
    · rw [hag b hlt, hheap _ (hr.block_lt h0)]
      exact (hr.obj b ob h0).mono hag (Nat.le_succ _) hs
  · rcases hmem b ob hb with ⟨rfl, rfl⟩ | ⟨hlt, h0⟩ <;> rcases hmem b' ob' hb' with ⟨rfl, rfl⟩ | ⟨hlt', h0'⟩
    · rfl
    · rw [setμ_same, hag b' hlt'] at e; have := hr.block_lt h0'; omega
    · rw [setμ_same, hag b hlt] at e; have := hr.block_lt h0; omega
    · rw [hag b hlt, hag b' hlt'] at e; exact hr.inj b ob b' ob' h0 h0' e
  · rcases hmem b ob hb with ⟨rfl, rfl⟩ | ⟨hlt, h0⟩
    · rw [setμ_same]
      cases hc : GV w.heap.size with
      | none => rfl
      | some cs => exact absurd (hr.glt _ cs hc) (Nat.lt_irrefl _)
    · rw [hag b hlt]; exact hr.low b ob h0

/-! ### A block is changed -/

theorem changed {μ : Nat → Nat} {h : H} {w w' : World} (hr : HR μ h w) {b : Nat} {ob ao : AO} (hb : h.t.get b = some ob) {t' : PT AO} (ht : ∀ j, t'.get j = if j = b then some ao else h.t.get j)
    (hsz : w'.heap.size = w.heap.size) (hother : ∀ c, c ≠ μ b → w'.heap[c]? = w.heap[c]?) (hshape : ∀ s, w.shape? (μ b) = some s → w'.shape? (μ b) = some s)
    (ho : OR μ h.nx w' ao w'.heap[μ b]?) (hsm : Same w w') :
    Ext μ h w μ ⟨t', h.nx⟩ w' ∧ HR μ ⟨t', h.nx⟩ w' := by
  have hs : ∀ c s, w.shape? c = some s → w'.shape? c = some s := fun c s hc => by
    by_cases e : c = μ b
    · subst e; exact hshape s hc
    · rw [shape_heap (hother c e)]; exact hc
  have hmem : ∀ x ox, t'.get x = some ox → (x = b ∧ ox = ao) ∨ (x ≠ b ∧ h.t.get x = some ox) := fun x ox hx => by
    rw [ht x] at hx
    by_cases e : x = b
    · rw [if_pos e] at hx; cases hx; exact .inl ⟨e, rfl⟩
    · rw [if_neg e] at hx; exact .inr ⟨e, hx⟩
  have hlive : ∀ x ox, t'.get x = some ox → ∃ ox', h.t.get x = some ox' := fun x ox hx => by
    rcases hmem x ox hx with ⟨rfl, _⟩ | ⟨_, h0⟩
    · exact ⟨_, hb⟩
    · exact ⟨_, h0⟩
  refine ⟨⟨fun _ _ => rfl, Nat.le_refl _, by rw [hsz]; exact Nat.le_refl _, hs, fun c hc hf => hother c fun e => hf b ob hb e.symm, fun x ox hx => ?_, hsm, hr.glt⟩, fun x ox hx => ?_, fun x ox hx => ?_, fun x ox y oy hx hy e => ?_, fun c cs hc => ?_, fun x ox hx => ?_⟩
  · obtain ⟨ox', h0⟩ := hlive x ox hx; exact .inl ⟨hr.lt _ _ h0, ox', h0⟩
  · obtain ⟨ox', h0⟩ := hlive x ox hx; exact hr.lt _ _ h0
  · rcases hmem x ox hx with ⟨rfl, rfl⟩ | ⟨hne, h0⟩
    · exact ho
    · rw [hother (μ x) (fun e => hne (hr.inj x ox b ob h0 hb e))]
      exact (hr.obj x ox h0).mono (fun _ _ => rfl) (Nat.le_refl _) hs
  · obtain ⟨ox', h0⟩ := hlive x ox hx; obtain ⟨oy', h1⟩ := hlive y oy hy
    exact hr.inj x ox' y oy' h0 h1 e
  · have : c ≠ μ b := fun e => by rw [e, hr.low b ob hb] at hc; cases hc
    rw [hother c this]; exact hr.gl c cs hc
  · obtain ⟨ox', h0⟩ := hlive x ox hx; exact hr.low _ _ h0

end Go.Ev
