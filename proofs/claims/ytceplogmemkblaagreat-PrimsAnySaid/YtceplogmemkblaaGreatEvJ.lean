/-
  An abstract evaluator for Go code under the model: stores, and what makes rows.
-/
import Derived.Test.YtceplogmemkblaaGreatEvI
namespace Go.Ev

/-! ### The model's side: a block replaced -/

def setW (w : World) (g : Nat) (ob : Obj) : World := { w with heap := w.heap.setIfInBounds g ob }
theorem setW_size (w : World) (g : Nat) (ob : Obj) : (setW w g ob).heap.size = w.heap.size := by simp [setW]
theorem setW_same {w : World} {g : Nat} (ob : Obj) (h : g < w.heap.size) : (setW w g ob).heap[g]? = some ob := by simp [setW, h]
theorem setW_other (w : World) {g c : Nat} (ob : Obj) (h : c ≠ g) : (setW w g ob).heap[c]? = w.heap[c]? := by
  simp only [setW]; rw [Array.getElem?_setIfInBounds_ne (fun e => h e.symm)]
theorem setW_setW (w : World) (g : Nat) (a b : Obj) : setW (setW w g a) g b = setW w g b := by
  simp only [setW]; congr 1; apply Array.ext_getElem?; intro i
  by_cases h : i = g
  · subst h; simp [Array.getElem?_setIfInBounds]
  · rw [Array.getElem?_setIfInBounds_ne (fun e => h e.symm), Array.getElem?_setIfInBounds_ne (fun e => h e.symm), Array.getElem?_setIfInBounds_ne (fun e => h e.symm)]
theorem setW_self {w : World} {g : Nat} {ob : Obj} (h : w.heap[g]? = some ob) : setW w g ob = w := by
  have : w.heap.setIfInBounds g ob = w.heap := by
    apply Array.ext_getElem?; intro i
    by_cases hi : i = g
    · subst hi
      have hlt := (Array.getElem?_eq_some_iff.1 h).1
      rw [show (w.heap.setIfInBounds i ob)[i]? = some ob by simp [hlt], h]
    · rw [Array.getElem?_setIfInBounds_ne (fun e => hi e.symm)]
  unfold setW; rw [this]

theorem setCell_setW {w : World} {g o : Nat} {cs : Array Value} {E : TypeId} {fz : Nat × Nat} (h : w.heap[g]? = some (.cells cs E fz)) (v : Value) : w.setCell ⟨g, o, none⟩ v = setW w g (.cells (cs.setIfInBounds o v) E fz) := by
  unfold World.setCell setW
  congr 1
  apply Array.ext_getElem?; intro i
  have hlt := (Array.getElem?_eq_some_iff.1 h).1
  rw [Array.getElem?_modify]
  by_cases hi : i = g
  · subst hi
    rw [if_pos rfl, h]
    simp [hlt]
  · rw [if_neg (fun e => hi e.symm), Array.getElem?_setIfInBounds_ne (fun e => hi e.symm)]

theorem spl_set (xs : List Value) (o : Nat) (v : Value) (ys : List Value) (h : o + (v :: ys).length ≤ xs.length) : spl (xs.set o v) (o + 1) ys = spl xs o (v :: ys) := by
  simp only [List.length_cons] at h
  have hlt : o < xs.length := by omega
  simp only [spl, List.length_cons]
  rw [List.drop_set_of_lt (by omega), List.take_set, List.take_succ_eq_append_getElem hlt, List.set_append_right _ _ (by simp; omega)]
  simp only [List.length_take, Nat.min_eq_left (Nat.le_of_lt hlt), Nat.sub_self, List.set_cons_zero, List.append_assoc, List.nil_append, List.cons_append]
  rw [show o + 1 + ys.length = o + (ys.length + 1) by omega]

theorem spl_nil (xs : List Value) (o : Nat) : spl xs o [] = xs := by simp [spl]

theorem run_storeRow {P : Program} {g o : Nat} {E : TypeId} {fz : Nat × Nat} : ∀ (vs : List Value) (i : Nat) (cs : Array Value) (w : World), w.heap[g]? = some (.cells cs E fz) → (∀ i, i < cs.size → ¬ (fz.1 ≤ i ∧ i < fz.2)) →
    o + i + vs.length ≤ cs.size → (∀ v ∈ vs, v.oneCell' = true) → (storeCells ⟨g, o, none⟩ vs i).run P w = .ok () (setW w g (.cells (spl cs.toList (o + i) vs).toArray E fz))
  | [], i, cs, w, h, _, _, _ => by rw [spl_nil, Array.toArray_toList, setW_self h]; rfl
  | v :: vs, i, cs, w, h, hf, hl, h1 => by
    simp only [List.length_cons] at hl
    have hlt : o + i < cs.size := by omega
    have hcell : w.cell? ⟨g, o + i, none⟩ = some cs[o + i] := by unfold World.cell?; rw [h]; simp [hlt]
    have hfr : w.frozen? ⟨g, o + i, none⟩ = false := by
      unfold World.frozen?; rw [h]
      have := hf (o + i) hlt
      obtain ⟨lo, hi2⟩ := fz
      simp only [Bool.and_eq_false_iff, decide_eq_false_iff_not]
      simp only at this
      omega
    have hst : (store (Addr.add ⟨g, o, none⟩ i) v).run P w = .ok () (setW w g (.cells (cs.setIfInBounds (o + i) v) E fz)) := by
      rw [Addr.add_lit, run_store P w _ v _ (h1 v (by simp)), hcell]
      simp only [hfr, Bool.false_eq_true, if_false]
      rw [setCell_setW h]
    unfold storeCells
    rw [Sem.run_bind, hst, Result.andThen_ok]
    have hg : g < w.heap.size := (Array.getElem?_eq_some_iff.1 h).1
    rw [run_storeRow vs (i + 1) (cs.setIfInBounds (o + i) v) _ (setW_same _ hg) (by simpa using hf) (by simp; omega) (fun x hx => h1 x (by simp [hx]))]
    rw [setW_setW, Array.toList_setIfInBounds, show o + (i + 1) = o + i + 1 by omega, spl_set _ _ _ _ (by simp; omega)]

/-- What stands behind a splice. -/
def ov (o : Nat) (ys : List Value) (f : Nat → Value) (j : Nat) : Value := if o ≤ j ∧ j < o + ys.length then ys.getD (j - o) undef else f j
theorem spl_ov {xs : List Value} {o : Nat} {ys : List Value} (h : o + ys.length ≤ xs.length) {j : Nat} (hj : j < xs.length) : (spl xs o ys)[j]? = some (ov o ys (fun j => xs.getD j undef) j) := by
  unfold spl ov
  rcases Nat.lt_or_ge j o with h1 | h1
  · rw [List.getElem?_append_left (by simp; omega), if_neg (by omega), List.getElem?_take, if_pos h1]
    simp [hj]
  · rw [List.getElem?_append_right (by simp; omega)]
    simp only [List.length_take, Nat.min_eq_left (show o ≤ xs.length by omega)]
    rcases Nat.lt_or_ge j (o + ys.length) with h2 | h2
    · rw [List.getElem?_append_left (by omega), if_pos ⟨h1, h2⟩]
      have : j - o < ys.length := by omega
      simp [this]
    · rw [List.getElem?_append_right (by omega), if_neg (by omega), List.getElem?_drop, show o + ys.length + (j - o - ys.length) = j by omega]
      simp [hj]

/-- Put a written list into a trie, from the place i on; what is behind it. -/
noncomputable def putsK (cs : AV) : Nat → PT AV → (Nat → PT AV → Res) → Res :=
  AV.rec (motive := fun _ => Nat → PT AV → (Nat → PT AV → Res) → Res) (fun _ _ _ => .fail 63) (fun _ _ _ _ => .fail 63) (fun _ _ _ _ => .fail 63) (fun _ _ _ _ => .fail 63) (fun _ _ _ _ _ => .fail 63) (fun _ _ _ _ _ => .fail 63) (fun _ _ _ _ _ => .fail 63)
    (fun _ _ _ => .fail 63) (fun _ _ _ _ _ _ _ _ => .fail 63) (fun _ _ _ => .fail 63) (fun _ _ _ => .fail 63) (fun _ _ _ _ => .fail 63) (fun _ _ _ => .fail 63) (fun _ _ _ _ _ _ _ _ => .fail 63) (fun _ _ _ => .fail 63) (fun _ _ _ _ _ => .fail 63) (fun _ _ _ _ _ => .fail 63)
    (fun i t k => k i t) (fun a _ _ ih i t k => PT.updK 40 t i (some a) fun t' => forceN (Nat.succ i) fun i' => ih i' t' k) cs

theorem putsK_good {df : AV} : ∀ {cs : AV} {i : Nat} {t : PT AV} {k : Nat → PT AV → Res}, (putsK cs i t k).good →
    ∃ n t', (∀ μ nx w vs, VRL μ nx w cs vs → n = i + vs.length ∧ ∀ (f : Nat → Value) (S : Nat → Prop), (∀ j, S j → VR μ nx w ((t.get j).getD df) (f j)) →
      ∀ j, (S j ∨ (i ≤ j ∧ j < n)) → VR μ nx w ((t'.get j).getD df) (ov i vs f j)) ∧ (k n t').good := by
  intro cs
  induction cs with
  | nil =>
    intro i t k h
    refine ⟨i, t, fun μ nx w vs hv => ?_, h⟩
    rw [VRL_nil] at hv
    subst hv
    refine ⟨rfl, fun f S hf j hj => ?_⟩
    unfold ov
    rw [if_neg (by rintro ⟨h1, h2⟩; simp at h2; omega)]
    exact hf j (hj.resolve_right (by omega))
  | cons a r _ ih =>
    intro i t k h
    have h : (PT.updK 40 t i (some a) fun t' => forceN (Nat.succ i) fun i' => putsK r i' t' k).good := h
    obtain ⟨t1, ht1, h⟩ := PT.updK_good h
    rw [forceN_eq] at h
    obtain ⟨n, t', hn, h⟩ := ih h
    refine ⟨n, t', fun μ nx w vs hv => ?_, h⟩
    obtain ⟨x, vs', rfl, hx, hvs⟩ := hv
    obtain ⟨h1, h2⟩ := hn μ nx w vs' hvs
    refine ⟨by simp; omega, fun f S hf j hj => ?_⟩
    have := h2 (fun j => if j = i then x else f j) (fun j => S j ∨ j = i) (fun j hj => by
      rw [ht1 j]
      by_cases e : j = i
      · rw [if_pos e, if_pos e]; exact hx
      · rw [if_neg e, if_neg e]; exact hf j (hj.resolve_right e)) j (by
        rcases hj with hj | hj
        · exact .inl (.inl hj)
        · by_cases e : j = i
          · exact .inl (.inr e)
          · exact .inr ⟨by show i + 1 ≤ j; omega, hj.2⟩)
    have e : ov (i + 1) vs' (fun j => if j = i then x else f j) j = ov i (x :: vs') f j := by
      unfold ov
      simp only [List.length_cons]
      by_cases e : j = i
      · subst e
        rw [if_neg (by omega), if_pos rfl, if_pos ⟨Nat.le_refl _, by omega⟩]; simp
      · by_cases e2 : i + 1 ≤ j ∧ j < i + 1 + vs'.length
        · rw [if_pos e2, if_pos ⟨by omega, by omega⟩, show j - i = (j - (i + 1)) + 1 by omega]; simp
        · rw [if_neg e2]
          show (if j = i then x else f j) = _
          rw [if_neg e, if_neg (by omega)]
    rw [← e]; exact this
  | _ => intro i t k h; exact absurd h Res.not_good_fail

/-- A row of the written list cs is made. -/
noncomputable def newRowK (cs : AV) (h : H) (k : Nat → Nat → H → Res) : Res := putsK cs 0 .nil fun m t => newK h (.row m t .u) fun b h' => k b m h'

theorem made_row {μ : Nat → Nat} {h : H} {w : World} (hr : HR μ h w) {xs : Array Value} {E : TypeId} {m : Nat} {t : PT AV} {df : AV} {t' : PT AO} (ht : ∀ j, t'.get j = if j = h.nx then some (.row m t df) else h.t.get j)
    (hm : m ≤ xs.size) (hv : ∀ i (_ : i < m) (hi : i < xs.size), VR μ h.nx w ((t.get i).getD df) xs[i] ∧ xs[i].oneCell' = true) :
    Ext μ h w (setμ μ h.nx w.heap.size) ⟨t', h.nx + 1⟩ (w.alloc (.cells xs E)) ∧ HR (setμ μ h.nx w.heap.size) ⟨t', h.nx + 1⟩ (w.alloc (.cells xs E)) := by
  have hs : ∀ c s, w.shape? c = some s → (w.alloc (.cells xs E)).shape? c = some s := fun c s hc => by
    have hlt : c < w.heap.size := by
      rcases Nat.lt_or_ge c w.heap.size with hh | hh
      · exact hh
      · simp [World.shape?, Array.getElem?_eq_none hh] at hc
    rw [shape_heap (heap_alloc_old w _ c hlt)]; exact hc
  refine made hr ht ⟨xs, E, (0, 0), rfl, fun i _ => by omega, hm, fun i hi hi' => ⟨?_, (hv i hi hi').2⟩⟩
  exact (hv i hi hi').1.mono (fun b hb => setμ_other μ _ (by omega)) (Nat.le_succ _) hs

theorem newRowK_good {cs : AV} {h : H} {k : Nat → Nat → H → Res} (hg : (newRowK cs h k).good) :
    ∃ m h', (∀ μ w (xs : Array Value) E, HR μ h w → VRL μ h.nx w cs xs.toList → (∀ x ∈ xs.toList, x.oneCell' = true) →
      m = xs.size ∧ Ext μ h w (setμ μ h.nx w.heap.size) h' (w.alloc (.cells xs E)) ∧ HR (setμ μ h.nx w.heap.size) h' (w.alloc (.cells xs E)) ∧ h.nx < h'.nx) ∧ (k h.nx m h').good := by
  obtain ⟨m, t, ht, hg⟩ := putsK_good (df := .u) hg
  obtain ⟨t', ht', hg⟩ := newK_good hg
  refine ⟨m, _, fun μ w xs E hr hx h1 => ?_, hg⟩
  obtain ⟨h2, h3⟩ := ht μ h.nx w _ hx
  have hm : m = xs.size := by simpa using h2
  obtain ⟨h4, h5⟩ := made_row hr (xs := xs) (E := E) ht' (Nat.le_of_eq hm) (fun i hi hi' => ⟨by
    have := h3 (fun _ => undef) (fun _ => False) (fun _ hh => hh.elim) i (.inr ⟨Nat.zero_le _, hi⟩)
    unfold ov at this
    rw [if_pos ⟨Nat.zero_le _, by simp; omega⟩] at this
    simpa [hi'] using this, h1 _ (by simp)⟩)
  exact ⟨hm, h4, h5, Nat.lt_succ_self _⟩

/-! ### Stores -/

theorem Same.setW {w : World} {g : Nat} {ob : Obj} (hf : fzOf (some ob) = fzOf (w.heap[g]?)) : Same w (setW w g ob) := ⟨rfl, rfl, fun c _ => by
  by_cases e : c = g
  · subst e
    rcases Nat.lt_or_ge c w.heap.size with hc | hc
    · rw [setW_same ob hc, hf]
    · rw [Array.getElem?_eq_none hc, Array.getElem?_eq_none (by rw [setW_size]; exact hc)]
  · rw [setW_other w ob e]⟩

theorem changed_put {μ : Nat → Nat} {h : H} {w : World} (hr : HR μ h w) {b : Nat} {ob0 ao : AO} (hb : h.t.get b = some ob0) {t' : PT AO} (ht : ∀ j, t'.get j = if j = b then some ao else h.t.get j) {ob : Obj}
    (hshape : ∀ s, w.shape? (μ b) = some s → (setW w (μ b) ob).shape? (μ b) = some s) (ho : OR μ h.nx (setW w (μ b) ob) ao (some ob)) (hf : fzOf (some ob) = fzOf (w.heap[μ b]?)) :
    Ext μ h w μ ⟨t', h.nx⟩ (setW w (μ b) ob) ∧ HR μ ⟨t', h.nx⟩ (setW w (μ b) ob) :=
  changed hr hb ht (setW_size _ _ _) (fun c hc => setW_other w ob hc) hshape (by rw [setW_same ob (hr.block_lt hb)]; exact ho) (Same.setW hf)

/-- Store a written list of m at a place. -/
noncomputable def storeK (cs : AV) (b o q : Nat) (h : H) (k : H → Res) : Res :=
  atK h b fun ao => rowK ao fun m t df => putsK cs o t fun n t' => iteK (Nat.beq n (Nat.add o q)) (iteK (Nat.ble n m) (putK h b (.row m t' df) k) (.fail 64)) (.fail 65)

theorem storeK_good {cs : AV} {b o q : Nat} {h : H} {k : H → Res} (hg : (storeK cs b o q h k).good) :
    ∃ h', (∀ (P : Program) μ w vs, HR μ h w → VRL μ h.nx w cs vs → (∀ v ∈ vs, v.oneCell' = true) →
      vs.length = q ∧ ∃ w', (storeCells ⟨μ b, o, none⟩ vs).run P w = .ok () w' ∧ Ext μ h w μ h' w' ∧ HR μ h' w') ∧ h'.nx = h.nx ∧ (k h').good := by
  obtain ⟨ao, ha, hg⟩ := atK_good hg
  obtain ⟨m, t, df, rfl, hg⟩ := rowK_good hg
  obtain ⟨n, t1, ht1, hg⟩ := putsK_good (df := df) hg
  obtain ⟨hnq, hg⟩ := iteK_good hg
  have hnq : n = o + q := Nat.eq_of_beq_eq_true hnq
  obtain ⟨hle, hg⟩ := iteK_good hg
  have hle : n ≤ m := Nat.le_of_ble_eq_true hle
  obtain ⟨t', ht', hg⟩ := putK_good hg
  refine ⟨⟨t', h.nx⟩, fun P μ w vs hr hv h1 => ⟨by have := (ht1 μ h.nx w vs hv).1; omega, ?_⟩, rfl, hg⟩
  obtain ⟨cs', E, fz, h2, h3, h4, h5⟩ := hr.row ha
  obtain ⟨h6, h7⟩ := ht1 μ h.nx w vs hv
  have hlen : o + vs.length ≤ cs'.toList.length := by simp; omega
  have hsz : (spl cs'.toList o vs).length = cs'.size := by rw [spl_length _ _ _ hlen]; simp
  have hrun := run_storeRow (P := P) (o := o) vs 0 cs' w h2 h3 (by omega) h1
  have hshape : ∀ s, w.shape? (μ b) = some s → (setW w (μ b) (.cells (spl cs'.toList (o + 0) vs).toArray E fz)).shape? (μ b) = some s := fun s hs => by
    unfold World.shape? at hs ⊢
    rw [setW_same _ (hr.block_lt ha)]
    rw [h2] at hs
    simp only [Option.some.injEq] at hs ⊢
    rw [← hs]; simp [hsz]
  refine ⟨_, hrun, changed_put hr ha ht' hshape ?_ (by rw [h2]; rfl)⟩
  have hs : ∀ c s, w.shape? c = some s → (setW w (μ b) (.cells (spl cs'.toList (o + 0) vs).toArray E fz)).shape? c = some s := fun c s hc => by
    by_cases e : c = μ b
    · subst e; exact hshape s hc
    · rw [shape_heap (setW_other w _ e)]; exact hc
  refine ⟨_, E, fz, rfl, by simpa [hsz] using h3, by simp [hsz]; omega, fun i hi hi' => ?_⟩
  have hi2 : i < cs'.toList.length := by simp; omega
  have hget := spl_ov hlen hi2
  simp only [Nat.add_zero, List.getElem_toArray]
  rw [List.getElem?_eq_some_iff] at hget
  obtain ⟨_, hget⟩ := hget
  rw [hget]
  constructor
  · refine (h7 (fun j => cs'.toList.getD j undef) (fun j => j < m) (fun j hj => ?_) i (.inl hi)).mono (fun _ _ => rfl) (Nat.le_refl _) hs
    have hj' : j < cs'.size := by omega
    have := (h5 j hj hj').1
    simpa [hj'] using this
  · unfold ov
    split
    · rename_i hc
      have : i - o < vs.length := by omega
      simp only [List.getD_eq_getElem?_getD, List.getElem?_eq_getElem this, Option.getD_some]
      exact h1 _ (List.getElem_mem _)
    · have hj' : i < cs'.size := by omega
      simp [hj']; exact (h5 i hi hj').2

end Go.Ev
