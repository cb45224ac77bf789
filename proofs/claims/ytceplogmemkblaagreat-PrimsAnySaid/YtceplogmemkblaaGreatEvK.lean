/-
  An abstract evaluator for Go code under the model: append.
-/
import Derived.Test.YtceplogmemkblaaGreatEvJ
import Derived.Laws.Append
import Derived.Laws.BytesString
namespace Go.Ev

/-- A block is forgotten. -/
noncomputable def delK (h : H) (b : Nat) (k : H → Res) : Res := H.rec (motive := fun _ => Nat → (H → Res) → Res) (fun t nx b k => PT.updK 40 t b none fun t' => k ⟨t', nx⟩) h b k
theorem delK_good {h : H} {b : Nat} {k : H → Res} (hg : (delK h b k).good) : ∃ t', (∀ j, t'.get j = if j = b then none else h.t.get j) ∧ (k ⟨t', h.nx⟩).good := by
  have hg : (PT.updK 40 h.t b none fun t' => k ⟨t', h.nx⟩).good := hg
  exact PT.updK_good hg

theorem HR.del {μ : Nat → Nat} {h : H} {w : World} (hr : HR μ h w) {b : Nat} {t' : PT AO} (ht : ∀ j, t'.get j = if j = b then none else h.t.get j) : HR μ ⟨t', h.nx⟩ w ∧ Ext μ h w μ ⟨t', h.nx⟩ w := by
  have hm : ∀ x o, t'.get x = some o → h.t.get x = some o := fun x o hx => by
    rw [ht x] at hx
    split at hx
    · cases hx
    · exact hx
  exact ⟨⟨fun x o hx => hr.lt x o (hm x o hx), fun x o hx => hr.obj x o (hm x o hx), fun x o y o' hx hy e => hr.inj x o y o' (hm x o hx) (hm y o' hy) e, hr.gl, fun x o hx => hr.low x o (hm x o hx)⟩,
    ⟨fun _ _ => rfl, Nat.le_refl _, Nat.le_refl _, fun _ _ h => h, fun _ _ _ => rfl, fun x o hx => .inl ⟨hr.lt x o (hm x o hx), o, hm x o hx⟩, Same.refl w, hr.glt⟩⟩

/-- A row goes on under a new name, in place. -/
theorem retarget {μ : Nat → Nat} {h : H} {w : World} (hr : HR μ h w) {b m0 m : Nat} {t0 t : PT AV} {df0 df : AV} (hb : h.t.get b = some (.row m0 t0 df0)) {t' : PT AO}
    (ht : ∀ j, t'.get j = if j = h.nx then some (.row m t df) else if j = b then none else h.t.get j) {cs cs' : Array Value} {E : TypeId} {fz : Nat × Nat} (hc : w.heap[μ b]? = some (.cells cs E fz))
    (hfz : ∀ i, i < cs.size → ¬ (fz.1 ≤ i ∧ i < fz.2)) (hsz : cs'.size = cs.size) (hm : m ≤ cs'.size)
    (hv : ∀ i (_ : i < m) (hi : i < cs'.size), VR μ h.nx w ((t.get i).getD df) cs'[i] ∧ cs'[i].oneCell' = true) :
    Ext μ h w (setμ μ h.nx (μ b)) ⟨t', h.nx + 1⟩ (setW w (μ b) (.cells cs' E fz)) ∧ HR (setμ μ h.nx (μ b)) ⟨t', h.nx + 1⟩ (setW w (μ b) (.cells cs' E fz)) := by
  have hbl := hr.block_lt hb
  have hag : ∀ x, x < h.nx → setμ μ h.nx (μ b) x = μ x := fun x hx => setμ_other μ _ (by omega)
  have hshape : ∀ c s, w.shape? c = some s → (setW w (μ b) (.cells cs' E fz)).shape? c = some s := fun c s hs => by
    by_cases e : c = μ b
    · subst e
      unfold World.shape? at hs ⊢
      rw [setW_same _ hbl]
      rw [hc] at hs
      simp only [Option.some.injEq] at hs ⊢
      rw [← hs, hsz]
    · rw [shape_heap (setW_other w _ e)]; exact hs
  have hmem : ∀ x ox, t'.get x = some ox → (x = h.nx ∧ ox = .row m t df) ∨ (x < h.nx ∧ x ≠ b ∧ h.t.get x = some ox) := fun x ox hx => by
    rw [ht x] at hx
    split at hx
    · rename_i e; cases hx; exact .inl ⟨e, rfl⟩
    · split at hx
      · cases hx
      · rename_i e; exact .inr ⟨hr.lt _ _ hx, e, hx⟩
  have hne : ∀ x ox, x ≠ b → h.t.get x = some ox → μ x ≠ μ b := fun x ox hx hox e => hx (hr.inj x ox b _ hox hb e)
  refine ⟨⟨hag, Nat.le_succ _, by rw [setW_size]; exact Nat.le_refl _, hshape, fun c _ hf => setW_other w _ (fun e => hf b _ hb e.symm), fun x ox hx => ?_, Same.setW (by rw [hc]; rfl), hr.glt⟩, fun x ox hx => ?_, fun x ox hx => ?_, fun x ox y oy hx hy e => ?_, fun c ds hd => ?_, fun x ox hx => ?_⟩
  · rcases hmem x ox hx with ⟨rfl, _⟩ | ⟨hlt, _, h0⟩
    · exact .inr (.inr ⟨b, _, hb, setμ_same _ _ _⟩)
    · exact .inl ⟨hlt, ox, h0⟩
  · rcases hmem x ox hx with ⟨rfl, _⟩ | ⟨hlt, _, _⟩
    · exact Nat.lt_succ_self _
    · exact Nat.lt_succ_of_lt hlt
  · rcases hmem x ox hx with ⟨rfl, rfl⟩ | ⟨hlt, hxb, h0⟩
    · rw [setμ_same, setW_same _ hbl]
      exact ⟨cs', E, fz, rfl, by rw [hsz]; exact hfz, hm, fun i hi hi' => ⟨(hv i hi hi').1.mono hag (Nat.le_succ _) hshape, (hv i hi hi').2⟩⟩
    · rw [hag x hlt, setW_other w _ (hne x ox hxb h0)]
      exact (hr.obj x ox h0).mono hag (Nat.le_succ _) hshape
  · rcases hmem x ox hx with ⟨rfl, rfl⟩ | ⟨hlt, hxb, h0⟩ <;> rcases hmem y oy hy with ⟨rfl, rfl⟩ | ⟨hlt', hyb, h0'⟩
    · rfl
    · rw [setμ_same, hag y hlt'] at e; exact absurd e.symm (hne y oy hyb h0')
    · rw [setμ_same, hag x hlt] at e; exact absurd e (hne x ox hxb h0)
    · rw [hag x hlt, hag y hlt'] at e; exact hr.inj x ox y oy h0 h0' e
  · have : c ≠ μ b := fun e => by rw [e, hr.low b _ hb] at hd; cases hd
    rw [setW_other w _ this]; exact hr.gl c ds hd
  · rcases hmem x ox hx with ⟨rfl, rfl⟩ | ⟨hlt, _, h0⟩
    · rw [setμ_same]; exact hr.low b _ hb
    · rw [hag x hlt]; exact hr.low x ox h0

/-! ### What is appended -/

/-- n elements of sz cells each of a slice, as a written list. -/
noncomputable def elemsK (x : AV) (sz : Nat) (h : H) (k : AV → Nat → Res) : Res :=
  isEz x (k .nil 0) (isSl x (fun b o n _ _ => atK h b fun ao => rowK ao fun m t df => forceN (Nat.mul n sz) fun q => iteK (Nat.ble (Nat.add o q) m) (cellsOfK t df q o fun l => k l n) (.fail 66)) (k .nil 0))

/-- What 'elemsK' tells: the slice's cells, wherever they lie. -/
structure ElemsS (x : AV) (sz : Nat) (h : H) (l : AV) (n : Nat) : Prop where
  say : ∀ μ w v, HR μ h w → VR μ h.nx w x v → ∃ (ad : Option Addr) (c : Nat) (xs : List Value), v = .slice ad n c ∧ xs.length = n * sz ∧ VRL μ h.nx w l xs ∧ (∀ y ∈ xs, y.oneCell' = true) ∧
    (ad = none → n = 0 ∧ c = 0) ∧ (∀ a, ad = some a → ∀ j y, xs[j]? = some y → w.cell? (a.add j) = some y)

theorem elemsK_good {x : AV} {sz : Nat} {h : H} {k : AV → Nat → Res} (hg : (elemsK x sz h k).good) : ∃ l n, ElemsS x sz h l n ∧ (k l n).good := by
  unfold elemsK at hg
  rcases isEz_good hg with ⟨rfl, hg⟩ | hg
  · exact ⟨.nil, 0, ⟨fun μ w v hr hv => by obtain ⟨a, c, rfl⟩ := hv; exact ⟨some a, c, [], rfl, by simp, rfl, by simp, by simp, by simp⟩⟩, hg⟩
  rcases isSl_good hg with ⟨b, o, n, c, st, rfl, hg1⟩ | ⟨rfl, hg1⟩
  · obtain ⟨ao, ha, hg2⟩ := atK_good hg1
    obtain ⟨m, t, df, rfl, hg3⟩ := rowK_good hg2
    rw [forceN_eq] at hg3
    obtain ⟨hle, hg4⟩ := iteK_good hg3
    have hle : o + n * sz ≤ m := Nat.le_of_ble_eq_true hle
    obtain ⟨l, hl, hg5⟩ := cellsOfK_good _ _ hg4
    refine ⟨l, n, ⟨fun μ w v hr hv => ?_⟩, hg5⟩
    obtain ⟨_, _, c', rfl, _⟩ := hv
    have hf : ∀ j, j < n * sz → ∃ v, w.cell? ⟨μ b, o + j, none⟩ = some v ∧ VR μ h.nx w ((t.get (o + j)).getD df) v ∧ v.oneCell' = true := fun j hj => by
      obtain ⟨v, h5, h6, h7, _⟩ := hr.cell ha (i := o + j) (by omega)
      exact ⟨v, h5, h6, h7⟩
    let f : Nat → Value := fun i => (w.cell? ⟨μ b, i, none⟩).getD undef
    have hf1 : ∀ j, j < n * sz → w.cell? ⟨μ b, o + j, none⟩ = some (f (o + j)) ∧ VR μ h.nx w ((t.get (o + j)).getD df) (f (o + j)) ∧ (f (o + j)).oneCell' = true := fun j hj => by
      obtain ⟨v, h5, h6, h7⟩ := hf j hj
      have e1 : f (o + j) = v := by simp only [f, h5, Option.getD_some]
      rw [e1]; exact ⟨h5, h6, h7⟩
    refine ⟨some ⟨μ b, o, none⟩, c', (List.range (n * sz)).map fun j => f (o + j), rfl, by simp, hl μ h.nx w f (fun j hj => (hf1 j hj).2.1), fun y hy => ?_, by simp, fun a ha' j y hj => ?_⟩
    · simp only [List.mem_map, List.mem_range] at hy
      obtain ⟨j, hj, rfl⟩ := hy
      exact (hf1 j hj).2.2
    · cases ha'
      rw [List.getElem?_map] at hj
      rcases Nat.lt_or_ge j (n * sz) with hjn | hjn
      · rw [List.getElem?_range hjn] at hj
        simp only [Option.map_some, Option.some.injEq] at hj
        rw [Addr.add_lit, ← hj]; exact (hf1 j hjn).1
      · rw [List.getElem?_eq_none (by simp; omega)] at hj; cases hj
  · exact ⟨.nil, 0, ⟨fun μ w v hr hv => ⟨none, 0, [], by rw [show v = _ from hv], by simp, rfl, by simp, fun _ => ⟨rfl, rfl⟩, by simp⟩⟩, hg1⟩

theorem elems_first {x : AV} {sz : Nat} {h : H} {l : AV} {n : Nat} (he : ElemsS x sz h l n) {μ : Nat → Nat} {w w' : World} {v : Value} (hr : HR μ h w) (hv : VR μ h.nx w x v) (hw : w'.heap = w.heap) {P : Program} :
    ∃ xs : List Value, xs.length = n * sz ∧ VRL μ h.nx w l xs ∧ (∀ y ∈ xs, y.oneCell' = true) ∧ (∃ ad c, v = .slice ad n c) ∧ (Builtin.firstCells sz n v).run P w' = .ok xs.toArray w' := by
  obtain ⟨ad, c, xs, rfl, h1, h2, h3, h4, h5⟩ := he.say μ w v hr hv
  refine ⟨xs, h1, h2, h3, ⟨ad, c, rfl⟩, ?_⟩
  cases ad with
  | none =>
    obtain ⟨rfl, rfl⟩ := h4 rfl
    have : xs = [] := by simpa using h1
    subst this
    simp [Builtin.firstCells]
  | some a =>
    have hc : ∀ j y, xs[j]? = some y → w'.cell? (a.add j) = some y := fun j y hj => by
      have := h5 a rfl j y hj
      unfold World.cell? at this ⊢
      rw [hw]; exact this
    rw [run_firstCells_some (P := P) w' sz n a n c xs h1 hc]

/-! ### append -/

def bound47 : Nat := 140737488355328

noncomputable def appK (s x : AV) (sz bytes : Nat) (h : H) (k : AV → H → Res) : Res :=
  elemsK x sz h fun news n => isEz s (iteK (Nat.beq n 0) (k .ez h) (.fail 67)) <|
    isSl s (fun b o len cap st => forceN (Nat.add len n) fun need =>
        iteK (Nat.ble need cap) (forceN (Nat.add o (Nat.mul len sz)) fun p => forceN (Nat.mul n sz) fun q => storeK news b p q h fun h' => k (.sl b o need cap st) h')
          (iteK (Nat.ble need top63) (iteK (Nat.ble (Nat.mul need bytes) bound47)
            (elemsK s sz h fun olds _ => putsK olds 0 .nil fun i t => putsK news i t fun m t =>
              Nat.rec (motive := fun _ => Res) (newK h (.row m t .u) fun b' h' => k (.sl b' 0 need need (Nat.succ sz)) h')
                (fun st1 _ => iteK (Nat.beq st1 sz) (iteK (Nat.beq o 0) (delK h b fun h1 => newK h1 (.row m t .u) fun b' h' => k (.sl b' 0 need need (Nat.succ sz)) h') (.fail 67)) (.fail 67)) st)
            (.fail 67)) (.fail 67)))
      (Nat.rec (motive := fun _ => Res) (k .ns h) (fun _ _ => iteK (Nat.ble n top63) (iteK (Nat.ble (Nat.mul n bytes) bound47) (newRowK news h fun b' _ h' => k (.sl b' 0 n n (Nat.succ sz)) h') (.fail 68)) (.fail 68)) n)

/-- What append comes to. -/
def AppS (P : Program) (t : TypeId) (s x : AV) (h : H) (v : AV) (h' : H) : Prop :=
  ∀ μ w vs vx, HR μ h w → VR μ h.nx w s vs → VR μ h.nx w x vx → ∃ μ' v' w', (∀ ty, (Builtin.append_ #[t, t] ty #[vs, vx]).run P w = .ok v' w') ∧ Ext μ h w μ' h' w' ∧ HR μ' h' w' ∧ VR μ' h'.nx w' v v'

section
variable {P : Program} {t el : TypeId} {i : TypeInfo} {z : Value}

theorem run_app_in (ht : P.underlying t = some (.slice el)) (hi : P.info? el = some i) {a : Addr} {len c n : Nat} {vx : Value} {news : List Value} {w w' : World} (hx : ∃ ad c', vx = .slice ad n c') (hle : len + n ≤ c)
    (hf : (Builtin.firstCells i.size n vx).run P w = .ok news.toArray w) (hs : (storeCells (a.add (len * i.size)) news).run P w = .ok () w') (ty : TypeId) :
    (Builtin.append_ #[t, t] ty #[.slice (some a) len c, vx]).run P w = .ok (.slice (some a) (len + n) c) w' := by
  obtain ⟨ad, c', rfl⟩ := hx
  simp [Builtin.append_, run_underlying ht, sizeOf, typeInfo, hi, Builtin.lenOf, hle, hf, hs]

theorem run_app_grow (ht : P.underlying t = some (.slice el)) (hi : P.info? el = some i) (hz : i.zero = some z) {base : Option Addr} {len c n : Nat} {vx : Value} {olds news : List Value} {w : World} (hx : ∃ ad c', vx = .slice ad n c')
    (hlt : c < len + n) (h63 : len + n ≤ 9223372036854775807) (hb : (len + n) * i.bytes ≤ 140737488355328) (hfo : (Builtin.firstCells i.size len (.slice base len c)).run P w.drew = .ok olds.toArray w.drew)
    (hf : (Builtin.firstCells i.size n vx).run P w.drew = .ok news.toArray w.drew) (ty : TypeId) :
    (Builtin.append_ #[t, t] ty #[.slice base len c, vx]).run P w =
      .ok (.slice (some ⟨w.heap.size, 0, none⟩) (len + n) (grownCap w (len + n) c el)) (w.drew.alloc (.cells (olds ++ news ++ (Builtin.zeroCells z.cells (grownCap w (len + n) c el - (len + n))).toList).toArray el)) := by
  obtain ⟨ad, c', rfl⟩ := hx
  have hn : ¬ (len + n ≤ c) := by omega
  have h63' : ¬ (9223372036854775807 < ((len : Int) + (n : Int))) := by omega
  have hfit := growslice_fits (old := c) (need := len + n) (bytes := i.bytes) hlt hb
  have h48' : ¬ (281474976710656 < Builtin.nextslicecap (len + n) c * i.bytes) := by omega
  simp [Builtin.append_, run_underlying ht, sizeOf, typeInfo, zeroValue, hi, hz, Builtin.lenOf, hn, h63', h48', Question.forced, hf, hfo, newRow, grownCap]
  congr 2
  apply Array.ext'
  simp

theorem grownCap_le (w : World) (need old : Nat) (e : TypeId) : need ≤ grownCap w need old e := by unfold grownCap Question.cut; exact Nat.le_add_right _ _

theorem zeroCells_size (zs : Array Value) (n : Nat) : (Builtin.zeroCells zs n).size = n * zs.size := by simp [Builtin.zeroCells]

/-- The row that growing makes, with what is known of it. -/
theorem grown_made {μ : Nat → Nat} {h : H} {w : World} (hr : HR μ h w) {olds news : List Value} {lo ln : AV} {n1 n2 m : Nat} {t1 t2 : PT AV} {t' : PT AO} {rest : List Value} {need cap st1 : Nat}
    (hlo : VRL μ h.nx w lo olds) (hln : VRL μ h.nx w ln news) (h1 : ∀ y ∈ olds, y.oneCell' = true) (h2 : ∀ y ∈ news, y.oneCell' = true)
    (ht1 : ∀ μ nx w vs, VRL μ nx w lo vs → n1 = 0 + vs.length ∧ ∀ (f : Nat → Value) (S : Nat → Prop), (∀ j, S j → VR μ nx w (((PT.nil : PT AV).get j).getD .u) (f j)) → ∀ j, (S j ∨ (0 ≤ j ∧ j < n1)) → VR μ nx w ((t1.get j).getD .u) (ov 0 vs f j))
    (ht2 : ∀ μ nx w vs, VRL μ nx w ln vs → n2 = n1 + vs.length ∧ ∀ (f : Nat → Value) (S : Nat → Prop), (∀ j, S j → VR μ nx w ((t1.get j).getD .u) (f j)) → ∀ j, (S j ∨ (n1 ≤ j ∧ j < n2)) → VR μ nx w ((t2.get j).getD .u) (ov n1 vs f j))
    (hm : m = n2) (ht : ∀ j, t'.get j = if j = h.nx then some (.row m t2 .u) else h.t.get j) (hcap : need ≤ cap) (hroom : cap * st1 ≤ (olds ++ news ++ rest).length) :
    Ext μ h w (setμ μ h.nx w.heap.size) ⟨t', h.nx + 1⟩ (w.drew.alloc (.cells (olds ++ news ++ rest).toArray el)) ∧ HR (setμ μ h.nx w.heap.size) ⟨t', h.nx + 1⟩ (w.drew.alloc (.cells (olds ++ news ++ rest).toArray el)) ∧
      VR (setμ μ h.nx w.heap.size) (h.nx + 1) (w.drew.alloc (.cells (olds ++ news ++ rest).toArray el)) (.sl h.nx 0 need need (st1 + 1)) (.slice (some ⟨w.heap.size, 0, none⟩) need cap) := by
  obtain ⟨e0, hr0⟩ := Ext.of_heap hr (w' := w.drew) rfl rfl rfl
  obtain ⟨ha, hb⟩ := ht1 μ h.nx w olds hlo
  obtain ⟨hc, hd⟩ := ht2 μ h.nx w news hln
  subst hm
  have hmk := made_row hr0 (xs := (olds ++ news ++ rest).toArray) (E := el) ht (by simp; omega) (fun j hj hj' => by
    have hjl : j < (olds ++ news).length := by simp; omega
    have e1 : (olds ++ news ++ rest).toArray[j] = (olds ++ news)[j] := by simp only [List.getElem_toArray]; exact List.getElem_append_left hjl
    rw [e1]
    constructor
    · have hv := hd (fun j => olds.getD j undef) (fun j => j < n1) (fun j hj => by
        have := hb (fun _ => undef) (fun _ => False) (fun _ hh => hh.elim) j (.inr ⟨Nat.zero_le _, hj⟩)
        unfold ov at this
        rw [if_pos ⟨Nat.zero_le _, by omega⟩] at this
        simpa using this) j (by omega)
      have e2 : ov n1 news (fun j => olds.getD j undef) j = (olds ++ news)[j] := by
        unfold ov
        by_cases hjo : j < olds.length
        · rw [if_neg (by omega), List.getElem_append_left hjo]; simp [hjo]
        · have : j - olds.length < news.length := by omega
          rw [if_pos ⟨by omega, by omega⟩, List.getElem_append_right (by omega), show j - n1 = j - olds.length by omega]; simp [this]
      rw [e2] at hv
      exact hv.mono (fun _ _ => rfl) (Nat.le_refl _) e0.shape
    · have : (olds ++ news)[j] ∈ olds ++ news := List.getElem_mem _
      rcases List.mem_append.1 this with hh | hh
      · exact h1 _ hh
      · exact h2 _ hh)
  have hsz : w.drew.heap.size = w.heap.size := rfl
  rw [hsz] at hmk
  refine ⟨e0.trans hmk.1, hmk.2, Nat.lt_succ_self _, Nat.le_refl _, cap, by rw [setμ_same], by simp, fun _ => ⟨hcap, el, (olds ++ news ++ rest).length, ?_, ?_⟩⟩
  · rw [setμ_same]
    unfold World.shape?
    rw [show w.heap.size = w.drew.heap.size from rfl, heap_alloc_new]; simp
  · simp only [Nat.zero_add, Nat.add_sub_cancel]; exact hroom

theorem appK_good (ht : P.underlying t = some (.slice el)) (hi : P.info? el = some i) (hz : i.zero = some z) (hzs : z.cells.size = i.size) {s x : AV} {h : H} {k : AV → H → Res} (hg : (appK s x i.size i.bytes h k).good) :
    ∃ v h', AppS P t s x h v h' ∧ (k v h').good := by
  unfold appK at hg
  obtain ⟨news, n, hn, hg⟩ := elemsK_good hg
  rcases isEz_good hg with ⟨rfl, hg⟩ | hg
  · obtain ⟨hn0, hg⟩ := iteK_good hg
    have hn0 : n = 0 := Nat.eq_of_beq_eq_true hn0
    subst hn0
    refine ⟨.ez, h, fun μ w vs vx hr hvs hvx => ?_, hg⟩
    obtain ⟨xs, hx1, hx2, hx3, hx4, hx5⟩ := elems_first (P := P) hn hr hvx (w' := w) rfl
    obtain ⟨a, c, rfl⟩ := hvs
    have : xs = [] := by simpa using hx1
    subst this
    exact ⟨μ, .slice (some a) 0 c, w, fun ty => run_app_in (len := 0) (n := 0) ht hi hx4 (Nat.zero_le _) hx5 rfl ty, Ext.refl μ h w hr, hr, a, c, rfl⟩
  rcases isSl_good hg with ⟨b, o, len, cap, st, rfl, hg1⟩ | ⟨rfl, hg1⟩
  · rw [forceN_eq, iteK_eq] at hg1
    split at hg1
    · rename_i hle
      have hle : len + n ≤ cap := Nat.le_of_ble_eq_true hle
      rw [forceN_eq, forceN_eq] at hg1
      obtain ⟨h', hs, hnx, hg2⟩ := storeK_good hg1
      refine ⟨_, h', fun μ w vs vx hr hvs hvx => ?_, hg2⟩
      obtain ⟨hlt, hlc, c, rfl, h0, h1⟩ := hvs
      have hcc : cap ≤ c := by
        by_cases hst : st = 0
        · exact Nat.le_of_eq (h0 hst).symm
        · exact (h1 hst).1
      obtain ⟨xs, hx1, hx2, hx3, hx4, hx5⟩ := elems_first (P := P) hn hr hvx (w' := w) rfl
      obtain ⟨_, w', hw1, hw2, hw3⟩ := hs P μ w xs hr hx2 hx3
      refine ⟨μ, .slice (some ⟨μ b, o, none⟩) (len + n) c, w', fun ty => run_app_in ht hi hx4 (by omega) hx5 (by rw [Addr.add_lit]; exact hw1) ty, hw2, hw3, ?_, hle, c, rfl, h0, fun hst => ?_⟩
      · rw [hnx]; exact hlt
      · obtain ⟨h2, E, m, h3, h4⟩ := h1 hst
        exact ⟨h2, E, m, hw2.shape _ _ h3, h4⟩
    · rename_i hle
      have hle : ¬ len + n ≤ cap := fun hh => hle (Nat.ble_eq_true_of_le hh)
      obtain ⟨h63, hg2⟩ := iteK_good hg1
      obtain ⟨h47, hg3⟩ := iteK_good hg2
      have h63 : len + n ≤ 9223372036854775807 := Nat.le_of_ble_eq_true h63
      have h47 : (len + n) * i.bytes ≤ 140737488355328 := Nat.le_of_ble_eq_true h47
      obtain ⟨olds, n0, ho, hg4⟩ := elemsK_good hg3
      obtain ⟨n1, t1, ht1, hg5⟩ := putsK_good (df := .u) hg4
      obtain ⟨n2, t2, ht2, hg6⟩ := putsK_good (df := .u) hg5
      have room : ∀ (xs ys : List Value) (cp : Nat), xs.length = len * i.size → ys.length = n * i.size → len + n ≤ cp →
          cp * i.size ≤ (xs ++ ys ++ (Builtin.zeroCells z.cells (cp - (len + n))).toList).length := by
        intro xs ys cp h1 h2 h3
        simp only [List.length_append, h1, h2, Array.length_toList, zeroCells_size, hzs]
        rw [← Nat.add_mul, ← Nat.add_mul]
        exact Nat.mul_le_mul_right _ (by omega)
      cases st with
      | zero =>
        have hg6 : (newK h (.row n2 t2 .u) fun b' h' => k (.sl b' 0 (len + n) (len + n) (Nat.succ i.size)) h').good := hg6
        obtain ⟨t', ht', hg7⟩ := newK_good hg6
        refine ⟨_, _, fun μ w vs vx hr hvs hvx => ?_, hg7⟩
        obtain ⟨xs, hx1, hx2, hx3, hx4, hx5⟩ := elems_first (P := P) hn hr hvx (w' := w.drew) rfl
        obtain ⟨ys, hy1, hy2, hy3, hy4, hy5⟩ := elems_first (P := P) ho hr hvs (w' := w.drew) rfl
        obtain ⟨hlt, hlc, c, rfl, h0, _⟩ := hvs
        have hcc := h0 rfl
        obtain ⟨ad, c0, he⟩ := hy4
        cases he
        have hrun := fun ty => run_app_grow ht hi hz hx4 (by omega) h63 h47 hy5 hx5 ty
        exact ⟨_, _, _, hrun, grown_made hr hy2 hx2 hy3 hx3 ht1 ht2 rfl ht' (grownCap_le _ _ _ _) (room ys xs _ hy1 hx1 (grownCap_le _ _ _ _))⟩
      | succ st1 =>
        have hg6 : (iteK (Nat.beq st1 i.size) (iteK (Nat.beq o 0) (delK h b fun h1 => newK h1 (.row n2 t2 .u) fun b' h' => k (.sl b' 0 (len + n) (len + n) (Nat.succ i.size)) h') (.fail 67)) (.fail 67)).good := hg6
        obtain ⟨hst, hg7⟩ := iteK_good hg6
        obtain ⟨ho0, hg8⟩ := iteK_good hg7
        have hst : st1 = i.size := Nat.eq_of_beq_eq_true hst
        have ho0 : o = 0 := Nat.eq_of_beq_eq_true ho0
        subst hst; subst ho0
        obtain ⟨td, htd, hg9⟩ := delK_good hg8
        obtain ⟨t', ht', hg10⟩ := newK_good hg9
        refine ⟨_, _, fun μ w vs vx hr hvs hvx => ?_, hg10⟩
        obtain ⟨hrd, hed⟩ := hr.del htd
        by_cases hroomc : ∃ c, vs = .slice (some ⟨μ b, 0, none⟩) len c ∧ len + n ≤ c
        · -- in place
          obtain ⟨c, rfl, hnc⟩ := hroomc
          obtain ⟨xs, hx1, hx2, hx3, hx4, hx5⟩ := elems_first (P := P) hn hr hvx (w' := w) rfl
          obtain ⟨ad, c0, ys, hy0, hy1, hy2, hy3, hy4, hy5⟩ := ho.say μ w _ hr hvs
          cases hy0
          obtain ⟨hlt, hlc, c', hc', _, h1⟩ := hvs
          cases hc'
          obtain ⟨hcc, E, M, hsh, hM⟩ := h1 (by simp)
          simp only [Nat.zero_add, Nat.add_sub_cancel] at hM
          -- the row
          have hbrow : ∃ m0 t0 df0, h.t.get b = some (.row m0 t0 df0) := by
            unfold elemsK at hg3
            rcases isEz_good hg3 with ⟨e, _⟩ | hg3
            · cases e
            rcases isSl_good hg3 with ⟨b', o', l', c', st', e, hh⟩ | ⟨e, _⟩
            · cases e
              obtain ⟨ao, ha, hh⟩ := atK_good hh
              obtain ⟨m, t, df, e, _⟩ := rowK_good hh
              exact ⟨m, t, df, by rw [ha, e]⟩
            · cases e
          obtain ⟨m0, t0, df0, hb⟩ := hbrow
          obtain ⟨cs, E', fz, hcs, hfz, hmle, hcv⟩ := hr.row hb
          have hM' : M = cs.size ∧ E = E' := by
            unfold World.shape? at hsh
            rw [hcs] at hsh
            simp only [Option.some.injEq, Prod.mk.injEq] at hsh
            exact ⟨hsh.2.symm, hsh.1.symm⟩
          obtain ⟨rfl, rfl⟩ := hM'
          have hfit : len * i.size + xs.length ≤ cs.size := by
            rw [hx1, ← Nat.add_mul]
            exact Nat.le_trans (Nat.mul_le_mul_right _ hnc) hM
          have hst := run_storeRow (P := P) (o := len * i.size) xs 0 cs w hcs hfz (by omega) hx3
          have hrun := fun ty => run_app_in (P := P) (a := ⟨μ b, 0, none⟩) ht hi hx4 hnc hx5 (by rw [Addr.add_lit, Nat.zero_add]; exact hst) ty
          simp only [Nat.add_zero] at hrun
          obtain ⟨ha1, hb1⟩ := ht1 μ h.nx w ys hy2
          obtain ⟨hc1, hd1⟩ := ht2 μ h.nx w xs hx2
          have hspl : (spl cs.toList (len * i.size) xs).length = cs.size := by rw [spl_length _ _ _ (by simpa using hfit)]; simp
          have hret := retarget hr hb (m := n2) (t := t2) (df := .u) (t' := t') (cs' := (spl cs.toList (len * i.size) xs).toArray) (fun j => by
              rw [ht' j]
              simp only
              by_cases e : j = h.nx
              · rw [if_pos e, if_pos e]
              · rw [if_neg e, if_neg e, htd j]) hcs hfz (by simp [hspl]) (by simp [hspl]; omega) (fun j hj hj' => by
              have hjc : j < cs.toList.length := by simp [hspl] at hj'; simpa using hj'
              have hget := spl_ov (xs := cs.toList) (o := len * i.size) (ys := xs) (by simpa using hfit) hjc
              simp only [List.getElem_toArray]
              rw [List.getElem?_eq_some_iff] at hget
              obtain ⟨_, hget⟩ := hget
              rw [hget]
              have hys : ∀ j (hj : j < ys.length), cs.toList.getD j undef = ys[j] := fun j hj => by
                have h5 := hy5 ⟨μ b, 0, none⟩ rfl j ys[j] (by simp [hj])
                rw [Addr.add_lit, Nat.zero_add] at h5
                unfold World.cell? at h5
                rw [hcs] at h5
                simp only [Option.isSome_none, Bool.false_eq_true, if_false] at h5
                simp only [List.getD_eq_getElem?_getD, Array.getElem?_toList, h5, Option.getD_some]
              constructor
              · have hv := hd1 (fun j => ys.getD j undef) (fun j => j < n1) (fun j hj => by
                  have := hb1 (fun _ => undef) (fun _ => False) (fun _ hh => hh.elim) j (.inr ⟨Nat.zero_le _, hj⟩)
                  unfold ov at this
                  rw [if_pos ⟨Nat.zero_le _, by omega⟩] at this
                  simpa using this) j (by omega)
                have e2 : ov n1 xs (fun j => ys.getD j undef) j = ov (len * i.size) xs (fun j => cs.toList.getD j undef) j := by
                  have : n1 = len * i.size := by omega
                  rw [this]
                  unfold ov
                  split
                  · rfl
                  · have hjl : j < ys.length := by omega
                    show ys.getD j undef = cs.toList.getD j undef
                    rw [hys j hjl]; simp [hjl]
                rw [e2] at hv
                exact hv
              · unfold ov
                split
                · have : j - len * i.size < xs.length := by omega
                  simp only [List.getD_eq_getElem?_getD, List.getElem?_eq_getElem this, Option.getD_some]
                  exact hx3 _ (List.getElem_mem _)
                · have hjl : j < ys.length := by omega
                  show (cs.toList.getD j undef).oneCell' = true
                  rw [hys j hjl]; exact hy3 _ (List.getElem_mem _))
          refine ⟨_, _, _, hrun, hret.1, hret.2, Nat.lt_succ_self _, Nat.le_refl _, c, by rw [setμ_same], by simp, fun _ => ⟨hnc, E, cs.size, ?_, ?_⟩⟩
          · rw [setμ_same]; exact hret.1.shape _ _ hsh
          · simp only [Nat.zero_add, Nat.succ_eq_add_one, Nat.add_sub_cancel]; exact hM
        · obtain ⟨xs, hx1, hx2, hx3, hx4, hx5⟩ := elems_first (P := P) hn hr hvx (w' := w.drew) rfl
          obtain ⟨ys, hy1, hy2, hy3, hy4, hy5⟩ := elems_first (P := P) ho hr hvs (w' := w.drew) rfl
          obtain ⟨hlt, hlc, c, rfl, _, h1⟩ := hvs
          obtain ⟨ad, c0, he⟩ := hy4
          cases he
          have hcn : c < len + n := Nat.lt_of_not_le fun hh => hroomc ⟨c, rfl, hh⟩
          have hrun := fun ty => run_app_grow ht hi hz hx4 hcn h63 h47 hy5 hx5 ty
          have hgm := grown_made (el := el) (h := ⟨td, h.nx⟩) hrd hy2 hx2 hy3 hx3 ht1 ht2 rfl ht' (grownCap_le w _ c el) (room ys xs _ hy1 hx1 (grownCap_le _ _ _ _))
          exact ⟨_, _, _, hrun, hed.trans hgm.1, hgm.2.1, hgm.2.2⟩
  · cases n with
    | zero =>
      refine ⟨.ns, h, fun μ w vs vx hr hvs hvx => ?_, hg1⟩
      obtain ⟨xs, hx1, hx2, hx3, ⟨ad, c, rfl⟩, hx5⟩ := elems_first (P := P) hn hr hvx (w' := w) rfl
      refine ⟨μ, .slice none 0 0, w, fun ty => ?_, Ext.refl μ h w hr, hr, rfl⟩
      rw [show vs = .slice none 0 0 from hvs]
      simp [Builtin.append_, run_underlying ht, sizeOf, typeInfo, hi, Builtin.lenOf, hx5]
    | succ n =>
      have hg1 : (iteK (Nat.ble (n + 1) top63) (iteK (Nat.ble (Nat.mul (n + 1) i.bytes) bound47) (newRowK news h fun b' _ h' => k (.sl b' 0 (n + 1) (n + 1) (Nat.succ i.size)) h') (.fail 68)) (.fail 68)).good := hg1
      obtain ⟨h63, hg2⟩ := iteK_good hg1
      obtain ⟨h47, hg3⟩ := iteK_good hg2
      have h63 : n + 1 ≤ 9223372036854775807 := Nat.le_of_ble_eq_true h63
      have h47 : (n + 1) * i.bytes ≤ 140737488355328 := Nat.le_of_ble_eq_true h47
      obtain ⟨m, t1, ht1, hg4⟩ := putsK_good (df := .u) hg3
      obtain ⟨t', ht', hg5⟩ := newK_good hg4
      refine ⟨_, _, fun μ w vs vx hr hvs hvx => ?_, hg5⟩
      obtain ⟨xs, hx1, hx2, hx3, hx4, hx5⟩ := elems_first (P := P) hn hr hvx (w' := w.drew) rfl
      have hvs : vs = .slice none 0 0 := hvs
      subst hvs
      have hrun := fun ty => run_app_grow (P := P) (w := w) (base := none) (len := 0) (c := 0) (olds := []) ht hi hz hx4 (by omega) (by omega) (by simpa using h47) (by simp [Builtin.firstCells]) hx5 ty
      have hgm := grown_made (el := el) (lo := .nil) (olds := []) (n1 := 0) (t1 := .nil) hr rfl hx2 (by simp) hx3
        (fun μ nx w vs hv => by rw [VRL_nil] at hv; subst hv; exact ⟨rfl, fun f S hf j hj => by
          unfold ov; rw [if_neg (by rintro ⟨h1, h2⟩; simp at h2)]; exact hf j (hj.resolve_right (by omega))⟩)
        (fun μ nx w vs hv => by have := ht1 μ nx w vs hv; exact this) rfl ht' (grownCap_le w (0 + (n + 1)) 0 el) (st1 := i.size) (rest := (Builtin.zeroCells z.cells (grownCap w (0 + (n + 1)) 0 el - (0 + (n + 1)))).toList) (by
          simp only [List.length_append, List.length_nil, hx1, Array.length_toList, zeroCells_size, hzs]
          rw [Nat.zero_add, Nat.zero_add, ← Nat.add_mul]
          exact Nat.mul_le_mul_right _ (by have := grownCap_le w (n + 1) 0 el; omega))
      simp only [Nat.zero_add] at hrun hgm
      exact ⟨_, _, _, hrun, hgm⟩

end
end Go.Ev
