/-
  An abstract evaluator for Go code under the model: a free choice of the model's own: a truth that is stored twice, in whatever order, and then read.
-/
import Derived.Test.YtceplogmemkblaaGreatEvSb
namespace Go.Ev

section
variable {P : Program} {ops : Array Oper} {Q : Exit → Act → World → Prop}

/-- What holds at the start, and behind each operation that comes up, holds at the end. -/
theorem wpAny_inv (I : Array Bool → Act → World → Prop) (step : ∀ listed a w j, listed.size = ops.size → I listed a w → j ∈ Region.ready .any ops listed → wpOp P ops Q j (fun a' w' => I (listed.setIfInBounds j true) a' w') a w)
    (fin : ∀ listed a w, listed.size = ops.size → I listed a w → Region.ready .any ops listed = [] → Q .normal a w) :
    ∀ (fuel : Nat) (listed : Array Bool) (a : Act) (w : World), listed.size = ops.size → unl ops.size listed ≤ fuel → I listed a w → wpAny P .any ops Q fuel listed a w := by
  intro fuel
  induction fuel with
  | zero =>
    intro listed a w hsz hu hI
    have hr : Region.ready .any ops listed = [] := by
      apply List.eq_nil_iff_forall_not_mem.2
      intro j hj
      obtain ⟨h1, o, ho, _⟩ := mem_ready.1 hj
      have : 0 < unl ops.size listed := List.length_pos_of_mem (List.mem_filter.2 ⟨List.mem_range.2 (lt_of_some ho), by rw [h1]; rfl⟩)
      omega
    exact ⟨hr, fin listed a w hsz hI hr⟩
  | succ fuel ih =>
    intro listed a w hsz hu hI
    refine ⟨fun hr => fin listed a w hsz hI hr, fun j hj => wpOp_mono (fun a' w' hI' => ih _ a' w' (by simpa using hsz) ?_ hI') (step listed a w j hsz hI hj)⟩
    obtain ⟨h1, o, ho, _⟩ := mem_ready.1 hj
    have := unl_set hsz (lt_of_some ho) h1
    omega

def hasEdge (o : Oper) (k : Nat) : Bool := o.after.toList.any fun e => Region.binds .any e && e.on == k
theorem hasEdge_listed {listed : Array Bool} {j k : Nat} {o : Oper} (ho : ops[j]? = some o) (hr : j ∈ Region.ready .any ops listed) (h : hasEdge o k = true) : Ls listed k := by
  obtain ⟨_, o', ho', hall⟩ := mem_ready.1 hr
  rw [ho] at ho'; cases ho'
  obtain ⟨e, he, hb⟩ := List.any_eq_true.1 h
  rw [Bool.and_eq_true, beq_iff_eq] at hb
  have := hall e (by simpa using he) hb.1
  rw [hb.2] at this; exact this

def isBoolV : Option Value → Bool
  | some (.bool _) => true
  | _ => false

def flipB (P : Program) (nt : Nat) (ops : Array Oper) : Option (Ix × Ix) :=
  match ops.toList with
  | [o0, o1, o2, o3] =>
    match o0.op, o1.op, o2.op, o3.op, o0.dst, o3.dst with
    | .alloc t, .store t1 (.tmp x1) (.const (.bool _)), .store t2 (.tmp x2) (.const (.bool _)), .load t3 (.tmp x3), some d, some d' =>
      if (t1 == t && t2 == t && t3 == t && x1 == d && x2 == d && x3 == d && d != d' && decide (d < nt) && decide (d' < nt)) && (o0.guard.isNone && o1.guard.isNone && o2.guard.isNone && o3.guard.isNone && o1.dst.isNone && o2.dst.isNone) &&
          (hasEdge o1 0 && hasEdge o2 0 && hasEdge o3 0 && hasEdge o3 1 && hasEdge o3 2) && (o0.after.toList.all (fun e => !Region.binds .any e)) && (o1.after.toList.all (fun e => !Region.binds .any e || e.on == 0)) &&
          (o2.after.toList.all (fun e => !Region.binds .any e || decide (e.on < 2))) && (o3.after.toList.all (fun e => !Region.binds .any e || decide (e.on < 3))) &&
          (isBoolV (zeroOf P t) && (aggOf P t == some false) && (szOf P t == some 1)) then
        match ixOf d, ixOf d' with
        | some i, some i' => some (i, i')
        | _, _ => none
      else none
    | _, _, _, _, _, _ => none
  | _ => none

theorem setW_alloc (w : World) (x y : Obj) : setW (w.alloc x) w.heap.size y = w.alloc y := by
  unfold setW World.alloc
  congr 1
  apply Array.ext'
  simp [List.set_append_right]

theorem flip_wp (hmix : P.follows .mixedOrders = true) {nt id : Nat} {i1 i2 : Ix} (hf : flipB P nt ops = some (i1, i2)) {μ : Nat → Nat} {e : Env} {h : H} {a : Act} {w : World} (s : SR nt μ e h a w)
    (hQ : ∀ v a' w', Ext μ h w μ h w' → SR nt μ ((e.set i1 .u).set i2 .u) h a' w' → a'.eval (.tmp i2.toNat) = .bool v → Q .normal a' w') : (Code.region id ops true).wp P Q a w := by
  unfold flipB at hf
  split at hf
  · rename_i o0 o1 o2 o3 hops
    split at hf
    · rename_i t t1 x1 b1 t2 x2 b2 t3 x3 d d' p0 p1 p2 p3 pd pd'
      split at hf
      · rename_i hc
        split at hf
        · rename_i i1 i2 hi1 hi2
          cases hf
          simp only [Bool.and_eq_true, beq_iff_eq, bne_iff_ne, decide_eq_true_eq, Option.isNone_iff_eq_none] at hc
          obtain ⟨⟨⟨⟨⟨⟨⟨hA, hB⟩, hC⟩, k0⟩, k1⟩, k2⟩, k3⟩, hZ⟩ := hc
          obtain ⟨⟨⟨⟨⟨⟨⟨⟨rfl, rfl⟩, rfl⟩, rfl⟩, rfl⟩, rfl⟩, hne⟩, hd⟩, hd'⟩ := hA
          obtain ⟨⟨⟨⟨⟨g0, g1⟩, g2⟩, g3⟩, n1⟩, n2⟩ := hB
          obtain ⟨⟨⟨⟨e1, e2⟩, e30⟩, e31⟩, e32⟩ := hC
          obtain ⟨⟨hz, hag⟩, hsz⟩ := hZ
          have hops' : ops = #[o0, o1, o2, o3] := by apply Array.ext'; rw [hops]
          subst hops'
          obtain ⟨zb, hzb⟩ : ∃ zb, zeroOf P t3 = some (.bool zb) := by
            cases hzz : zeroOf P t3 with
            | none => rw [hzz] at hz; cases hz
            | some v => cases v <;> first | exact ⟨_, rfl⟩ | (rw [hzz] at hz; cases hz)
          have hi1 := ixOf_toNat hi1
          have hi2 := ixOf_toNat hi2
          refine wp_region_any hmix ?_
          let w1 : World := { w with drawn := w.drawn + 1 }
          let ptr : Value := .pointer (some ⟨w1.heap.size, 0, none⟩)
          let W : Bool → World := fun v => w1.alloc (.cells #[.bool v] t3)
          let I : Array Bool → Act → World → Prop := fun l a' w' =>
            (¬ Ls l 0 ∧ ¬ Ls l 1 ∧ ¬ Ls l 2 ∧ ¬ Ls l 3 ∧ a' = a ∧ w' = w1) ∨
            (Ls l 0 ∧ ¬ Ls l 3 ∧ ∃ v, a' = a.put (some x3) ptr ∧ w' = W v) ∨
            (Ls l 0 ∧ Ls l 1 ∧ Ls l 2 ∧ Ls l 3 ∧ ∃ v v', a' = (a.put (some x3) ptr).put (some d') (.bool v) ∧ w' = W v')
          have hcell : ∀ v, (W v).heap[w1.heap.size]? = some (.cells #[.bool v] t3) := fun v => heap_alloc_new _ _
          have hptr : (a.put (some x3) ptr).eval (.tmp x3) = ptr := by
            show (a.put (some x3) ptr).tmps.getD x3 undef = ptr
            rw [put_getD a ptr (by rw [s.size]; exact hd), if_pos rfl]
          have hstore : ∀ (o : Oper) (b : Bool) (v : Bool), o.op = .store t3 (.tmp x3) (.const (.bool b)) → (execOp (a.put (some x3) ptr).eval o).run P (W v) = .ok .skip (W b) := by
            intro o b v ho
            simp only [execOp, ho]
            refine run_u ?_
            rw [hptr]
            simp only [Instr.storeAt, Instr.sureAddr, storeVar, Sem.run_bind, Sem.run_pure, Result.andThen_ok, run_szOf hsz, ptr]
            rw [if_neg (by simp [Act.eval, Value.cells])]
            have := run_storeRow (P := P) (g := w1.heap.size) (o := 0) (E := t3) (fz := (0, 0)) [.bool b] 0 #[.bool v] (W v) (hcell v) (fun i _ => by omega) (by simp) (by simp [Value.oneCell'])
            have e2 : (spl [Value.bool v] (0 + 0) [Value.bool b]).toArray = #[.bool b] := rfl
            rw [show (#[Value.bool v] : Array Value).toList = [Value.bool v] from rfl, e2, setW_alloc] at this
            exact this
          refine wpAny_inv I (fun l a' w' j hl hI hr => ?_) (fun l a' w' hl hI hr => ?_) _ _ _ _ (by simp) (Nat.le_trans (List.length_filter_le _ _) (by simp)) ?_
          · -- one comes up
            obtain ⟨hnl0, o, ho, hall⟩ := mem_ready.1 hr
            have hj4 : j < 4 := lt_of_some ho
            have hjl : j < l.size := by rw [hl]; exact hj4
            have hnl : ¬ Ls l j := by
              unfold Ls
              have : l.getD j false = l.getD j true := by simp [hjl]
              rw [this, hnl0]; simp
            have hset : ∀ k, Ls (l.setIfInBounds j true) k ↔ k = j ∨ Ls l k := fun k => Ls_set hjl
            unfold wpOp
            simp only [ho]
            rcases hI with ⟨l0, l1, l2, l3, rfl, rfl⟩ | ⟨l0, l3, v, rfl, rfl⟩ | ⟨l0, l1, l2, l3, _⟩
            · have hj0 : j = 0 := by
                match j, hj4, ho with
                | 0, _, _ => rfl
                | 1, _, ho => cases ho; exact absurd (hasEdge_listed rfl hr e1) l0
                | 2, _, ho => cases ho; exact absurd (hasEdge_listed rfl hr e2) l0
                | 3, _, ho => cases ho; exact absurd (hasEdge_listed rfl hr e30) l0
              subst hj0
              have : o = o0 := by simpa using ho.symm
              subst this
              rw [if_pos (by simp [Region.wanted, g0])]
              refine .inl ?_
              unfold Oper.wp
              have hrun : (execOp a'.eval o).run P w1 = .ok (.value ptr) (W zb) := by
                simp only [execOp, p0]
                refine run_v ?_
                simp [Instr.alloc, run_zeroOf hzb, newVar, newRow, Value.cells, W, ptr]
              rw [hrun, Oper.upon_value, pd]
              refine .inr (.inl ⟨(hset 0).2 (.inl rfl), fun h => ?_, zb, rfl, rfl⟩)
              rcases (hset 3).1 h with h | h
              · omega
              · exact l3 h
            · match j, hj4, ho with
              | 0, _, _ => exact absurd l0 hnl
              | 1, _, ho =>
                have : o = o1 := by simpa using ho.symm
                subst this
                rw [if_pos (by simp [Region.wanted, g1])]
                refine .inl ?_
                unfold Oper.wp
                rw [hstore o b1 v p1, Oper.upon_skip, n1]
                refine .inr (.inl ⟨(hset 0).2 (.inr l0), fun h => ?_, b1, rfl, rfl⟩)
                rcases (hset 3).1 h with h | h
                · omega
                · exact l3 h
              | 2, _, ho =>
                have : o = o2 := by simpa using ho.symm
                subst this
                rw [if_pos (by simp [Region.wanted, g2])]
                refine .inl ?_
                unfold Oper.wp
                rw [hstore o b2 v p2, Oper.upon_skip, n2]
                refine .inr (.inl ⟨(hset 0).2 (.inr l0), fun h => ?_, b2, rfl, rfl⟩)
                rcases (hset 3).1 h with h | h
                · omega
                · exact l3 h
              | 3, _, ho =>
                have : o = o3 := by simpa using ho.symm
                subst this
                rw [if_pos (by simp [Region.wanted, g3])]
                refine .inl ?_
                unfold Oper.wp
                have hrun : (execOp (a.put (some x3) ptr).eval o).run P (W v) = .ok (.value (.bool v)) (W v) := by
                  simp only [execOp, p3]
                  refine run_v ?_
                  rw [hptr]
                  simp only [Instr.loadAt, Instr.sureAddr, loadVar, Sem.run_bind, Sem.run_pure, Result.andThen_ok, run_aggOf hag, Bool.false_eq_true, if_false, ptr]
                  refine run_load_cell ?_
                  unfold World.cell?
                  rw [hcell v]
                  rfl
                rw [hrun, Oper.upon_value, pd']
                have h1 := hasEdge_listed (j := 3) rfl hr e31
                have h2 := hasEdge_listed (j := 3) rfl hr e32
                exact .inr (.inr ⟨(hset 0).2 (.inr l0), (hset 1).2 (.inr h1), (hset 2).2 (.inr h2), (hset 3).2 (.inl rfl), v, v, rfl, rfl⟩)
            · match j, hj4 with
              | 0, _ => exact absurd l0 hnl
              | 1, _ => exact absurd l1 hnl
              | 2, _ => exact absurd l2 hnl
              | 3, _ => exact absurd l3 hnl
          · -- all have come up
            have up : ∀ j o, (#[o0, o1, o2, o3] : Array Oper)[j]? = some o → (∀ e ∈ o.after, Region.binds .any e = true → Ls l e.on) → Ls l j := by
              intro j o ho hall
              by_cases hj : Ls l j
              · exact hj
              · have hjl : j < l.size := by rw [hl]; exact lt_of_some ho
                have : j ∈ Region.ready .any #[o0, o1, o2, o3] l := mem_ready.2 ⟨by
                  unfold Ls at hj
                  have h1 : l.getD j false = l.getD j true := by simp [hjl]
                  rw [h1] at hj
                  simpa using hj, o, ho, hall⟩
                rw [hr] at this; cases this
            have h0 : Ls l 0 := up 0 o0 rfl fun e he hb => by
              have := List.all_eq_true.1 k0 e (by simpa using he)
              rw [hb] at this; cases this
            have h1 : Ls l 1 := up 1 o1 rfl fun e he hb => by
              have := List.all_eq_true.1 k1 e (by simpa using he)
              simp only [hb, Bool.not_true, Bool.false_or, beq_iff_eq] at this
              rw [this]; exact h0
            have h2 : Ls l 2 := up 2 o2 rfl fun e he hb => by
              have := List.all_eq_true.1 k2 e (by simpa using he)
              simp only [hb, Bool.not_true, Bool.false_or, decide_eq_true_eq] at this
              match hh : e.on, this with
              | 0, _ => exact h0
              | 1, _ => exact h1
            have h3 : Ls l 3 := up 3 o3 rfl fun e he hb => by
              have := List.all_eq_true.1 k3 e (by simpa using he)
              simp only [hb, Bool.not_true, Bool.false_or, decide_eq_true_eq] at this
              match hh : e.on, this with
              | 0, _ => exact h0
              | 1, _ => exact h1
              | 2, _ => exact h2
            rcases hI with ⟨l0, _⟩ | ⟨_, l3, _⟩ | ⟨_, _, _, _, v, v', rfl, rfl⟩
            · exact absurd h0 l0
            · exact absurd h3 l3
            · obtain ⟨x0, hr0⟩ := Ext.of_heap s.heap (show w1.heap = w.heap from rfl) rfl rfl
              obtain ⟨x1, hr1⟩ := Ext.idle hr0 (.cells #[.bool v'] t3)
              have hsz1 : (a.put (some x3) ptr).tmps.size = nt := by rw [put_size]; exact s.size
              refine hQ v _ _ (x0.trans x1) ⟨by rw [put_size]; exact hsz1, by rw [put_defers', put_defers']; exact s.defers, fun i => ?_, hr1⟩ ?_
              · rw [put_getD _ _ (by rw [hsz1]; exact hd'), Env.get_set]
                by_cases q1 : i = i2
                · rw [if_pos q1]; trivial
                · rw [if_neg q1, if_neg (fun q => q1 (Ix.toNat_inj (by rw [q, hi2]))), put_getD a _ (by rw [s.size]; exact hd), Env.get_set]
                  by_cases q2 : i = i1
                  · rw [if_pos q2]; trivial
                  · rw [if_neg q2, if_neg (fun q => q2 (Ix.toNat_inj (by rw [q, hi1])))]
                    exact (s.env i).ext (x0.trans x1)
              · show ((a.put (some x3) ptr).put (some d') (.bool v)).tmps.getD i2.toNat undef = .bool v
                rw [hi2, put_getD _ _ (by rw [hsz1]; exact hd'), if_pos rfl]
          · have hno : ∀ j, ¬ Ls (Array.replicate (#[o0, o1, o2, o3] : Array Oper).size false) j := by
              intro j hj
              have := hj.lt
              unfold Ls at hj
              simp at this
              simp [this] at hj
            exact .inl ⟨hno 0, hno 1, hno 2, hno 3, rfl, rfl⟩
        · cases hf
      · cases hf
    · cases hf
  · cases hf
end

end Go.Ev
