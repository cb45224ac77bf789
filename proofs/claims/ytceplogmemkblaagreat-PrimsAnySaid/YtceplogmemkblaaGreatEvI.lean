/-
  An abstract evaluator for Go code under the model: loads, stores, and what makes rows.
-/
import Derived.Test.YtceplogmemkblaaGreatEvH
namespace Go.Ev

/-- What the operation o comes to, from one abstract heap to another. -/
def OSem (P : Program) (o : Oper) (ρ : OA → AV) (h : H) (v : AV) (h' : H) : Prop :=
  ∀ μ w a (K : Act → World → Prop) (Q : Exit → Act → World → Prop), Rho μ h.nx w ρ a o.op.operands → HR μ h w →
    (∀ μ' v' w', Ext μ h w μ' h' w' → HR μ' h' w' → VR μ' h'.nx w' v v' → K (a.put o.dst v') w') → o.wp P a w K Q

/-- The same, of an operation that answers at once. -/
def RSem (P : Program) (o : Oper) (ρ : OA → AV) (h : H) (v : AV) (h' : H) : Prop :=
  ∀ μ w a, Rho μ h.nx w ρ a o.op.operands → HR μ h w →
    ∃ μ' v' w', ((execOp a.eval o).run P w = .ok (.value v') w' ∨ ((execOp a.eval o).run P w = .ok .skip w' ∧ v' = undef)) ∧ Ext μ h w μ' h' w' ∧ HR μ' h' w' ∧ VR μ' h'.nx w' v v'

theorem RSem.osem {P : Program} {o : Oper} {ρ : OA → AV} {h h' : H} {v : AV} (hr : RSem P o ρ h v h') : OSem P o ρ h v h' := by
  intro μ w a K Q hrho hh hk
  obtain ⟨μ', v', w', hrun, h1, h2, h3⟩ := hr μ w a hrho hh
  unfold Oper.wp
  rcases hrun with hrun | ⟨hrun, rfl⟩
  · rw [hrun]; exact hk μ' v' w' h1 h2 h3
  · rw [hrun]; exact hk μ' undef w' h1 h2 h3

theorem PSem.rsem {P : Program} {o : Oper} {ρ : OA → AV} {v : AV} (hp : PSem P o ρ v) (h : H) : RSem P o ρ h v h := by
  intro μ w a hrho hh
  obtain ⟨v', hrun, hv⟩ := hp μ h.nx w a hrho
  exact ⟨μ, v', w, .inl hrun, Ext.refl μ h w hh, hh, hv⟩

/-! ### Cells -/

theorem HR.row {μ : Nat → Nat} {h : H} {w : World} (hr : HR μ h w) {b m : Nat} {t : PT AV} {df : AV} (hb : h.t.get b = some (.row m t df)) :
    ∃ cs E fz, w.heap[μ b]? = some (.cells cs E fz) ∧ (∀ i, i < cs.size → ¬ (fz.1 ≤ i ∧ i < fz.2)) ∧ m ≤ cs.size ∧ ∀ i (_ : i < m) (h' : i < cs.size), VR μ h.nx w ((t.get i).getD df) cs[i] ∧ cs[i].oneCell' = true := hr.obj b _ hb

theorem HR.cell {μ : Nat → Nat} {h : H} {w : World} (hr : HR μ h w) {b m i : Nat} {t : PT AV} {df : AV} (hb : h.t.get b = some (.row m t df)) (hi : i < m) :
    ∃ v, w.cell? ⟨μ b, i, none⟩ = some v ∧ VR μ h.nx w ((t.get i).getD df) v ∧ v.oneCell' = true ∧ w.frozen? ⟨μ b, i, none⟩ = false := by
  obtain ⟨cs, E, fz, h1, h2, h3, h4⟩ := hr.row hb
  have hi' : i < cs.size := by omega
  refine ⟨cs[i], ?_, (h4 i hi hi').1, (h4 i hi hi').2, ?_⟩
  · unfold World.cell?; rw [h1]; simp [hi']
  · unfold World.frozen?; rw [h1]
    have := h2 i hi'
    obtain ⟨lo, hi2⟩ := fz
    simp only [Bool.and_eq_false_iff, decide_eq_false_iff_not]
    simp only at this
    omega

theorem run_load_cell {P : Program} {w : World} {a : Addr} {v : Value} (h : w.cell? a = some v) : (load a).run P w = .ok v w := by rw [run_load, h]

noncomputable def rowK (ao : AO) (k : Nat → PT AV → AV → Res) : Res :=
  AO.rec (motive := fun _ => (Nat → PT AV → AV → Res) → Res) (fun m t df k => k m t df) (fun _ _ _ _ => .fail 60) (fun _ _ _ => .fail 60) (fun _ _ _ _ => .fail 60) ao k
theorem rowK_good {ao : AO} {k : Nat → PT AV → AV → Res} (h : (rowK ao k).good) : ∃ m t df, ao = .row m t df ∧ (k m t df).good := by
  cases ao <;> first | exact ⟨_, _, _, rfl, h⟩ | exact absurd h Res.not_good_fail

/-- What stands at a place of a row, or what stands everywhere. -/
noncomputable def cellK (t : PT AV) (df : AV) (i : Nat) (k : AV → Res) : Res := PT.getK t i k (k df)
theorem cellK_eq (t : PT AV) (df : AV) (i : Nat) (k : AV → Res) : cellK t df i k = k ((t.get i).getD df) := by
  unfold cellK; rw [PT.getK_eq]; cases t.get i <;> rfl

/-- m cells of a row, as a written list. -/
noncomputable def cellsOfK (t : PT AV) (df : AV) (m : Nat) : Nat → (AV → Res) → Res :=
  Nat.rec (motive := fun _ => Nat → (AV → Res) → Res) (fun _ k => k .nil) (fun _ ih i k => cellK t df i fun v => forceN (Nat.succ i) fun i => ih i fun l => k (.cons v l)) m
theorem cellsOfK_good {t : PT AV} {df : AV} : ∀ (m i : Nat) {k : AV → Res}, (cellsOfK t df m i k).good →
    ∃ l, (∀ μ nx w (f : Nat → Value), (∀ j, j < m → VR μ nx w ((t.get (i + j)).getD df) (f (i + j))) → VRL μ nx w l ((List.range m).map fun j => f (i + j))) ∧ (k l).good
  | 0, i, k, h => ⟨.nil, fun μ nx w f _ => by simp [VRL_nil], h⟩
  | m + 1, i, k, h => by
    have h : (cellK t df i fun v => forceN (Nat.succ i) fun i => cellsOfK t df m i fun l => k (.cons v l)).good := h
    rw [cellK_eq, forceN_eq] at h
    obtain ⟨l, hl, h⟩ := cellsOfK_good m (i + 1) h
    refine ⟨_, fun μ nx w f hf => ?_, h⟩
    rw [List.range_succ_eq_map]
    simp only [List.map_cons, List.map_map]
    refine ⟨f i, _, rfl, show VR μ nx w _ (f i) from by simpa using hf 0 (by omega), ?_⟩
    have := hl μ nx w f (fun j hj => by have := hf (j + 1) (by omega); rw [show i + (j + 1) = i + 1 + j by omega] at this; exact this)
    have e : (List.range m).map ((fun j => f (i + j)) ∘ Nat.succ) = (List.range m).map fun j => f (i + 1 + j) := by
      apply List.map_congr_left; intro j _; simp only [Function.comp]; congr 1; omega
    rw [e]; exact this

noncomputable def atK (h : H) (b : Nat) (k : AO → Res) : Res := H.rec (motive := fun _ => Nat → (AO → Res) → Res) (fun t _ b k => PT.getK t b k (.fail 61)) h b k
theorem atK_good {h : H} {b : Nat} {k : AO → Res} (hg : (atK h b k).good) : ∃ ao, h.t.get b = some ao ∧ (k ao).good := PT.getK_good (t := h.t) hg

noncomputable def putK (h : H) (b : Nat) (ao : AO) (k : H → Res) : Res := H.rec (motive := fun _ => Nat → AO → (H → Res) → Res) (fun t nx b ao k => PT.updK 40 t b (some ao) fun t' => k ⟨t', nx⟩) h b ao k
theorem putK_good {h : H} {b : Nat} {ao : AO} {k : H → Res} (hg : (putK h b ao k).good) : ∃ t', (∀ j, t'.get j = if j = b then some ao else h.t.get j) ∧ (k ⟨t', h.nx⟩).good := by
  have hg : (PT.updK 40 h.t b (some ao) fun t' => k ⟨t', h.nx⟩).good := hg
  exact PT.updK_good hg

noncomputable def newK (h : H) (ao : AO) (k : Nat → H → Res) : Res :=
  H.rec (motive := fun _ => AO → (Nat → H → Res) → Res) (fun t nx ao k => PT.updK 40 t nx (some ao) fun t' => forceN (Nat.succ nx) fun nx' => k nx ⟨t', nx'⟩) h ao k
theorem newK_good {h : H} {ao : AO} {k : Nat → H → Res} (hg : (newK h ao k).good) : ∃ t', (∀ j, t'.get j = if j = h.nx then some ao else h.t.get j) ∧ (k h.nx ⟨t', h.nx + 1⟩).good := by
  have hg : (PT.updK 40 h.t h.nx (some ao) fun t' => forceN (Nat.succ h.nx) fun nx' => k h.nx ⟨t', nx'⟩).good := hg
  obtain ⟨t', h1, h2⟩ := PT.updK_good hg
  rw [forceN_eq] at h2
  exact ⟨t', h1, h2⟩

/-! ### Loads -/

inductive LOp where
  | one (x : OA)
  | many (x : OA) (m : Nat)

noncomputable def hL (l : LOp) (e : Env) (h : H) (k : AV → Res) : Res :=
  LOp.rec (motive := fun _ => Env → H → (AV → Res) → Res)
    (fun x e h k => oK x (fun v => isPt v fun b o => atK h b fun ao => rowK ao fun m t df => iteK (Nat.ble (Nat.succ o) m) (cellK t df o k) (.fail 62)) e)
    (fun x n e h k => oK x (fun v => isPt v fun b o => atK h b fun ao => rowK ao fun m t df => iteK (Nat.ble (Nat.add o n) m) (cellsOfK t df n o fun l => k (.ag l)) (.fail 62)) e) l e h k

def compL (P : Program) (o : Oper) : Option LOp :=
  match o.op with
  | .load t x =>
    match opndOf x, aggOf P t with
    | some x', some false => some (.one x')
    | some x', some true => (szOf P t).map fun m => .many x' m
    | _, _ => none
  | _ => none

theorem compL_good {P : Program} {o : Oper} {e : Env} {h : H} {k : AV → Res} {l : LOp} (hc : compL P o = some l) (hg : (hL l e h k).good) : ∃ v, RSem P o (oV e.get) h v h ∧ (k v).good := by
  unfold compL at hc
  split at hc
  · rename_i t x ho
    split at hc
    · rename_i x' h1 h2
      cases hc
      have hg : (oK x' (fun v => isPt v fun b o => atK h b fun ao => rowK ao fun m t df => iteK (Nat.ble (Nat.succ o) m) (cellK t df o k) (.fail 62)) e).good := hg
      rw [oK_eq] at hg
      obtain ⟨b, off, hb, hg⟩ := isPt_good hg
      obtain ⟨ao, ha, hg⟩ := atK_good hg
      obtain ⟨m, tr, df, rfl, hg⟩ := rowK_good hg
      obtain ⟨hlt, hg⟩ := iteK_good hg
      have hlt : off + 1 ≤ m := Nat.le_of_ble_eq_true hlt
      rw [cellK_eq] at hg
      refine ⟨_, fun μ w a hrho hh => ?_, hg⟩
      have hv := hrho x (by simp [ho, Op.operands]) _ h1
      rw [hb] at hv
      obtain ⟨v, hcell, hvr, _, _⟩ := hh.cell ha (i := off) (by omega)
      refine ⟨μ, v, w, .inl ?_, Ext.refl μ h w hh, hh, hvr⟩
      simp only [execOp, ho]
      refine run_v ?_
      rw [hv.2]
      simp only [Instr.loadAt, Instr.sureAddr, loadVar, Sem.run_bind, Sem.run_pure, Result.andThen_ok, run_aggOf h2, Bool.false_eq_true, if_false]
      exact run_load_cell hcell
    · rename_i x' h1 h2
      obtain ⟨n, h3, rfl⟩ := Option.map_eq_some_iff.1 hc
      have hg : (oK x' (fun v => isPt v fun b o => atK h b fun ao => rowK ao fun m t df => iteK (Nat.ble (Nat.add o n) m) (cellsOfK t df n o fun l => k (.ag l)) (.fail 62)) e).good := hg
      rw [oK_eq] at hg
      obtain ⟨b, off, hb, hg⟩ := isPt_good hg
      obtain ⟨ao, ha, hg⟩ := atK_good hg
      obtain ⟨m, tr, df, rfl, hg⟩ := rowK_good hg
      obtain ⟨hlt, hg⟩ := iteK_good hg
      have hlt : off + n ≤ m := Nat.le_of_ble_eq_true hlt
      obtain ⟨l, hl, hg⟩ := cellsOfK_good n off hg
      refine ⟨_, fun μ w a hrho hh => ?_, hg⟩
      have hv := hrho x (by simp [ho, Op.operands]) _ h1
      rw [hb] at hv
      have hf : ∀ j, j < n → ∃ v, w.cell? ⟨μ b, off + j, none⟩ = some v ∧ VR μ h.nx w ((tr.get (off + j)).getD df) v ∧ v.oneCell' = true := fun j hj => by
        obtain ⟨v, h5, h6, h7, _⟩ := hh.cell ha (i := off + j) (by omega)
        exact ⟨v, h5, h6, h7⟩
      let f : Nat → Value := fun i => (w.cell? ⟨μ b, i, none⟩).getD undef
      have hf1 : ∀ j, j < n → w.cell? ⟨μ b, off + j, none⟩ = some (f (off + j)) ∧ VR μ h.nx w ((tr.get (off + j)).getD df) (f (off + j)) ∧ (f (off + j)).oneCell' = true := fun j hj => by
        obtain ⟨v, h5, h6, h7⟩ := hf j hj
        have e1 : f (off + j) = v := by simp only [f, h5, Option.getD_some]
        rw [e1]; exact ⟨h5, h6, h7⟩
      have hload : (loadCells ⟨μ b, off, none⟩ n).run P w = .ok ((List.range n).map fun j => f (off + j)).toArray w := by
        have := run_loadCells_list (P := P) (w := w) ⟨μ b, off, none⟩ ((List.range n).map fun j => f (off + j)) (fun j v hj => by
          rw [List.getElem?_map] at hj
          rcases Nat.lt_or_ge j n with hjn | hjn
          · rw [List.getElem?_range hjn] at hj
            simp only [Option.map_some, Option.some.injEq] at hj
            rw [Addr.add_lit, ← hj]; exact (hf1 j hjn).1
          · rw [List.getElem?_eq_none (by simp; omega)] at hj; cases hj)
        simpa using this
      refine ⟨μ, .agg ((List.range n).map fun j => f (off + j)).toArray, w, .inl ?_, Ext.refl μ h w hh, hh, _, rfl, ?_, ?_⟩
      · simp only [execOp, ho]
        refine run_v ?_
        rw [hv.2]
        simp only [Instr.loadAt, Instr.sureAddr, loadVar, Sem.run_bind, Sem.run_pure, Result.andThen_ok, run_aggOf h2, if_true, run_szOf h3, hload]
      · exact hl μ h.nx w f (fun j hj => (hf1 j hj).2.1)
      · intro y hy
        simp only [List.mem_map, List.mem_range] at hy
        obtain ⟨j, hj, rfl⟩ := hy
        exact (hf1 j hj).2.2
    · cases hc
  · cases hc

end Go.Ev
