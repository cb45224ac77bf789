/-
  An abstract evaluator for Go code under the model: each operation on the heap says what the model says.
-/
import Derived.Test.YtceplogmemkblaaGreatEvM
namespace Go.Ev

section
variable {P : Program} {o : Oper} {e : Env} {h : H} {k : KW}

abbrev WG (P : Program) (o : Oper) (e : Env) (h : H) (k : KW) : Prop := ∃ v h', RSem P o (oV e.get) h v h' ∧ (k v h').good

theorem run_u {s : Sem Unit} {w w' : World} (h : s.run P w = .ok () w') : ((do s; pure Next.skip : Sem Next)).run P w = .ok .skip w' := by
  rw [Sem.run_bind, h]; rfl

theorem st_good {t : TypeId} {x v : Operand} {x' v' : OA} {m : Nat} (ho : o.op = .store t x v) (hs : szOf P t = some m) (hx : opndOf x = some x') (hv : opndOf v = some v') (hg : (wSt x' m v' e h k).good) : WG P o e h k := by
  unfold wSt at hg
  rw [oK_eq] at hg
  obtain ⟨b, off, hb, hg⟩ := isPt_good hg
  rw [oK_eq] at hg
  obtain ⟨cs, hcs, hg⟩ := cellsK_good hg
  obtain ⟨h', hst, _, hg⟩ := storeK_good hg
  refine ⟨.u, h', fun μ w a hrho hr => ?_, hg⟩
  have hxv := hrho x (by simp [ho, Op.operands]) _ hx
  rw [hb] at hxv
  obtain ⟨h1, h2⟩ := hcs μ h.nx w _ (hrho v (by simp [ho, Op.operands]) _ hv)
  obtain ⟨h3, w', h4, h5, h6⟩ := hst P μ w _ hr h1 h2
  refine ⟨μ, undef, w', .inr ⟨?_, rfl⟩, h5, h6, trivial⟩
  simp only [execOp, ho]
  refine run_u ?_
  rw [hxv.2]
  have h3' : (a.eval v).cells.size = m := by simpa using h3
  simp only [Instr.storeAt, Instr.sureAddr, storeVar, Sem.run_bind, Sem.run_pure, Result.andThen_ok, run_szOf hs]
  rw [if_neg (by simpa using h3')]
  exact h4

theorem row_result {cs : AV} {h' : H} {m : Nat} {μ : Nat → Nat} {w : World} {xs : Array Value} {E : TypeId}
    (hh : m = xs.size ∧ Ext μ h w (setμ μ h.nx w.heap.size) h' (w.alloc (.cells xs E)) ∧ HR (setμ μ h.nx w.heap.size) h' (w.alloc (.cells xs E)) ∧ h.nx < h'.nx) (_hcs : cs = cs) :
    VR (setμ μ h.nx w.heap.size) h'.nx (w.alloc (.cells xs E)) (.pt h.nx 0) (.pointer (some ⟨w.heap.size, 0, none⟩)) := ⟨hh.2.2.2, by rw [setμ_same]⟩

theorem al_good {t : TypeId} {z : Value} {cs : AV} (ho : o.op = .alloc t) (hz : zeroOf P t = some z) (hc : constL z.cells.toList = some cs) (hg : (wAl cs e h k).good) : WG P o e h k := by
  unfold wAl at hg
  obtain ⟨m, h', hn, hg⟩ := newRowK_good hg
  refine ⟨_, h', fun μ w a hrho hr => ?_, hg⟩
  obtain ⟨h1, h2⟩ := constL_VRL hc μ h.nx w
  have hh := hn μ w z.cells t hr h1 h2
  refine ⟨_, _, _, .inl ?_, hh.2.1, hh.2.2.1, row_result hh (cs := cs) rfl⟩
  simp only [execOp, ho]
  refine run_v ?_
  simp [Instr.alloc, run_zeroOf hz, newVar, newRow]

theorem bx_good {t : TypeId} {v : Operand} {v' : OA} (ho : o.op = .box t v) (hv : opndOf v = some v') (hg : (wBx v' e h k).good) : WG P o e h k := by
  unfold wBx at hg
  rw [oK_eq] at hg
  obtain ⟨cs, hcs, hg⟩ := cellsK_good hg
  obtain ⟨m, h', hn, hg⟩ := newRowK_good hg
  refine ⟨_, h', fun μ w a hrho hr => ?_, hg⟩
  obtain ⟨h1, h2⟩ := hcs μ h.nx w _ (hrho v (by simp [ho, Op.operands]) _ hv)
  have hh := hn μ w (a.eval v).cells t hr h1 h2
  refine ⟨_, _, _, .inl ?_, hh.2.1, hh.2.2.1, row_result hh (cs := cs) rfl⟩
  simp only [execOp, ho]
  refine run_v ?_
  simp [Instr.box, newVar, newRow]

theorem bs_good {t el : TypeId} {len s : Nat} {ps : Array (Nat × Operand)} {z : Value} {l : AV} {ps' : List (Nat × Nat × OA)} (ho : o.op = .buildSlice t len ps) (hu : P.underlying t = some (.slice el)) (hs : szOf P el = some s)
    (hz : zeroOf P el = some z) (h24 : ¬ len * s > 2 ^ 24) (h0 : ¬ len * s = 0) (hc : constL ((Array.range (len * s)).map (z.cells[· % z.cells.size]!)).toList = some l) (hp : partsOf (fun i => some (i * s, s)) ps.toList = some ps')
    (hg : (wBs l len ps' e h k).good) : WG P o e h k := by
  unfold wBs at hg
  obtain ⟨r, hr0, hg⟩ := bdK_good (sz := fun i => some (i * s, s)) hg
  obtain ⟨cs, hcs, hg⟩ := isAg_good hg
  cases hcs
  obtain ⟨m, h', hn, hg⟩ := newRowK_good hg
  refine ⟨_, h', fun μ w a hrho hr => ?_, hg⟩
  obtain ⟨h1, h2⟩ := constL_VRL hc μ h.nx w
  obtain ⟨ys, h3, h4, h5⟩ := hr0 _ hp μ h.nx w a _ hrho (fun p hp => by simp only [ho, Op.operands]; simp; exact ⟨p.1, by simpa using hp⟩) _ h1 h2
  have hh := hn μ w ys el hr h4 h5
  refine ⟨_, .slice (some ⟨w.heap.size, 0, none⟩) len len, _, .inl ?_, hh.2.1, hh.2.2.1, hh.2.2.2, Nat.le_refl _, len, by rw [setμ_same], fun _ => rfl, fun hne => absurd rfl hne⟩
  simp only [execOp, ho]
  refine run_v ?_
  have h3' : Instr.fill (fun i => some (i * s, s)) ((Array.range (len * s)).map (z.cells[· % z.cells.size]!)) (ps.map fun (i, x) => (i, a.eval x)).toList = some ys := by
    rw [Array.toList_map]; exact h3
  unfold Instr.buildSlice
  simp only [Sem.run_bind, run_underlying hu, Result.andThen_ok, run_szOf hs, if_neg h24, if_neg h0, run_zeroOf hz, Sem.run_pure, h3']
  simp [newRow]

theorem bs0_good {t el : TypeId} {s : Nat} {ps : Array (Nat × Operand)} (ho : o.op = .buildSlice t 0 ps) (hu : P.underlying t = some (.slice el)) (hs : szOf P el = some s) (hp : ps.toList.isEmpty = true)
    (hg : (wBs .nil 0 [] e h k).good) : WG P o e h k := by
  have hg : (newRowK .nil h fun b _ h' => k (.sl b 0 0 0 0) h').good := hg
  obtain ⟨m, h', hn, hg⟩ := newRowK_good hg
  refine ⟨_, h', fun μ w a hrho hr => ?_, hg⟩
  have hh := hn μ w #[] el hr rfl (by simp)
  refine ⟨_, .slice (some ⟨w.heap.size, 0, none⟩) 0 0, _, .inl ?_, hh.2.1, hh.2.2.1, hh.2.2.2, Nat.le_refl _, 0, by rw [setμ_same], fun _ => rfl, fun hne => absurd rfl hne⟩
  simp only [execOp, ho]
  refine run_v ?_
  have hp' : ps = #[] := by apply Array.ext'; simpa using hp
  subst hp'
  unfold Instr.buildSlice
  have hr0 : (Array.range 0).map (fun _ => (default : Value)) = #[] := by apply Array.ext'; simp
  simp [run_underlying hu, run_szOf hs, newRow, Instr.fill, hr0]

theorem ms_good {t el : TypeId} {l c : Operand} {l' c' : OA} {i : TypeInfo} {z : Value} {za : AV} (ho : o.op = .makeSlice t l c) (hu : P.underlying t = some (.slice el)) (hl : opndOf l = some l') (hc : opndOf c = some c')
    (hi : P.info? el = some i) (hz : i.zero = some z) (hza : constAV1 z = some za) (h1 : i.size = 1) (hg : (wMs za i.bytes l' c' e h k).good) : WG P o e h k := by
  unfold wMs at hg
  rw [oK_eq] at hg
  obtain ⟨ln, hln, hg⟩ := isP_good hg
  rw [oK_eq] at hg
  obtain ⟨cn, hcn, hg⟩ := isP_good hg
  obtain ⟨hle, hg⟩ := iteK_good hg
  obtain ⟨h63, hg⟩ := iteK_good hg
  obtain ⟨h47, hg⟩ := iteK_good hg
  have hle : ln ≤ cn := Nat.le_of_ble_eq_true hle
  have h63 : cn ≤ 9223372036854775807 := Nat.le_of_ble_eq_true h63
  have h47 : i.bytes * cn ≤ 140737488355328 := Nat.le_of_ble_eq_true h47
  obtain ⟨t', ht', hg⟩ := newK_good hg
  refine ⟨_, _, fun μ w a hrho hr => ?_, hg⟩
  have hvl := hrho l (by simp [ho, Op.operands]) _ hl
  have hvc := hrho c (by simp [ho, Op.operands]) _ hc
  rw [hln] at hvl
  rw [hcn] at hvc
  have hvl : a.eval l = .int .i64 ln := hvl
  have hvc : a.eval c = .int .i64 cn := hvc
  have hzc : z.cells = #[z] := cells_one (constAV1_one hza)
  have hmk := made_row hr (xs := (Array.range cn).map fun _ => z) (E := el) (df := za) ht' (by simp) (fun j hj hj' => by simp; exact ⟨constAV1_VR hza _ _ _, constAV1_one hza⟩)
  refine ⟨_, .slice (some ⟨w.heap.size, 0, none⟩) ln cn, _, .inl ?_, hmk.1, hmk.2, Nat.lt_succ_self _, hle, cn, by rw [setμ_same], fun _ => rfl, fun hne => absurd rfl hne⟩
  simp only [execOp, ho]
  refine run_v ?_
  rw [hvl, hvc]
  have hwl : IntKind.i64.wrap (ln : Int) = ln := wrap_in (by omega) (by omega)
  have hwc : IntKind.i64.wrap (cn : Int) = cn := wrap_in (by omega) (by omega)
  have hsz : szOf P el = some 1 := by simp [szOf, hi, h1]
  have hzo : zeroOf P el = some z := by simp [zeroOf, hi, hz]
  unfold Instr.makeSlice
  simp only [Sem.run_bind, run_underlying hu, Result.andThen_ok, asInt, asIntOf, Sem.run_pure, run_typeInfo' hi, hwl, hwc]
  have hb1 : ((i.bytes : Int) * (cn : Int)) = ((i.bytes * cn : Nat) : Int) := by simp
  have hno : ((decide ((cn : Int) < 0) || decide ((i.bytes : Int) * (cn : Int) > 2 ^ 48)) || decide ((ln : Int) < 0) || decide ((ln : Int) > (cn : Int))) = false := by
    simp only [Bool.or_eq_false_iff, decide_eq_false_iff_not]
    rw [hb1]
    refine ⟨⟨⟨by omega, ?_⟩, by omega⟩, by omega⟩
    generalize i.bytes * cn = q at h47
    omega
  simp only [hno, Bool.false_eq_true, if_false, Sem.run_bind, run_askRoom, Result.andThen_ok, run_szOf hsz, Int.toNat_natCast, Nat.mul_one]
  by_cases hc0 : cn = 0
  · subst hc0
    simp [newRow, Array.range_zero']
  · rw [if_neg hc0]
    simp [run_zeroOf hzo, newRow, hzc, Nat.mod_one]

theorem mkm_good {t kt el : TypeId} {r : Option Operand} {b : Bool} (ho : o.op = .makeMap t r) (hk : keyKind P t = some (b, kt, el)) (hr' : (r.all fun x => (match x with | .const (.int _ _) => true | _ => false)) = true)
    (hg : (wMkm b e h k).good) : WG P o e h k := by
  have hu : ∃ k0, P.underlying t = some (.map k0 el) := by
    unfold keyKind at hk
    split at hk
    · rename_i k0 e0 hu
      split at hk <;> cases hk <;> exact ⟨_, hu⟩
    · cases hk
  obtain ⟨k0, hu⟩ := hu
  have hrun : ∀ (a : Act) (w : World), (execOp a.eval o).run P w = .ok (.value (.map (some w.heap.size))) (w.alloc (.map #[] 0)) := by
    intro a w
    simp only [execOp, ho]
    refine run_v ?_
    cases r with
    | none => simp [Instr.makeMap]
    | some x =>
      cases x with
      | const v =>
        cases v with
        | int kk n => simp [Instr.makeMap, run_underlying hu, asInt, asIntOf, Act.eval]
        | _ => simp at hr'
      | _ => simp at hr'
  cases b with
  | false =>
    have hg : (newK h (.im .nil 0 0) fun b h' => k (.mp b) h').good := hg
    obtain ⟨t', ht', hg⟩ := newK_good hg
    refine ⟨_, _, fun μ w a hrho hr => ?_, hg⟩
    have hmk := made hr (o := .map #[] 0) ht' ⟨#[], rfl, ImR.empty _ _ _⟩
    exact ⟨_, .map (some w.heap.size), _, .inl (hrun a w), hmk.1, hmk.2, Nat.lt_succ_self _, by rw [setμ_same]⟩
  | true =>
    have hg : (newK h (.sm .nil 0) fun b h' => k (.mp b) h').good := hg
    obtain ⟨t', ht', hg⟩ := newK_good hg
    refine ⟨_, _, fun μ w a hrho hr => ?_, hg⟩
    have hmk := made hr (o := .map #[] 0) ht' ⟨#[], rfl, SmR_nil.2 rfl⟩
    exact ⟨_, .map (some w.heap.size), _, .inl (hrun a w), hmk.1, hmk.2, Nat.lt_succ_self _, by rw [setμ_same]⟩

/-! ### Maps -/

theorem keyKind_im {t kt el : TypeId} (hk : keyKind P t = some (false, kt, el)) : P.underlying t = some (.map kt el) ∧ ∃ ik, P.underlying kt = some (.int ik) := by
  unfold keyKind at hk
  split at hk
  · rename_i k0 e0 hu
    split at hk
    · rename_i ik hik; cases hk; exact ⟨hu, ik, hik⟩
    · cases hk
    · cases hk
  · cases hk
theorem keyKind_sm {t kt el : TypeId} (hk : keyKind P t = some (true, kt, el)) : P.underlying t = some (.map kt el) ∧ P.underlying kt = some .string := by
  unfold keyKind at hk
  split at hk
  · rename_i k0 e0 hu
    split at hk
    · cases hk
    · rename_i hs; cases hk; exact ⟨hu, hs⟩
    · cases hk
  · cases hk

theorem zeroAV_run {t : TypeId} {z : AV} (hz : zeroAV P t = some z) : ∃ zv, zeroOf P t = some zv ∧ constAV zv = some z := Option.bind_eq_some_iff.1 hz

theorem finK_good {ok : Bool} {a : AV} {there : Bool} {h : H} {k : KW} (hg : (finK ok a there h k).good) : ∃ r, (∀ μ nx w v, VR μ nx w a v → VR μ nx w r (if ok then .tuple #[v, .bool there] else v)) ∧ (k r h).good := by
  cases ok
  · exact ⟨a, fun μ nx w v hv => hv, hg⟩
  · refine ⟨.tu (.cons a (.cons (.b there) .nil)), fun μ nx w v hv => ?_, hg⟩
    show VR μ nx w (.tu (.cons a (.cons (.b there) .nil))) (.tuple #[v, .bool there])
    exact ⟨#[v, .bool there], rfl, v, [.bool there], rfl, hv, .bool there, [], rfl, rfl, rfl⟩

theorem run_lookup {t kt el : TypeId} {K : Value} {d : TypeDesc} {ok : Bool} {x : Value} {es : Array MapEntry} {r : Option (Nat × Value)} {zv : Value} {w : World} (hu : P.underlying t = some (.map kt el)) (hd : P.underlying kt = some d)
    (hK : (∃ ik z, P.underlying kt = some (.int ik) ∧ K = .int .i64 z) ∨ (∃ s, P.underlying kt = some .string ∧ K = .string s))
    (hx : (x = .map none ∧ es = #[]) ∨ ∃ g clock, x = .map (some g) ∧ w.heap[g]? = some (.map es clock)) (hf : Instr.findNow d K es.toList 0 = some r) (hz : zeroOf P el = some zv) :
    (Instr.lookup t x K ok).run P w = .ok (if ok then .tuple #[(r.map (·.2)).getD zv, .bool r.isSome] else (r.map (·.2)).getD zv) w := by
  have fin : ((do
      Instr.checkKey es.isEmpty 10000 kt K
      let (v, there) ← match ← Instr.findKey kt K es.toList with
        | some (_, v) => pure (v, true)
        | none => pure (← zeroValue el, false)
      pure (if ok then .tuple #[v, .bool there] else v) : Sem Value)).run P w = .ok (if ok then .tuple #[(r.map (·.2)).getD zv, .bool r.isSome] else (r.map (·.2)).getD zv) w := by
    simp only [Sem.run_bind, run_checkKey hK, Result.andThen_ok, run_findKey hd hf]
    cases r with
    | none => cases ok <;> simp [run_zeroOf hz]
    | some p => cases ok <;> simp
  unfold Instr.lookup
  rw [Sem.run_bind, run_underlying hu, Result.andThen_ok]
  rcases hx with ⟨rfl, rfl⟩ | ⟨g, clock, rfl, hg⟩
  · exact fin
  · simp only [Sem.run_bind, run_getObj hg (by simp), Result.andThen_ok, Sem.run_pure] at fin ⊢
    exact fin

theorem pairK_or {x : AV} {k : AV → Nat → Res} (hg : (pairK x k).good) : ∃ a bn r, x = .tu (.cons a (.cons (.p bn) r)) ∧ (k a bn).good := by
  unfold pairK at hg
  obtain ⟨l, rfl, h5⟩ := isTu_good hg
  rcases consK_or h5 with ⟨a, r, rfl, h6⟩ | ⟨_, h6⟩
  · rcases consK_or h6 with ⟨bn, r', rfl, h7⟩ | ⟨_, h7⟩
    · obtain ⟨bn', rfl, h8⟩ := isP_good h7
      exact ⟨a, bn', r', rfl, h8⟩
    · exact absurd h7 Res.not_good_fail
  · exact absurd h6 Res.not_good_fail

theorem lki_good {t kt el : TypeId} {m key : Operand} {m' key' : OA} {ok : Bool} {z : AV} (ho : o.op = .lookup t m key ok) (hk : keyKind P t = some (false, kt, el)) (hm : opndOf m = some m') (hkey : opndOf key = some key') (hz : zeroAV P el = some z)
    (hg : (wLki z m' key' ok e h k).good) : WG P o e h k := by
  obtain ⟨hu, ik, hik⟩ := keyKind_im hk
  obtain ⟨zv, hzv, hzc⟩ := zeroAV_run hz
  unfold wLki at hg
  rw [oK_eq] at hg
  rcases isMp_or hg with ⟨b, hb, hg1⟩ | ⟨hb, hg1⟩
  · obtain ⟨ao, ha, hg2⟩ := atK_good hg1
    obtain ⟨tr, c, hi, rfl, hg3⟩ := imK_good hg2
    rw [oK_eq] at hg3
    obtain ⟨q, hq, hg4⟩ := isP_good hg3
    rw [PT.getK_eq] at hg4
    have fin : ∀ (r : AV), (∀ μ w es, HR μ h w → w.heap[μ b]? = some (.map es c) → ImR μ h.nx w tr c es → ∃ rr, Instr.findNow (.int ik) (.int .i64 (q : Nat)) es.toList 0 = some rr ∧ VR μ h.nx w r (if ok then .tuple #[(rr.map (·.2)).getD zv, .bool rr.isSome] else (rr.map (·.2)).getD zv)) →
        (k r h).good → WG P o e h k := by
      intro r hh hk
      refine ⟨r, h, fun μ w a hrho hr => ?_, hk⟩
      have hvm := hrho m (by simp [ho, Op.operands]) _ hm
      have hvk := hrho key (by simp [ho, Op.operands]) _ hkey
      rw [hb] at hvm
      rw [hq] at hvk
      have hvk : a.eval key = .int .i64 q := hvk
      obtain ⟨es, hes, him⟩ := hr.obj b _ ha
      obtain ⟨rr, hf, hv⟩ := hh μ w es hr hes him
      refine ⟨μ, _, w, .inl ?_, Ext.refl μ h w hr, hr, hv⟩
      simp only [execOp, ho]
      refine run_v ?_
      exact run_lookup hu hik (.inl ⟨ik, q, hik, hvk⟩) (.inr ⟨μ b, c, hvm.2, hes⟩) (by rw [hvk]; exact hf) hzv
    cases hx : tr.get q with
    | none =>
      rw [hx] at hg4
      obtain ⟨r, hr, hg5⟩ := finK_good hg4
      exact fin r (fun μ w es _ _ him => ⟨none, him.find_none hx, hr _ _ _ _ (constAV_VR hzc _ _ _)⟩) hg5
    | some x =>
      rw [hx] at hg4
      obtain ⟨a, bn, r', rfl, hg5⟩ := pairK_or hg4
      obtain ⟨r, hr, hg6⟩ := finK_good hg5
      refine fin r (fun μ w es _ _ him => ?_) hg6
      obtain ⟨i, hi, _, hf, a', ha', hv⟩ := him.find_some (ik := ik) hx
      cases ha'
      exact ⟨_, hf, hr _ _ _ _ hv⟩
  · rw [oK_eq] at hg1
    obtain ⟨q, hq, hg2⟩ := isP_good hg1
    obtain ⟨r, hr, hg3⟩ := finK_good hg2
    refine ⟨r, h, fun μ w a hrho hr' => ?_, hg3⟩
    have hvm := hrho m (by simp [ho, Op.operands]) _ hm
    have hvk := hrho key (by simp [ho, Op.operands]) _ hkey
    rw [hb] at hvm
    rw [hq] at hvk
    have hvm : a.eval m = .map none := hvm
    have hvk : a.eval key = .int .i64 q := hvk
    refine ⟨μ, _, w, .inl ?_, Ext.refl μ h w hr', hr', hr _ _ _ _ (constAV_VR hzc _ _ _)⟩
    simp only [execOp, ho]
    refine run_v ?_
    exact run_lookup hu hik (.inl ⟨ik, q, hik, hvk⟩) (.inl ⟨hvm, rfl⟩) (r := none) rfl hzv

end
end Go.Ev
