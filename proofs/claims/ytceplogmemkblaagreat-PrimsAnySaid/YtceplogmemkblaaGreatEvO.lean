/-
  An abstract evaluator for Go code under the model: each operation on the heap says what the model says (maps, append, clear, strings); all of them together.
-/
import Derived.Test.YtceplogmemkblaaGreatEvN
namespace Go.Ev

section
variable {P : Program} {o : Oper} {e : Env} {h : H} {k : KW}

theorem lks_good {t kt el : TypeId} {m key : Operand} {m' key' : OA} {ok : Bool} {z : AV} (ho : o.op = .lookup t m key ok) (hk : keyKind P t = some (true, kt, el)) (hm : opndOf m = some m') (hkey : opndOf key = some key') (hz : zeroAV P el = some z)
    (hg : (wLks z m' key' ok e h k).good) : WG P o e h k := by
  obtain ⟨hu, hik⟩ := keyKind_sm hk
  obtain ⟨zv, hzv, hzc⟩ := zeroAV_run hz
  unfold wLks at hg
  rw [oK_eq] at hg
  rcases isMp_or hg with ⟨b, hb, hg1⟩ | ⟨hb, hg1⟩
  · obtain ⟨ao, ha, hg2⟩ := atK_good hg1
    obtain ⟨l, c, rfl, hg3⟩ := smK_good hg2
    rw [oK_eq] at hg3
    obtain ⟨len, bits, hq, hg4⟩ := isS_good hg3
    have fin : ∀ (r : AV), (∀ μ w es, HR μ h w → w.heap[μ b]? = some (.map es c) → SmR μ h.nx w c l es.toList → bits < 256 ^ len →
        ∃ rr, Instr.findNow .string (.string (dec len bits)) es.toList 0 = some rr ∧ VR μ h.nx w r (if ok then .tuple #[(rr.map (·.2)).getD zv, .bool rr.isSome] else (rr.map (·.2)).getD zv)) →
        (k r h).good → WG P o e h k := by
      intro r hh hk
      refine ⟨r, h, fun μ w a hrho hr => ?_, hk⟩
      have hvm := hrho m (by simp [ho, Op.operands]) _ hm
      have hvk := hrho key (by simp [ho, Op.operands]) _ hkey
      rw [hb] at hvm
      rw [hq] at hvk
      obtain ⟨hvk, hbits⟩ := hvk
      obtain ⟨es, hes, him⟩ := hr.obj b _ ha
      obtain ⟨rr, hf, hv⟩ := hh μ w es hr hes him hbits
      refine ⟨μ, _, w, .inl ?_, Ext.refl μ h w hr, hr, hv⟩
      simp only [execOp, ho]
      refine run_v ?_
      exact run_lookup hu hik (.inr ⟨_, hik, hvk⟩) (.inr ⟨μ b, c, hvm.2, hes⟩) (by rw [hvk]; exact hf) hzv
    rcases smGetK_good hg4 with ⟨a, bn, hhit, hg5⟩ | ⟨hmiss, hg5⟩
    · obtain ⟨r, hr, hg6⟩ := finK_good hg5
      refine fin r (fun μ w es _ _ hsm hbits => ?_) hg6
      obtain ⟨i, hi, h1, h2, h3, h4⟩ := hhit μ h.nx w c _ hsm hbits
      exact ⟨_, hsm.find_some hi h1 h2, hr _ _ _ _ h3⟩
    · obtain ⟨r, hr, hg6⟩ := finK_good hg5
      exact fin r (fun μ w es _ _ hsm hbits => ⟨none, hsm.find_none (hmiss μ h.nx w c _ hsm hbits), hr _ _ _ _ (constAV_VR hzc _ _ _)⟩) hg6
  · rw [oK_eq] at hg1
    obtain ⟨len, bits, hq, hg2⟩ := isS_good hg1
    obtain ⟨r, hr, hg3⟩ := finK_good hg2
    refine ⟨r, h, fun μ w a hrho hr' => ?_, hg3⟩
    have hvm := hrho m (by simp [ho, Op.operands]) _ hm
    have hvk := hrho key (by simp [ho, Op.operands]) _ hkey
    rw [hb] at hvm
    rw [hq] at hvk
    have hvm : a.eval m = .map none := hvm
    refine ⟨μ, _, w, .inl ?_, Ext.refl μ h w hr', hr', hr _ _ _ _ (constAV_VR hzc _ _ _)⟩
    simp only [execOp, ho]
    refine run_v ?_
    exact run_lookup hu hik (.inr ⟨_, hik, hvk.1⟩) (.inl ⟨hvm, rfl⟩) (r := none) rfl hzv

theorem shape_map {w : World} {g : Nat} {es es' : Array MapEntry} {c c' : Nat} (hg : w.heap[g]? = some (.map es c)) : ∀ x s, w.shape? x = some s → (setW w g (.map es' c')).shape? x = some s := by
  intro x s hs
  by_cases e : x = g
  · subst e; unfold World.shape? at hs; rw [hg] at hs; cases hs
  · rw [shape_heap (setW_other w _ e)]; exact hs

/-- A map is changed. -/
theorem changed_map {μ : Nat → Nat} {h : H} {w : World} (hr : HR μ h w) {b : Nat} {ao0 ao : AO} (hb : h.t.get b = some ao0) {t' : PT AO} (ht : ∀ j, t'.get j = if j = b then some ao else h.t.get j) {es es' : Array MapEntry} {c c' : Nat}
    (hg : w.heap[μ b]? = some (.map es c)) (ho : OR μ h.nx w ao (some (.map es' c'))) :
    Ext μ h w μ ⟨t', h.nx⟩ (setW w (μ b) (.map es' c')) ∧ HR μ ⟨t', h.nx⟩ (setW w (μ b) (.map es' c')) :=
  changed_put hr hb ht (fun s hs => shape_map hg _ s hs) (ho.mono (fun _ _ => rfl) (Nat.le_refl _) (shape_map hg)) (by rw [hg]; rfl)

theorem run_mapUpdate {t kt el : TypeId} {K v : Value} {d : TypeDesc} {g c : Nat} {es : Array MapEntry} {r : Option (Nat × Value)} {w : World} (hu : P.underlying t = some (.map kt el)) (hd : P.underlying kt = some d)
    (hK : (∃ ik z, P.underlying kt = some (.int ik) ∧ K = .int .i64 z) ∨ (∃ s, P.underlying kt = some .string ∧ K = .string s)) (hes : w.heap[g]? = some (.map es c)) (hf : Instr.findNow d K es.toList 0 = some r)
    (hr : ∀ p, r = some p → ∃ hi : p.1 < es.size, es[p.1].key = K) :
    (Instr.mapUpdate t (.map (some g)) K v).run P w = .ok () (setW w g (match r with | some p => .map (es.modify p.1 fun e => { e with key := K, val := v }) c | none => .map (es.push { key := K, val := v, born := c }) (c + 1))) := by
  unfold Instr.mapUpdate
  rw [Sem.run_bind, run_underlying hu, Result.andThen_ok]
  simp only [Sem.run_bind, run_getObj hes (by simp), Result.andThen_ok, run_checkKey hK, run_findKey hd hf]
  cases r with
  | none => exact run_setObj hes (by simp)
  | some p =>
    obtain ⟨hi, hk⟩ := hr p rfl
    have hK' : (∃ z, K = .int .i64 z) ∨ ∃ s, K = .string s := by
      rcases hK with ⟨_, z, _, h⟩ | ⟨s, _, h⟩
      · exact .inl ⟨z, h⟩
      · exact .inr ⟨s, h⟩
    have hkey : ((es[p.1]?).map (·.key)).getD K = K := by simp [hi, hk]
    simp only [hkey, Sem.run_bind, run_keyThatStays hK', Result.andThen_ok]
    exact run_setObj hes (by simp)

theorem mui_good {t kt el : TypeId} {m key v : Operand} {m' key' v' : OA} (ho : o.op = .mapUpdate t m key v) (hk : keyKind P t = some (false, kt, el)) (hm : opndOf m = some m') (hkey : opndOf key = some key') (hv : opndOf v = some v')
    (hg : (wMui m' key' v' e h k).good) : WG P o e h k := by
  obtain ⟨hu, ik, hik⟩ := keyKind_im hk
  unfold wMui at hg
  rw [oK_eq] at hg
  rcases isMp_or hg with ⟨b, hb, hg1⟩ | ⟨_, hg1⟩
  · obtain ⟨ao, ha, hg2⟩ := atK_good hg1
    obtain ⟨tr, c, hi, rfl, hg3⟩ := imK_good hg2
    rw [oK_eq] at hg3
    obtain ⟨q, hq, hg4⟩ := isP_good hg3
    rw [oK_eq, PT.getK_eq] at hg4
    have fin : ∀ (tr' : PT AV) (c' : Nat) (t' : PT AO), (∀ j, t'.get j = if j = b then some (.im tr' c' hi) else h.t.get j) →
        (∀ μ w es vv, w.heap[μ b]? = some (.map es c) → ImR μ h.nx w tr c es → VR μ h.nx w (oV e.get v') vv → ∃ rr, Instr.findNow (.int ik) (.int .i64 (q : Nat)) es.toList 0 = some rr ∧ (∀ p, rr = some p → ∃ hi : p.1 < es.size, es[p.1].key = .int .i64 (q : Nat)) ∧
          ∃ es', (match rr with | some p => Obj.map (es.modify p.1 fun e => { e with key := .int .i64 (q : Nat), val := vv }) c | none => .map (es.push { key := .int .i64 (q : Nat), val := vv, born := c }) (c + 1)) = .map es' c' ∧ ImR μ h.nx w tr' c' es') →
        (k .u ⟨t', h.nx⟩).good → WG P o e h k := by
      intro tr' c' t' ht' hh hk
      refine ⟨.u, _, fun μ w a hrho hr => ?_, hk⟩
      have hvm := hrho m (by simp [ho, Op.operands]) _ hm
      have hvk := hrho key (by simp [ho, Op.operands]) _ hkey
      have hvv := hrho v (by simp [ho, Op.operands]) _ hv
      rw [hb] at hvm
      rw [hq] at hvk
      have hvk : a.eval key = .int .i64 q := hvk
      obtain ⟨es, hes, him⟩ := hr.obj b _ ha
      obtain ⟨rr, hf, hrr, es', he', him'⟩ := hh μ w es _ hes him hvv
      have hch := changed_map hr ha ht' hes (es' := es') (c' := c') ⟨es', rfl, him'⟩
      refine ⟨μ, undef, _, .inr ⟨?_, rfl⟩, hch.1, hch.2, trivial⟩
      simp only [execOp, ho]
      refine run_u ?_
      rw [hvm.2, hvk, run_mapUpdate hu hik (.inl ⟨ik, q, hik, rfl⟩) hes hf hrr, he']
    cases hx : tr.get q with
    | none =>
      rw [hx] at hg4
      obtain ⟨tr', htr, hg5⟩ := PT.updK_good hg4
      rw [forceN_eq] at hg5
      obtain ⟨t', ht', hg6⟩ := putK_good hg5
      exact fin tr' (c + 1) t' ht' (fun μ w es vv _ him hvv => ⟨none, him.find_none hx, by simp, _, rfl, him.add hx htr hvv⟩) hg6
    | some x =>
      rw [hx] at hg4
      obtain ⟨a0, bn, r', rfl, hg5⟩ := pairK_or hg4
      obtain ⟨tr', htr, hg6⟩ := PT.updK_good hg5
      obtain ⟨t', ht', hg7⟩ := putK_good hg6
      refine fin tr' c t' ht' (fun μ w es vv _ him hvv => ?_) hg7
      obtain ⟨i, hi', hki, hf, a', ha', _⟩ := him.find_some (ik := ik) hx
      cases ha'
      refine ⟨_, hf, fun p hp => by cases hp; exact ⟨hi', hki⟩, _, rfl, him.set hi' hki htr hvv (fun e he => ⟨by simp [he], rfl, rfl⟩)⟩
  · exact absurd hg1 Res.not_good_fail

theorem mus_good {t kt el : TypeId} {m key v : Operand} {m' key' v' : OA} (ho : o.op = .mapUpdate t m key v) (hk : keyKind P t = some (true, kt, el)) (hm : opndOf m = some m') (hkey : opndOf key = some key') (hv : opndOf v = some v')
    (hg : (wMus m' key' v' e h k).good) : WG P o e h k := by
  obtain ⟨hu, hik⟩ := keyKind_sm hk
  unfold wMus at hg
  rw [oK_eq] at hg
  rcases isMp_or hg with ⟨b, hb, hg1⟩ | ⟨_, hg1⟩
  · obtain ⟨ao, ha, hg2⟩ := atK_good hg1
    obtain ⟨l, c, rfl, hg3⟩ := smK_good hg2
    rw [oK_eq] at hg3
    obtain ⟨len, bits, hq, hg4⟩ := isS_good hg3
    rw [oK_eq] at hg4
    have fin : ∀ (l' : AV) (c' : Nat) (t' : PT AO), (∀ j, t'.get j = if j = b then some (.sm l' c') else h.t.get j) →
        (∀ μ w (es : Array MapEntry) (vv : Value), w.heap[μ b]? = some (.map es c) → SmR μ h.nx w c l es.toList → bits < 256 ^ len → VR μ h.nx w (oV e.get v') vv → ∃ rr : Option (Nat × Value), Instr.findNow .string (.string (dec len bits)) es.toList 0 = some rr ∧ (∀ p, rr = some p → ∃ hi : p.1 < es.size, es[p.1].key = .string (dec len bits)) ∧
          ∃ es' : Array MapEntry, (match rr with | some p => Obj.map (es.modify p.1 fun e => { e with key := .string (dec len bits), val := vv }) c | none => .map (es.push { key := .string (dec len bits), val := vv, born := c }) (c + 1)) = .map es' c' ∧ SmR μ h.nx w c' l' es'.toList) →
        (k .u ⟨t', h.nx⟩).good → WG P o e h k := by
      intro l' c' t' ht' hh hk
      refine ⟨.u, _, fun μ w a hrho hr => ?_, hk⟩
      have hvm := hrho m (by simp [ho, Op.operands]) _ hm
      have hvk := hrho key (by simp [ho, Op.operands]) _ hkey
      have hvv := hrho v (by simp [ho, Op.operands]) _ hv
      rw [hb] at hvm
      rw [hq] at hvk
      obtain ⟨hvk, hbits⟩ := hvk
      obtain ⟨es, hes, him⟩ := hr.obj b _ ha
      obtain ⟨rr, hf, hrr, es', he', him'⟩ := hh μ w es _ hes him hbits hvv
      have hch := changed_map hr ha ht' hes (es' := es') (c' := c') ⟨es', rfl, him'⟩
      refine ⟨μ, undef, _, .inr ⟨?_, rfl⟩, hch.1, hch.2, trivial⟩
      simp only [execOp, ho]
      refine run_u ?_
      rw [hvm.2, hvk, run_mapUpdate hu hik (.inr ⟨_, hik, rfl⟩) hes hf hrr, he']
    rcases smPutK_good hg4 with ⟨l', a0, b0, hhit, hset, hg5⟩ | ⟨l', hmiss, hadd, hg5⟩
    · obtain ⟨t', ht', hg6⟩ := putK_good hg5
      refine fin l' c t' ht' (fun μ w es vv _ hsm hbits hvv => ?_) hg6
      obtain ⟨i, hi, h1, h2, h3, h4⟩ := hhit μ h.nx w c _ hsm hbits
      have hi' : i < es.size := by simpa using hi
      refine ⟨_, hsm.find_some hi h1 h2, fun p hp => by cases hp; exact ⟨hi', by simpa using h1⟩, _, rfl, ?_⟩
      rw [Array.toList_modify]
      exact hset μ h.nx w c _ i hi vv hsm hbits h1 h2 hvv
    · rw [forceN_eq] at hg5
      obtain ⟨t', ht', hg6⟩ := putK_good hg5
      refine fin l' (c + 1) t' ht' (fun μ w es vv _ hsm hbits hvv => ⟨none, hsm.find_none (hmiss μ h.nx w c _ hsm hbits), by simp, _, rfl, ?_⟩) hg6
      rw [Array.toList_push]
      exact hadd μ h.nx w _ vv hsm hbits hvv
  · exact absurd hg1 Res.not_good_fail

theorem run_mapEntry {t kt el : TypeId} {K zv : Value} {d : TypeDesc} {g c : Nat} {es : Array MapEntry} {r : Option (Nat × Value)} {w : World} (hu : P.underlying t = some (.map kt el)) (hd : P.underlying kt = some d) (hz : zeroOf P el = some zv)
    (hK : (∃ ik z, P.underlying kt = some (.int ik) ∧ K = .int .i64 z) ∨ (∃ s, P.underlying kt = some .string ∧ K = .string s)) (hes : w.heap[g]? = some (.map es c)) (hf : Instr.findNow d K es.toList 0 = some r)
    (hr : ∀ p, r = some p → ∃ hi : p.1 < es.size, es[p.1].key = K) :
    (Instr.mapEntry t (.map (some g)) K).run P w = .ok (match r with | some p => .tuple #[p.2, goInt (((es[p.1]?).map (·.born)).getD 0)] | none => .tuple #[zv, goInt c])
      (match r with | some _ => w | none => setW w g (.map (es.push { key := K, val := zv, born := c }) (c + 1))) := by
  unfold Instr.mapEntry
  rw [Sem.run_bind, run_underlying hu, Result.andThen_ok]
  simp only [Sem.run_bind, run_getObj hes (by simp), Result.andThen_ok, run_checkKey hK, run_findKey hd hf]
  cases r with
  | none => simp only [Sem.run_bind, run_zeroOf hz, Result.andThen_ok, run_setObj hes (by simp), Sem.run_pure]
  | some p =>
    obtain ⟨hi, hk⟩ := hr p rfl
    have hK' : (∃ z, K = .int .i64 z) ∨ ∃ s, K = .string s := by
      rcases hK with ⟨_, z, _, h⟩ | ⟨s, _, h⟩
      · exact .inl ⟨z, h⟩
      · exact .inr ⟨s, h⟩
    have hkey : ((es[p.1]?).map (·.key)).getD K = K := by simp [hi, hk]
    have hsame : (es.modify p.1 fun e => { e with key := K }) = es := by
      apply Array.ext
      · simp
      · intro j h1 h2
        rw [Array.getElem_modify]
        split
        · rename_i e; subst e
          clear hf hr hkey hK hK'
          show ({ key := K, val := es[p.1].val, born := es[p.1].born } : MapEntry) = es[p.1]
          generalize es[p.1] = E at hk ⊢
          subst hk; rfl
        · rfl
    simp only [hkey, Sem.run_bind, run_keyThatStays hK', Result.andThen_ok, run_setObj hes (by simp), hsame, setW_self hes, Sem.run_pure]

theorem mei_good {t kt el : TypeId} {m key : Operand} {m' key' : OA} {z : AV} (ho : o.op = .mapEntry t m key) (hk : keyKind P t = some (false, kt, el)) (hm : opndOf m = some m') (hkey : opndOf key = some key') (hz : zeroAV P el = some z)
    (hg : (wMei z m' key' e h k).good) : WG P o e h k := by
  obtain ⟨hu, ik, hik⟩ := keyKind_im hk
  obtain ⟨zv, hzv, hzc⟩ := zeroAV_run hz
  unfold wMei at hg
  rw [oK_eq] at hg
  rcases isMp_or hg with ⟨b, hb, hg1⟩ | ⟨_, hg1⟩
  · obtain ⟨ao, ha, hg2⟩ := atK_good hg1
    obtain ⟨tr, c, hi, rfl, hg3⟩ := imK_good hg2
    rw [oK_eq] at hg3
    obtain ⟨q, hq, hg4⟩ := isP_good hg3
    rw [PT.getK_eq] at hg4
    cases hx : tr.get q with
    | none =>
      rw [hx] at hg4
      obtain ⟨tr', htr, hg5⟩ := PT.updK_good hg4
      rw [forceN_eq] at hg5
      obtain ⟨t', ht', hg6⟩ := putK_good hg5
      refine ⟨_, _, fun μ w a hrho hr => ?_, hg6⟩
      have hvm := hrho m (by simp [ho, Op.operands]) _ hm
      have hvk := hrho key (by simp [ho, Op.operands]) _ hkey
      rw [hb] at hvm
      rw [hq] at hvk
      have hvk : a.eval key = .int .i64 q := hvk
      obtain ⟨es, hes, him⟩ := hr.obj b _ ha
      have hch := changed_map hr ha ht' hes (c' := c + 1) ⟨_, rfl, him.add (v := zv) hx htr (constAV_VR hzc _ _ _)⟩
      have hrun := run_mapEntry (t := t) (g := μ b) hu hik hzv (.inl ⟨ik, q, hik, rfl⟩) hes (him.find_none (ik := ik) hx) (by simp)
      refine ⟨μ, _, _, .inl ?_, hch.1, hch.2, _, rfl, zv, [goInt c], rfl, constAV_VR hzc _ _ _, goInt c, [], rfl, rfl, rfl⟩
      simp only [execOp, ho]
      refine run_v ?_
      rw [hvm.2, hvk]; exact hrun
    | some x =>
      rw [hx] at hg4
      obtain ⟨t', ht', hg5⟩ := putK_good hg4
      refine ⟨x, _, fun μ w a hrho hr => ?_, hg5⟩
      have hvm := hrho m (by simp [ho, Op.operands]) _ hm
      have hvk := hrho key (by simp [ho, Op.operands]) _ hkey
      rw [hb] at hvm
      rw [hq] at hvk
      have hvk : a.eval key = .int .i64 q := hvk
      obtain ⟨es, hes, him⟩ := hr.obj b _ ha
      obtain ⟨i, hi', hki, hf, a', rfl, hv⟩ := him.find_some (ik := ik) hx
      have hch := changed_map hr ha ht' hes (es' := es) (c' := c) ⟨es, rfl, him⟩
      rw [setW_self hes] at hch
      have hrun := run_mapEntry (t := t) (g := μ b) hu hik hzv (.inl ⟨ik, q, hik, rfl⟩) hes hf (fun p hp => by cases hp; exact ⟨hi', hki⟩)
      have hborn : ((es[i]?).map (fun x => (x.born : Int))).getD 0 = (es[i].born : Int) := by simp [hi']
      refine ⟨μ, .tuple #[es[i].val, goInt es[i].born], w, .inl ?_, hch.1, hch.2, _, rfl, _, [goInt es[i].born], rfl, hv, goInt es[i].born, [], rfl, rfl, rfl⟩
      simp only [execOp, ho]
      refine run_v ?_
      rw [hvm.2, hvk, hrun]
      show Result.ok (Value.tuple #[es[i].val, goInt (((es[i]?).map (fun x => (x.born : Int))).getD 0)]) w = _
      rw [hborn]
  · exact absurd hg1 Res.not_good_fail

theorem mes_good {t kt el : TypeId} {m key : Operand} {m' key' : OA} {z : AV} (ho : o.op = .mapEntry t m key) (hk : keyKind P t = some (true, kt, el)) (hm : opndOf m = some m') (hkey : opndOf key = some key') (hz : zeroAV P el = some z)
    (hg : (wMes z m' key' e h k).good) : WG P o e h k := by
  obtain ⟨hu, hik⟩ := keyKind_sm hk
  obtain ⟨zv, hzv, hzc⟩ := zeroAV_run hz
  unfold wMes at hg
  rw [oK_eq] at hg
  rcases isMp_or hg with ⟨b, hb, hg1⟩ | ⟨_, hg1⟩
  · obtain ⟨ao, ha, hg2⟩ := atK_good hg1
    obtain ⟨l, c, rfl, hg3⟩ := smK_good hg2
    rw [oK_eq] at hg3
    obtain ⟨len, bits, hq, hg4⟩ := isS_good hg3
    rcases smGetK_good hg4 with ⟨a0, bn, hhit, hg5⟩ | ⟨hmiss, hg5⟩
    · refine ⟨_, h, fun μ w a hrho hr => ?_, hg5⟩
      have hvm := hrho m (by simp [ho, Op.operands]) _ hm
      have hvk := hrho key (by simp [ho, Op.operands]) _ hkey
      rw [hb] at hvm
      rw [hq] at hvk
      obtain ⟨hvk, hbits⟩ := hvk
      obtain ⟨es, hes, hsm⟩ := hr.obj b _ ha
      obtain ⟨i, hi, h1, h2, h3, h4⟩ := hhit μ h.nx w c _ hsm hbits
      have hi' : i < es.size := by simpa using hi
      have hrun := run_mapEntry (t := t) (g := μ b) hu hik hzv (.inr ⟨_, hik, rfl⟩) hes (hsm.find_some hi h1 h2) (fun p hp => by cases hp; exact ⟨hi', by simpa using h1⟩)
      have hborn : ((es[i]?).map (fun x => (x.born : Int))).getD 0 = (bn : Int) := by simp [hi']; simp at h4; omega
      refine ⟨μ, .tuple #[es.toList[i].val, goInt bn], w, .inl ?_, Ext.refl μ h w hr, hr, _, rfl, _, [goInt bn], rfl, h3, goInt bn, [], rfl, rfl, rfl⟩
      simp only [execOp, ho]
      refine run_v ?_
      rw [hvm.2, hvk, hrun]
      show Result.ok (Value.tuple #[es.toList[i].val, goInt (((es[i]?).map (fun x => (x.born : Int))).getD 0)]) w = _
      rw [hborn]
    · rcases smPutK_good hg5 with ⟨_, _, _, _, _, hg6⟩ | ⟨l', _, hadd, hg6⟩
      · exact absurd hg6 Res.not_good_fail
      · rw [forceN_eq] at hg6
        obtain ⟨t', ht', hg7⟩ := putK_good hg6
        refine ⟨_, _, fun μ w a hrho hr => ?_, hg7⟩
        have hvm := hrho m (by simp [ho, Op.operands]) _ hm
        have hvk := hrho key (by simp [ho, Op.operands]) _ hkey
        rw [hb] at hvm
        rw [hq] at hvk
        obtain ⟨hvk, hbits⟩ := hvk
        obtain ⟨es, hes, hsm⟩ := hr.obj b _ ha
        have hadd' := hadd μ h.nx w _ zv hsm hbits (constAV_VR hzc _ _ _)
        have hch := changed_map hr ha ht' hes (es' := es.push { key := .string (dec len bits), val := zv, born := c }) (c' := c + 1) ⟨_, rfl, by rw [Array.toList_push]; exact hadd'⟩
        have hrun := run_mapEntry (t := t) (g := μ b) hu hik hzv (.inr ⟨_, hik, rfl⟩) hes (hsm.find_none (hmiss μ h.nx w c _ hsm hbits)) (by simp)
        refine ⟨μ, _, _, .inl ?_, hch.1, hch.2, _, rfl, zv, [goInt c], rfl, constAV_VR hzc _ _ _, goInt c, [], rfl, rfl, rfl⟩
        simp only [execOp, ho]
        refine run_v ?_
        rw [hvm.2, hvk]; exact hrun
  · exact absurd hg1 Res.not_good_fail

theorem run_entryStore {t : TypeId} {v : Value} {g c i sb : Nat} {es : Array MapEntry} {w : World} (hes : w.heap[g]? = some (.map es c)) (hf : es.toList.findIdx? (fun e => (e.born : Int) == (sb : Int)) = some i) :
    (Instr.entryStore t (.map (some g)) (.int .i64 (sb : Nat)) v).run P w = .ok () (setW w g (.map (es.modify i fun e => { e with val := v }) c)) := by
  have hf' : es.findIdx? (fun e => (e.born : Int) == (sb : Int)) = some i := by rw [← hf]; cases es; simp
  unfold Instr.entryStore
  simp only [Sem.run_bind, run_getObj hes (by simp), Result.andThen_ok, asInt, asIntOf, Sem.run_pure, hf']
  exact run_setObj hes (by simp)

theorem esi_good {t kt el : TypeId} {m s v : Operand} {m' s' v' : OA} (ho : o.op = .entryStore t m s v) (_hk : keyKind P t = some (false, kt, el)) (hm : opndOf m = some m') (hs : opndOf s = some s') (hv : opndOf v = some v')
    (hg : (wEsi m' s' v' e h k).good) : WG P o e h k := by
  unfold wEsi at hg
  rw [oK_eq] at hg
  rcases isMp_or hg with ⟨b, hb, hg1⟩ | ⟨_, hg1⟩
  · obtain ⟨ao, ha, hg2⟩ := atK_good hg1
    obtain ⟨tr, c, hi, rfl, hg3⟩ := imK_good hg2
    rw [oK_eq] at hg3
    obtain ⟨sb, hsb, hg4⟩ := isP_good hg3
    rw [oK_eq] at hg4
    obtain ⟨x, hx, hg5⟩ := PT.getK_good hg4
    obtain ⟨a0, bn, r', rfl, hg6⟩ := pairK_or hg5
    obtain ⟨hbn, hg7⟩ := iteK_good hg6
    have hbn : sb = bn := Nat.eq_of_beq_eq_true hbn
    subst hbn
    obtain ⟨tr', htr, hg8⟩ := PT.updK_good hg7
    obtain ⟨t', ht', hg9⟩ := putK_good hg8
    refine ⟨.u, _, fun μ w a hrho hr => ?_, hg9⟩
    have hvm := hrho m (by simp [ho, Op.operands]) _ hm
    have hvs := hrho s (by simp [ho, Op.operands]) _ hs
    have hvv := hrho v (by simp [ho, Op.operands]) _ hv
    rw [hb] at hvm
    rw [hsb] at hvs
    have hvs : a.eval s = .int .i64 sb := hvs
    obtain ⟨es, hes, him⟩ := hr.obj b _ ha
    obtain ⟨i, hi', hki, hf, a', ha', _⟩ := him.find_some (ik := .i64) hx
    cases ha'
    have hidx : es.toList.findIdx? (fun e => (e.born : Int) == ((es[i].born : Nat) : Int)) = some i := by
      rw [List.findIdx?_eq_some_iff_getElem]
      refine ⟨by simpa using hi', by simp, fun j hj => ?_⟩
      have hj' : j < es.size := by omega
      simp only [Array.getElem_toList, Bool.not_eq_true, beq_eq_false_iff_ne, ne_eq]
      intro e
      have := him.born j i hj' hi' (by omega)
      omega
    have hch := changed_map hr ha ht' hes (es' := es.modify i fun e => { e with val := a.eval v }) (c' := c) ⟨_, rfl, him.set hi' hki htr hvv (fun e he => ⟨rfl, rfl, rfl⟩)⟩
    refine ⟨μ, undef, _, .inr ⟨?_, rfl⟩, hch.1, hch.2, trivial⟩
    simp only [execOp, ho]
    refine run_u ?_
    rw [hvm.2, hvs]
    exact run_entryStore hes hidx
  · exact absurd hg1 Res.not_good_fail

theorem ess_good {t kt el : TypeId} {m s v : Operand} {m' s' v' : OA} (ho : o.op = .entryStore t m s v) (_hk : keyKind P t = some (true, kt, el)) (hm : opndOf m = some m') (hs : opndOf s = some s') (hv : opndOf v = some v')
    (hg : (wEss m' s' v' e h k).good) : WG P o e h k := by
  unfold wEss at hg
  rw [oK_eq] at hg
  rcases isMp_or hg with ⟨b, hb, hg1⟩ | ⟨_, hg1⟩
  · obtain ⟨ao, ha, hg2⟩ := atK_good hg1
    obtain ⟨l, c, rfl, hg3⟩ := smK_good hg2
    rw [oK_eq] at hg3
    obtain ⟨sb, hsb, hg4⟩ := isP_good hg3
    rw [oK_eq] at hg4
    obtain ⟨l', hl', hg5⟩ := smBornK_good hg4
    obtain ⟨t', ht', hg6⟩ := putK_good hg5
    refine ⟨.u, _, fun μ w a hrho hr => ?_, hg6⟩
    have hvm := hrho m (by simp [ho, Op.operands]) _ hm
    have hvs := hrho s (by simp [ho, Op.operands]) _ hs
    have hvv := hrho v (by simp [ho, Op.operands]) _ hv
    rw [hb] at hvm
    rw [hsb] at hvs
    have hvs : a.eval s = .int .i64 sb := hvs
    obtain ⟨es, hes, hsm⟩ := hr.obj b _ ha
    obtain ⟨i, hidx, hsm'⟩ := hl' μ h.nx w c _ _ hsm hvv
    have hch := changed_map hr ha ht' hes (es' := es.modify i fun e => { e with val := a.eval v }) (c' := c) ⟨_, rfl, by rw [Array.toList_modify]; exact hsm'⟩
    refine ⟨μ, undef, _, .inr ⟨?_, rfl⟩, hch.1, hch.2, trivial⟩
    simp only [execOp, ho]
    refine run_u ?_
    rw [hvm.2, hvs]
    exact run_entryStore hes hidx
  · exact absurd hg1 Res.not_good_fail

/-! ### append, clear, strings -/

theorem app_good {t el : TypeId} {s x : Operand} {xs : Array Operand} {ts : Array TypeId} {s' x' : OA} {i : TypeInfo} {z : Value} (ho : o.op = .call { callee := .builtin .append, args := xs, argTypes := ts }) (hxs : xs.toList = [s, x]) (hts : ts.toList = [t, t])
    (hu : P.underlying t = some (.slice el)) (hs : opndOf s = some s') (hx : opndOf x = some x') (hi : P.info? el = some i) (hz : i.zero = some z) (hzs : z.cells.size = i.size) (hg : (wApp i.size i.bytes s' x' e h k).good) : WG P o e h k := by
  have hxs' : xs = #[s, x] := by rw [← Array.toArray_toList (xs := xs), hxs]
  have hts' : ts = #[t, t] := by rw [← Array.toArray_toList (xs := ts), hts]
  subst hxs'; subst hts'
  unfold wApp at hg
  rw [oK_eq, oK_eq] at hg
  obtain ⟨v, h', happ, hg⟩ := appK_good hu hi hz hzs hg
  refine ⟨v, h', fun μ w a hrho hr => ?_, hg⟩
  obtain ⟨μ', v', w', h1, h2, h3, h4⟩ := happ μ w _ _ hr (hrho s (by simp [ho, Op.operands, Call.operands]) _ hs) (hrho x (by simp [ho, Op.operands, Call.operands]) _ hx)
  refine ⟨μ', v', w', .inl ?_, h2, h3, h4⟩
  simp only [execOp, ho, resolve]
  have := h1 o.type
  simp [invoke, builtin, this]

theorem repK_good : ∀ {m : Nat} {z : AV} {k : AV → Res}, (repK m z k).good → ∃ l, (∀ μ nx w v, VR μ nx w z v → VRL μ nx w l (List.replicate m v)) ∧ (k l).good
  | 0, z, k, h => ⟨.nil, fun μ nx w v _ => rfl, h⟩
  | m + 1, z, k, h => by
    obtain ⟨l, hl, hk⟩ := repK_good (m := m) (z := z) (k := fun l => k (.cons z l)) h
    exact ⟨.cons z l, fun μ nx w v hv => VRL_cons.2 ⟨v, List.replicate m v, rfl, hv, hl μ nx w v hv⟩, hk⟩

theorem cls_good {t el : TypeId} {x : Operand} {xs : Array Operand} {ts : Array TypeId} {x' : OA} {zv : Value} {z : AV} (ho : o.op = .call { callee := .builtin .clear, args := xs, argTypes := ts }) (hxs : xs.toList = [x]) (ht0 : ts[0]? = some t)
    (hu : P.underlying t = some (.slice el)) (hx : opndOf x = some x') (hz : zeroOf P el = some zv) (hzc : constAV1 zv = some z) (hg : (wCls z x' e h k).good) : WG P o e h k := by
  have hxs' : xs = #[x] := by rw [← Array.toArray_toList (xs := xs), hxs]
  subst hxs'
  unfold wCls at hg
  rw [oK_eq] at hg
  have hmem : x ∈ o.op.operands := by simp [ho, Op.operands, Call.operands]
  have hzz : zv.cells = #[zv] := cells_one (constAV1_one hzc)
  have none' : ∀ (a : Act) (w : World) (c : Nat) (base : Option Addr), a.eval x = .slice base 0 c → (execOp a.eval o).run P w = .ok (.value (.tuple #[])) w := by
    intro a w c base hv
    simp only [execOp, ho, resolve]
    cases base <;> simp [invoke, builtin, Builtin.clear_, ht0, run_underlying hu, hv]
  rcases isSl_good hg with ⟨b, off, n, cap, st, hb, hg1⟩ | ⟨hb, hg1⟩
  · cases n with
    | zero =>
      refine ⟨_, h, fun μ w a hrho hr => ?_, hg1⟩
      have hv := hrho x hmem _ hx
      rw [hb] at hv
      obtain ⟨_, _, c, hv, _⟩ := hv
      exact ⟨μ, .tuple #[], w, .inl (none' a w c _ hv), Ext.refl μ h w hr, hr, #[], rfl, rfl⟩
    | succ n =>
      have hg1 : (repK (n + 1) z fun cs => storeK cs b off (n + 1) h fun h' => k (.tu .nil) h').good := hg1
      obtain ⟨l, hl, hg2⟩ := repK_good hg1
      obtain ⟨h', hst, _, hg3⟩ := storeK_good hg2
      refine ⟨_, h', fun μ w a hrho hr => ?_, hg3⟩
      have hv := hrho x hmem _ hx
      rw [hb] at hv
      obtain ⟨_, _, c, hv, _⟩ := hv
      obtain ⟨_, w', h4, h5, h6⟩ := hst P μ w _ hr (hl μ h.nx w zv (constAV1_VR hzc _ _ _)) (fun y hy => by rw [(List.mem_replicate.1 hy).2]; exact constAV1_one hzc)
      refine ⟨μ, .tuple #[], w', .inl ?_, h5, h6, #[], rfl, rfl⟩
      have hzl : (Builtin.zeroCells zv.cells (n + 1)).toList = List.replicate (n + 1) zv := by
        rw [hzz]
        simp only [Builtin.zeroCells, List.size_toArray, List.length_cons, List.length_nil, Nat.zero_add, Nat.mul_one, Nat.mod_one]
        rw [Array.toList_map, Array.toList_range]
        apply List.ext_getElem
        · simp
        · intro j h1 h2; simp
      simp only [execOp, ho, resolve]
      simp [invoke, builtin, Builtin.clear_, ht0, run_underlying hu, hv, run_zeroOf hz, hzl, h4]
  · refine ⟨_, h, fun μ w a hrho hr => ?_, hg1⟩
    have hv := hrho x hmem _ hx
    rw [hb] at hv
    exact ⟨μ, .tuple #[], w, .inl (none' a w 0 none hv), Ext.refl μ h w hr, hr, #[], rfl, rfl⟩

theorem foldl_bytes : ∀ (ns : List Int) (s : ByteArray), ns.foldl (fun r n => r.push (UInt8.ofNat n.toNat)) s = ⟨s.data ++ (ns.map fun n => UInt8.ofNat n.toNat).toArray⟩
  | [], s => by simp
  | n :: ns, s => by
    rw [List.foldl_cons, foldl_bytes ns]
    apply ByteArray.ext
    simp [ByteArray.push]

theorem bytesK_good : ∀ {l : AV} {i acc : Nat} {k : Nat → Nat → Res}, (bytesK l i acc k).good → acc < 256 ^ i →
    ∃ len bits, (∀ μ nx w xs, VRL μ nx w l xs → ∃ ns : List Int, xs = ns.map (Value.int .u8) ∧ len = i + ns.length ∧ bits < 256 ^ len ∧ dec len bits = ⟨(dl i acc ++ ns.map fun n => UInt8.ofNat n.toNat).toArray⟩) ∧ (k len bits).good := by
  intro l
  induction l with
  | nil =>
    intro i acc k h hacc
    refine ⟨i, acc, fun μ nx w xs hx => ?_, h⟩
    rw [VRL_nil] at hx
    subst hx
    exact ⟨[], rfl, rfl, hacc, by simp [dec_eq]⟩
  | cons a r _ ih =>
    intro i acc k h hacc
    have h : (isW a (fun kd m => iteK (Nat.beq (kcode kd) 4) (iteK (Nat.ble m 255) (forceN (Nat.add acc (Nat.shiftLeft m (Nat.mul 8 i))) fun acc => forceN (Nat.succ i) fun i => bytesK r i acc k) (.fail 85)) (.fail 85)) (.fail 85)).good := h
    rcases isW_or h with ⟨kd, m, rfl, h1⟩ | h1
    · obtain ⟨hkd, h2⟩ := iteK_good h1
      obtain ⟨hm, h3⟩ := iteK_good h2
      have hkd : kd = .u8 := kcode_inj hkd
      subst hkd
      have hm : m ≤ 255 := Nat.le_of_ble_eq_true hm
      rw [forceN_eq, forceN_eq] at h3
      have e1 : Nat.add acc (Nat.shiftLeft m (Nat.mul 8 i)) = acc + m * 256 ^ i := by
        show acc + m <<< (8 * i) = _
        rw [Nat.shiftLeft_eq, pow256]
      rw [e1] at h3
      have hlt : acc + m * 256 ^ i < 256 ^ (i + 1) := by
        have := sum_lt (l1 := i) (l2 := 1) hacc (show m < 256 ^ 1 by omega)
        exact this
      obtain ⟨len, bits, hl, hk⟩ := ih h3 hlt
      refine ⟨len, bits, fun μ nx w xs hx => ?_, hk⟩
      obtain ⟨x, xs', rfl, hx1, hx2⟩ := hx
      obtain ⟨ns, rfl, h4, h5, h6⟩ := hl μ nx w xs' hx2
      have hx1 : x = .int .u8 m := hx1
      refine ⟨m :: ns, by rw [hx1]; rfl, by simp only [List.length_cons, h4]; omega, h5, ?_⟩
      rw [h6]
      have hd : dl (i + 1) (acc + m * 256 ^ i) = dl i acc ++ [UInt8.ofNat m] := by
        have h7 := dec_append i acc 1 m hacc
        rw [dec_eq, dec_eq, dec_eq, ByteArray.mk_append_mk] at h7
        have h8 : dl i acc ++ dl 1 m = dl (i + 1) (acc + m * 256 ^ i) := by
          have := congrArg (fun b : ByteArray => b.data.toList) h7
          simpa using this
        rw [← h8]
        simp [dl]
      rw [hd]
      simp
    · exact absurd h1 Res.not_good_fail
  | _ => intro i acc k h _; exact absurd h Res.not_good_fail

theorem b2s_good {src dst el : TypeId} {x : Operand} {x' : OA} (ho : o.op = .convert src dst x) (hs : P.underlying src = some (.slice el)) (hd : P.underlying dst = some .string) (hel : P.underlying el = some (.int .u8)) (hx : opndOf x = some x')
    (hg : (wB2s x' e h k).good) : ∃ v, RSem P o (oV e.get) h v h ∧ (k v h).good := by
  unfold wB2s at hg
  rw [oK_eq] at hg
  obtain ⟨l, n, hl, hg⟩ := elemsK_good hg
  obtain ⟨len, bits, hb, hg⟩ := bytesK_good hg (by simp)
  refine ⟨_, fun μ w a hrho hr => ?_, hg⟩
  obtain ⟨ad, c, xs, hv, h1, h2, h3, h4, h5⟩ := hl.say μ w _ hr (hrho x (by simp [ho, Op.operands]) _ hx)
  obtain ⟨ns, hns, hlen, hbits, hdec⟩ := hb μ h.nx w xs h2
  refine ⟨μ, .string (dec len bits), w, .inl ?_, Ext.refl μ h w hr, hr, rfl, hbits⟩
  simp only [execOp, ho]
  refine run_v ?_
  rw [hv, run_convert_bytes_string w src dst el ad n c hs hel hd]
  cases ad with
  | none =>
    obtain ⟨rfl, rfl⟩ := h4 rfl
    have hxs : xs = [] := by simpa using h1
    subst hxs
    have : ns = [] := by simpa using hns.symm
    subst this
    rw [hdec]
    rfl
  | some ad =>
    have hload : (loadCells ad n).run P w = .ok (ns.map (Value.int .u8)).toArray w := by
      have := run_loadCells_list (P := P) (w := w) ad xs (h5 ad rfl)
      rw [h1, Nat.mul_one] at this
      rw [this, hns]
    rw [run_bytesToString w ad n c ns hload, foldl_bytes, hdec]
    have e1 : ByteArray.empty.data = #[] := rfl
    rw [e1]
    simp [dl]

theorem rg_good {t : TypeId} {x : Operand} {x' : OA} (ho : o.op = .range t x) (hu : P.underlying t = some .string) (hx : opndOf x = some x') (hg : (wRg x' e h k).good) : WG P o e h k := by
  unfold wRg at hg
  rw [oK_eq] at hg
  obtain ⟨len, bits, hb, hg⟩ := isS_good hg
  obtain ⟨t', ht', hg⟩ := newK_good hg
  refine ⟨_, _, fun μ w a hrho hr => ?_, hg⟩
  have hv := hrho x (by simp [ho, Op.operands]) _ hx
  rw [hb] at hv
  have hmk := made hr (o := .stringIter (dec len bits) 0) ht' ⟨rfl, hv.2⟩
  refine ⟨_, .pointer (some ⟨w.heap.size, 0, none⟩), _, .inl ?_, hmk.1, hmk.2, Nat.lt_succ_self _, by rw [setμ_same]⟩
  simp only [execOp, ho]
  refine run_v ?_
  rw [hv.1]
  simp [Instr.range, run_underlying hu]

theorem nxs_good {it : Operand} {it' : OA} (ho : o.op = .next it true) (hx : opndOf it = some it') (hg : (wNxs it' e h k).good) : WG P o e h k := by
  unfold wNxs at hg
  rw [oK_eq] at hg
  obtain ⟨b, off, hb, hg⟩ := isPt_good hg
  obtain ⟨hoff, hg⟩ := iteK_good hg
  have hoff : off = 0 := Nat.eq_of_beq_eq_true hoff
  subst hoff
  obtain ⟨ao, ha, hg1⟩ := atK_good hg
  obtain ⟨len, bits, pos, rfl, hg2⟩ := siK_good hg1
  cases hlt : Nat.ble (Nat.succ pos) len with
  | false =>
    rw [hlt] at hg2
    have hge : ¬ pos < len := fun hh => by rw [Nat.ble_eq_true_of_le (show pos + 1 ≤ len from hh)] at hlt; cases hlt
    refine ⟨_, h, fun μ w a hrho hr => ?_, hg2⟩
    have hv := hrho it (by simp [ho, Op.operands]) _ hx
    rw [hb] at hv
    obtain ⟨hes, hbits⟩ := hr.obj b _ ha
    refine ⟨μ, .tuple #[.bool false], w, .inl ?_, Ext.refl μ h w hr, hr, _, rfl, .bool false, [], rfl, rfl, rfl⟩
    simp only [execOp, ho]
    refine run_v ?_
    rw [hv.2]
    simp [Instr.next, run_getObj hes (by simp), dec_size, hge]
  | true =>
    rw [hlt] at hg2
    have hlt : pos < len := Nat.le_of_ble_eq_true hlt
    have hg2 : (forceN (Nat.mod (Nat.shiftRight bits (Nat.mul 8 pos)) 256) fun c => iteK (Nat.ble c 127) (forceN (Nat.succ pos) fun pos' => putK h b (.si len bits pos') fun h' => k (.tu (.cons (.b true) (.cons (.p pos) (.cons (.w .i32 c) .nil)))) h') (.fail 96)).good := hg2
    rw [forceN_eq] at hg2
    obtain ⟨hc, hg3⟩ := iteK_good hg2
    rw [forceN_eq] at hg3
    have hc : (bits >>> (8 * pos)) % 256 ≤ 127 := Nat.le_of_ble_eq_true hc
    obtain ⟨t', ht', hg4⟩ := putK_good hg3
    refine ⟨_, _, fun μ w a hrho hr => ?_, hg4⟩
    have hv := hrho it (by simp [ho, Op.operands]) _ hx
    rw [hb] at hv
    obtain ⟨hes, hbits⟩ := hr.obj b _ ha
    have hps : pos < (dec len bits).size := by rw [dec_size]; exact hlt
    have hget : (dec len bits)[pos]'hps = UInt8.ofNat (bits / 256 ^ pos) := by
      have := dec_get len bits pos hlt
      rw [getElem?_pos _ pos hps] at this
      exact Option.some.inj this
    have hbyte : ((dec len bits)[pos]'hps).toNat = (bits >>> (8 * pos)) % 256 := by rw [hget, byte_of]
    have hdec := decode_ascii (dec len bits) pos hps (by rw [hbyte]; omega)
    have hshape : ∀ s, w.shape? (μ b) = some s → (setW w (μ b) (.stringIter (dec len bits) (pos + 1))).shape? (μ b) = some s := fun s hs => by
      unfold World.shape? at hs; rw [hes] at hs; cases hs
    have hch := changed_put hr ha ht' (ob := .stringIter (dec len bits) (pos + 1)) hshape ⟨rfl, hbits⟩ (by rw [hes]; rfl)
    refine ⟨μ, .tuple #[.bool true, goInt pos, .int .i32 (((bits >>> (8 * pos)) % 256 : Nat) : Int)], _, .inl ?_, hch.1, hch.2, _, rfl, .bool true, [goInt pos, .int .i32 (((bits >>> (8 * pos)) % 256 : Nat) : Int)], rfl, rfl, goInt pos, [.int .i32 (((bits >>> (8 * pos)) % 256 : Nat) : Int)], rfl, rfl, _, [], rfl, rfl, rfl⟩
    simp only [execOp, ho]
    refine run_v ?_
    rw [hv.2]
    simp only [Instr.next, Sem.run_bind, run_getObj hes (by simp), Result.andThen_ok]
    rw [if_pos hps]
    simp only [hdec, hbyte, Sem.run_bind, run_setObj hes (by simp), Result.andThen_ok, Sem.run_pure]

/-- **Each operation on the heap.** -/
theorem compW_good {p : WOp} (hc : compW P o = some p) (hg : (hW p e h k).good) : WG P o e h k := by
  unfold compW at hc
  split at hc
  case h_1 t x v ho =>
    split at hc
    · rename_i h1 h2 h3; cases hc; exact st_good ho h1 h2 h3 hg
    · cases hc
  case h_2 t ho =>
    split at hc
    · rename_i l h1; cases hc
      obtain ⟨z, hz, hl⟩ := Option.bind_eq_some_iff.1 h1
      exact al_good ho hz hl hg
    · cases hc
  case h_3 t v ho => obtain ⟨v', hv, rfl⟩ := Option.map_eq_some_iff.1 hc; exact bx_good ho hv hg
  case h_4 t len ps ho =>
    split at hc
    · rename_i el hu
      split at hc
      · rename_i s z hs hz
        split at hc
        · rename_i h00; cases hc
          obtain ⟨rfl, h01⟩ := h00
          exact bs0_good ho hu hs h01 hg
        · split at hc
          · cases hc
          · rename_i hno
            split at hc
            · rename_i l ps' h3 h4
              cases hc
              exact bs_good ho hu hs hz (fun hh => hno (.inl hh)) (fun hh => hno (.inr (.inl hh))) h3 h4 hg
            · cases hc
      · cases hc
    · cases hc
  case h_5 t l c ho =>
    split at hc
    · rename_i el l' c' hu hl hcc
      split at hc
      · rename_i i hi
        split at hc
        · rename_i z hz
          split at hc
          · rename_i h1; cases hc
            obtain ⟨zv, hzv, hza⟩ := Option.bind_eq_some_iff.1 hz
            exact ms_good ho hu hl hcc hi hzv hza h1 hg
          · cases hc
        · cases hc
      · cases hc
    · cases hc
  case h_6 t r ho =>
    split at hc
    · rename_i b kt el hk
      split at hc
      · rename_i h1; cases hc; exact mkm_good ho hk h1 hg
      · cases hc
    · cases hc
  case h_7 t m key ok ho =>
    split at hc
    · rename_i b kt el m' k' hk hm hkey
      split at hc
      · rename_i z hz
        cases hc
        cases b
        · exact lki_good ho hk hm hkey hz hg
        · exact lks_good ho hk hm hkey hz hg
      · cases hc
    · cases hc
  case h_8 t m key v ho =>
    split at hc
    · rename_i b kt el m' k' v' hk hm hkey hv
      cases hc
      cases b
      · exact mui_good ho hk hm hkey hv hg
      · exact mus_good ho hk hm hkey hv hg
    · cases hc
  case h_9 t m key ho =>
    split at hc
    · rename_i b kt el m' k' hk hm hkey
      split at hc
      · rename_i z hz
        cases hc
        cases b
        · exact mei_good ho hk hm hkey hz hg
        · exact mes_good ho hk hm hkey hz hg
      · cases hc
    · cases hc
  case h_10 t m s v ho =>
    split at hc
    · rename_i b kt el m' s' v' hk hm hs hv
      cases hc
      cases b
      · exact esi_good ho hk hm hs hv hg
      · exact ess_good ho hk hm hs hv hg
    · cases hc
  case h_11 xs ts ho =>
    split at hc
    · rename_i s x t t' hxs hts
      split at hc
      · rename_i htt; subst htt
        split at hc
        · rename_i el s' x' hu hs hx
          split at hc
          · rename_i i hi
            split at hc
            · rename_i hz; cases hc
              obtain ⟨z, hz1, hz2⟩ := Option.map_eq_some_iff.1 hz
              exact app_good ho hxs hts hu hs hx hi hz1 hz2 hg
            · cases hc
          · cases hc
        · cases hc
      · cases hc
    · cases hc
  case h_12 xs ts ho =>
    split at hc
    · rename_i x el hxs hu
      split at hc
      · rename_i x' z hx hz
        cases hc
        obtain ⟨t, ht0, hu'⟩ := Option.bind_eq_some_iff.1 hu
        obtain ⟨zv, hzv, hzc⟩ := Option.bind_eq_some_iff.1 hz
        exact cls_good ho hxs ht0 hu' hx hzv hzc hg
      · cases hc
    · cases hc
  case h_13 src dst x ho =>
    split at hc
    · rename_i el x' hs hd hx
      split at hc
      · rename_i hel; cases hc; obtain ⟨v, q1, q2⟩ := b2s_good ho hs hd hel hx hg; exact ⟨v, h, q1, q2⟩
      · cases hc
    · cases hc
  case h_14 t x ho =>
    split at hc
    · rename_i x' hu hx; cases hc; exact rg_good ho hu hx hg
    · cases hc
  case h_15 it ho => obtain ⟨x', hx, rfl⟩ := Option.map_eq_some_iff.1 hc; exact nxs_good ho hx hg
  case h_16 => cases hc

end
end Go.Ev
