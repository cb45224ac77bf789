/-
  An abstract evaluator for Go code under the model: maps.
-/
import Derived.Test.YtceplogmemkblaaGreatEvK
namespace Go.Ev

/-! ### The model's search -/

theorem findNow_none {kind : TypeDesc} {K : Value} : ∀ (es : List MapEntry) (n : Nat), (∀ e ∈ es, Instr.sameNow kind K e.key = some false) → Instr.findNow kind K es n = some none
  | [], _, _ => rfl
  | e :: es, n, h => by
    unfold Instr.findNow
    rw [h e (by simp)]
    exact findNow_none es (n + 1) fun x hx => h x (by simp [hx])

theorem findNow_some {kind : TypeDesc} {K : Value} : ∀ (es : List MapEntry) (n j : Nat) (hj : j < es.length), (∀ i (hi : i < j), Instr.sameNow kind K (es[i]'(by omega)).key = some false) → Instr.sameNow kind K es[j].key = some true →
    Instr.findNow kind K es n = some (some (n + j, es[j].val))
  | [], _, _, hj, _, _ => by simp at hj
  | e :: es, n, 0, _, _, h1 => by
    unfold Instr.findNow
    simp only [List.getElem_cons_zero] at h1
    rw [h1]; rfl
  | e :: es, n, j + 1, hj, h0, h1 => by
    unfold Instr.findNow
    have := h0 0 (by omega)
    simp only [List.getElem_cons_zero] at this
    rw [this]
    simp only [List.length_cons] at hj
    have ih := findNow_some es (n + 1) j (by omega) (fun i hi => by have := h0 (i + 1) (by omega); simpa using this) (by simpa using h1)
    simp only [List.getElem_cons_succ]
    rw [ih, show n + 1 + j = n + (j + 1) by omega]

section
variable {P : Program} {w : World}

theorem run_findKey {kt : TypeId} {d : TypeDesc} {K : Value} {es : List MapEntry} {r : Option (Nat × Value)} (hk : P.underlying kt = some d) (h : Instr.findNow d K es 0 = some r) : (Instr.findKey kt K es).run P w = .ok r w := by
  unfold Instr.findKey
  rw [Sem.run_bind, run_underlying hk, Result.andThen_ok, h]; rfl

theorem run_checkKey {b : Bool} {kt : TypeId} {K : Value} (h : (∃ ik z, P.underlying kt = some (.int ik) ∧ K = .int .i64 z) ∨ (∃ s, P.underlying kt = some .string ∧ K = .string s)) : (Instr.checkKey b 10000 kt K).run P w = .ok () w := by
  have key : ∀ n, (Instr.checkKey b (n + 1) kt K).run P w = .ok () w := fun n => by
    rw [Instr.checkKey]
    rcases h with ⟨ik, z, hu, rfl⟩ | ⟨s, hu, rfl⟩ <;> rw [Sem.run_bind, run_underlying hu] <;> rfl
  exact key 9999

theorem run_keyThatStays {K : Value} (h : (∃ z, K = .int .i64 z) ∨ ∃ s, K = .string s) : (Instr.keyThatStays K K).run P w = .ok K w := by
  unfold Instr.keyThatStays
  have : Instr.sameBits 10000 K K = true := by
    have key : ∀ n, Instr.sameBits n K K = true := fun n => by rcases h with ⟨z, rfl⟩ | ⟨s, rfl⟩ <;> cases n <;> simp [Instr.sameBits, beq_toListBytes]
    exact key _
  rw [if_pos this]; rfl

theorem run_getObj {g : Nat} {ob : Obj} (h : w.heap[g]? = some ob) (hc : ∀ c E fz, ob ≠ .cells c E fz) : (getObj g).run P w = .ok ob w := by
  unfold getObj Sem.run
  rw [h]
  cases ob <;> first | rfl | exact absurd rfl (hc _ _ _)
theorem run_setObj {g : Nat} {ob ob' : Obj} (h : w.heap[g]? = some ob) (hc : ∀ c E fz, ob ≠ .cells c E fz) : (setObj g ob').run P w = .ok () (setW w g ob') := by
  unfold setObj Sem.run
  rw [h]
  cases ob <;> first | rfl | exact absurd rfl (hc _ _ _)
end

/-! ### Maps of int keys -/

section im
variable {μ : Nat → Nat} {nx : Nat} {w : World} {t : PT AV} {clock : Nat} {es : Array MapEntry}

theorem ImR.find_some (h : ImR μ nx w t clock es) {ik : IntKind} {k : Nat} {x : AV} (hx : t.get k = some x) :
    ∃ i, ∃ hi : i < es.size, es[i].key = .int .i64 (k : Nat) ∧ Instr.findNow (.int ik) (.int .i64 (k : Nat)) es.toList 0 = some (some (i, es[i].val)) ∧ ∃ a, x = .tu (.cons a (.cons (.p es[i].born) .nil)) ∧ VR μ nx w a es[i].val := by
  obtain ⟨i, hi, hk⟩ := h.has k x hx
  obtain ⟨k', hk', a, ha, hv⟩ := h.key i hi
  have : k' = k := by rw [hk] at hk'; injection hk' with _ e; omega
  subst this
  rw [hx] at ha
  cases ha
  have hf := findNow_some (kind := .int ik) (K := .int .i64 (k' : Nat)) es.toList 0 i (by simpa using hi) (fun j hj => by
      have hj' : j < es.size := by omega
      obtain ⟨kj, hkj, _⟩ := h.key j hj'
      simp only [Array.getElem_toList, hkj, Instr.sameNow, if_true, Option.some.injEq]
      rw [Bool.eq_false_iff, ne_eq, beq_iff_eq]
      intro e
      have := h.one j i hj' hi (by rw [hkj, hk, e])
      omega) (by simp [hk, Instr.sameNow])
  rw [Nat.zero_add] at hf
  exact ⟨i, hi, hk, by simpa using hf, a, rfl, hv⟩

theorem ImR.find_none (h : ImR μ nx w t clock es) {ik : IntKind} {k : Nat} (hx : t.get k = none) : Instr.findNow (.int ik) (.int .i64 (k : Nat)) es.toList 0 = some none := by
  refine findNow_none _ _ fun e he => ?_
  obtain ⟨j, hj, rfl⟩ := List.mem_iff_getElem.1 he
  have hj' : j < es.size := by simpa using hj
  obtain ⟨kj, hkj, a, ha, _⟩ := h.key j hj'
  simp only [Array.getElem_toList, hkj, Instr.sameNow, if_true, Option.some.injEq]
  rw [Bool.eq_false_iff, ne_eq, beq_iff_eq]
  intro e
  have : kj = k := by omega
  rw [this, hx] at ha; cases ha

/-- An entry's value is replaced. -/
theorem ImR.set (h : ImR μ nx w t clock es) {k i : Nat} {a : AV} {v : Value} (hi : i < es.size) (hk : es[i].key = .int .i64 (k : Nat)) {t' : PT AV}
    (ht : ∀ j, t'.get j = if j = k then some (.tu (.cons a (.cons (.p es[i].born) .nil))) else t.get j) (hv : VR μ nx w a v) {f : MapEntry → MapEntry} (hf : ∀ e, e.key = .int .i64 (k : Nat) → (f e).key = e.key ∧ (f e).born = e.born ∧ (f e).val = v) :
    ImR μ nx w t' clock (es.modify i f) := by
  have hget : ∀ j (hj : j < (es.modify i f).size), (es.modify i f)[j] = if j = i then f (es[i]) else es[j]'(by simpa using hj) := fun j hj => by
    rw [Array.getElem_modify]
    by_cases e : i = j
    · subst e; simp
    · rw [if_neg e, if_neg (fun e' => e e'.symm)]
  have hkey : ∀ j (hj : j < (es.modify i f).size), (es.modify i f)[j].key = (es[j]'(by simpa using hj)).key ∧ (es.modify i f)[j].born = (es[j]'(by simpa using hj)).born := fun j hj => by
    rw [hget j hj]
    by_cases e : j = i
    · subst e; rw [if_pos rfl]; obtain ⟨h1, h2, _⟩ := hf _ hk; exact ⟨h1, h2⟩
    · rw [if_neg e]; exact ⟨rfl, rfl⟩
  refine ⟨fun j hj => ?_, fun k' x hx => ?_, fun j1 j2 h1 h2 e => ?_, fun j1 j2 h1 h2 e => ?_, fun j hj => ?_⟩
  · have hj' : j < es.size := by simpa using hj
    obtain ⟨kj, hkj, aj, haj, hvj⟩ := h.key j hj'
    refine ⟨kj, by rw [(hkey j hj).1]; exact hkj, ?_⟩
    rw [(hkey j hj).2, ht kj]
    by_cases e : j = i
    · subst e
      have : kj = k := by rw [hk] at hkj; injection hkj with _ e; omega
      subst this
      refine ⟨a, by rw [if_pos rfl], ?_⟩
      rw [hget j hj, if_pos rfl, (hf _ hk).2.2]; exact hv
    · have hne : kj ≠ k := fun e' => e (h.one j i hj' hi (by rw [hkj, hk, e']))
      refine ⟨aj, by rw [if_neg hne]; exact haj, ?_⟩
      rw [hget j hj, if_neg e]; exact hvj
  · rw [ht k'] at hx
    by_cases e : k' = k
    · subst e; exact ⟨i, by simpa using hi, by rw [(hkey i (by simpa using hi)).1]; exact hk⟩
    · rw [if_neg e] at hx
      obtain ⟨j, hj, hkj⟩ := h.has k' x hx
      exact ⟨j, by simpa using hj, by rw [(hkey j (by simpa using hj)).1]; exact hkj⟩
  · rw [(hkey j1 h1).1, (hkey j2 h2).1] at e
    exact h.one j1 j2 (by simpa using h1) (by simpa using h2) e
  · rw [(hkey j1 h1).2, (hkey j2 h2).2] at e
    exact h.born j1 j2 (by simpa using h1) (by simpa using h2) e
  · rw [(hkey j hj).2]; exact h.lt j (by simpa using hj)

/-- An entry is added. -/
theorem ImR.add (h : ImR μ nx w t clock es) {k : Nat} {a : AV} {v : Value} (hx : t.get k = none) {t' : PT AV} (ht : ∀ j, t'.get j = if j = k then some (.tu (.cons a (.cons (.p clock) .nil))) else t.get j) (hv : VR μ nx w a v) :
    ImR μ nx w t' (clock + 1) (es.push { key := .int .i64 (k : Nat), val := v, born := clock }) := by
  have hold : ∀ j (hj : j < es.size), ∃ kj : Nat, es[j].key = .int .i64 (kj : Nat) ∧ kj ≠ k := fun j hj => by
    obtain ⟨kj, hkj, aj, haj, _⟩ := h.key j hj
    exact ⟨kj, hkj, fun e => by rw [e, hx] at haj; cases haj⟩
  refine ⟨fun j hj => ?_, fun k' x hx' => ?_, fun j1 j2 h1 h2 e => ?_, fun j1 j2 h1 h2 e => ?_, fun j hj => ?_⟩
  · rw [Array.getElem_push]
    split
    · rename_i hlt
      obtain ⟨kj, hkj, aj, haj, hvj⟩ := h.key j hlt
      have hne : kj ≠ k := fun e => by rw [e, hx] at haj; cases haj
      exact ⟨kj, hkj, aj, by rw [ht kj, if_neg hne]; exact haj, hvj⟩
    · exact ⟨k, rfl, a, by rw [ht k, if_pos rfl], hv⟩
  · rw [ht k'] at hx'
    by_cases e : k' = k
    · subst e; exact ⟨es.size, by simp, by simp⟩
    · rw [if_neg e] at hx'
      obtain ⟨j, hj, hkj⟩ := h.has k' x hx'
      exact ⟨j, by simp; omega, by rw [Array.getElem_push_lt hj]; exact hkj⟩
  · rw [Array.getElem_push, Array.getElem_push] at e
    simp only [Array.size_push] at h1 h2
    split at e <;> split at e
    · exact h.one j1 j2 _ _ e
    · rename_i hh _; obtain ⟨kj, hkj, hne⟩ := hold j1 hh; rw [hkj] at e; simp at e; omega
    · rename_i _ hh; obtain ⟨kj, hkj, hne⟩ := hold j2 hh; rw [hkj] at e; simp at e; omega
    · omega
  · rw [Array.getElem_push, Array.getElem_push] at e
    simp only [Array.size_push] at h1 h2
    split at e <;> split at e
    · exact h.born j1 j2 _ _ e
    · rename_i hh _; have := h.lt j1 hh; simp only at e; omega
    · rename_i _ hh; have := h.lt j2 hh; simp only at e; omega
    · omega
  · rw [Array.getElem_push]
    split
    · rename_i hlt; have := h.lt j hlt; omega
    · simp
end im

theorem ImR.empty (μ : Nat → Nat) (nx : Nat) (w : World) : ImR μ nx w .nil 0 #[] :=
  ⟨fun i hi => by simp at hi, fun k x hx => by simp at hx, fun i j hi => by simp at hi, fun i j hi => by simp at hi, fun i hi => by simp at hi⟩

/-! ### Maps of string keys -/

/-- An entry of a map of string keys, taken apart. -/
noncomputable def entK (e : AV) (k : Nat → Nat → AV → Nat → Res) : Res :=
  isTu e fun l => consK l (fun s r => isS s (fun len bits => consK r (fun a r => consK r (fun b r => isP b (fun b => consK r (fun _ _ => .fail 70) (k len bits a b) (.fail 70)) (.fail 70)) (.fail 70) (.fail 70)) (.fail 70) (.fail 70)) (.fail 70)) (.fail 70) (.fail 70)
def ent (len bits : Nat) (a : AV) (b : Nat) : AV := .tu (.cons (.s len bits) (.cons a (.cons (.p b) .nil)))
theorem entK_good {e : AV} {k : Nat → Nat → AV → Nat → Res} (h : (entK e k).good) : ∃ len bits a b, e = ent len bits a b ∧ (k len bits a b).good := by
  unfold entK at h
  obtain ⟨l, rfl, h1⟩ := isTu_good h
  rcases consK_or h1 with ⟨s, r, rfl, h2⟩ | ⟨rfl, h2⟩
  · obtain ⟨len, bits, rfl, h3⟩ := isS_good h2
    rcases consK_or h3 with ⟨a, r', rfl, h4⟩ | ⟨rfl, h4⟩
    · rcases consK_or h4 with ⟨b, r'', rfl, h5⟩ | ⟨rfl, h5⟩
      · obtain ⟨b', rfl, h6⟩ := isP_good h5
        rcases consK_or h6 with ⟨_, _, rfl, h7⟩ | ⟨rfl, h7⟩
        · exact absurd h7 Res.not_good_fail
        · exact ⟨len, bits, a, b', rfl, h7⟩
      · exact absurd h5 Res.not_good_fail
    · exact absurd h4 Res.not_good_fail
  · exact absurd h2 Res.not_good_fail

theorem SmR_cons {μ : Nat → Nat} {nx : Nat} {w : World} {clock len bits b : Nat} {a t : AV} {es : List MapEntry} : SmR μ nx w clock (.cons (ent len bits a b) t) es ↔
    ∃ e r, es = e :: r ∧ e.key = .string (dec len bits) ∧ bits < 256 ^ len ∧ VR μ nx w a e.val ∧ e.born = b ∧ b < clock ∧ (∀ e' ∈ r, e'.key ≠ e.key ∧ e'.born ≠ e.born) ∧ SmR μ nx w clock t r := by
  unfold ent; rw [SmR]
theorem SmR_nil {μ : Nat → Nat} {nx : Nat} {w : World} {clock : Nat} {es : List MapEntry} : SmR μ nx w clock .nil es ↔ es = [] := by rw [SmR]

/-- Search by the key. -/
noncomputable def smGetK (l : AV) (len bits : Nat) (k : AV → Nat → Res) (z : Res) : Res :=
  AV.rec (motive := fun _ => Nat → Nat → (AV → Nat → Res) → Res → Res) (fun _ _ _ _ => .fail 71) (fun _ _ _ _ _ => .fail 71) (fun _ _ _ _ _ => .fail 71) (fun _ _ _ _ _ => .fail 71) (fun _ _ _ _ _ _ => .fail 71) (fun _ _ _ _ _ _ => .fail 71) (fun _ _ _ _ _ _ => .fail 71)
    (fun _ _ _ _ => .fail 71) (fun _ _ _ _ _ _ _ _ _ => .fail 71) (fun _ _ _ _ => .fail 71) (fun _ _ _ _ => .fail 71) (fun _ _ _ _ _ => .fail 71) (fun _ _ _ _ => .fail 71) (fun _ _ _ _ _ _ _ _ _ => .fail 71) (fun _ _ _ _ => .fail 71) (fun _ _ _ _ _ _ => .fail 71) (fun _ _ _ _ _ _ => .fail 71)
    (fun _ _ _ z => z) (fun e _ _ ih len bits k z => entK e fun len' bits' a b => iteK (eqS len bits len' bits') (k a b) (ih len bits k z)) l len bits k z
theorem smGetK_cons (e t : AV) (len bits : Nat) (k : AV → Nat → Res) (z : Res) : smGetK (.cons e t) len bits k z = entK e fun len' bits' a b => iteK (eqS len bits len' bits') (k a b) (smGetK t len bits k z) := rfl

/-- Put under a key: the new list, if there was one, or if there was none. -/
noncomputable def smPutK (l : AV) (len bits : Nat) (v : AV) (clock : Nat) (k kn : AV → Res) : Res :=
  AV.rec (motive := fun _ => Nat → Nat → AV → Nat → (AV → Res) → (AV → Res) → Res) (fun _ _ _ _ _ _ => .fail 72) (fun _ _ _ _ _ _ _ => .fail 72) (fun _ _ _ _ _ _ _ => .fail 72) (fun _ _ _ _ _ _ _ => .fail 72) (fun _ _ _ _ _ _ _ _ => .fail 72) (fun _ _ _ _ _ _ _ _ => .fail 72) (fun _ _ _ _ _ _ _ _ => .fail 72)
    (fun _ _ _ _ _ _ => .fail 72) (fun _ _ _ _ _ _ _ _ _ _ _ => .fail 72) (fun _ _ _ _ _ _ => .fail 72) (fun _ _ _ _ _ _ => .fail 72) (fun _ _ _ _ _ _ _ => .fail 72) (fun _ _ _ _ _ _ => .fail 72) (fun _ _ _ _ _ _ _ _ _ _ _ => .fail 72) (fun _ _ _ _ _ _ => .fail 72) (fun _ _ _ _ _ _ _ _ => .fail 72) (fun _ _ _ _ _ _ _ _ => .fail 72)
    (fun len bits v clock _ kn => kn (.cons (ent len bits v clock) .nil))
    (fun e t _ ih len bits v clock k kn => entK e fun len' bits' _ b => iteK (eqS len bits len' bits') (k (.cons (ent len' bits' v b) t)) (ih len bits v clock (fun r => k (.cons e r)) (fun r => kn (.cons e r)))) l len bits v clock k kn
theorem smPutK_cons (e t : AV) (len bits : Nat) (v : AV) (clock : Nat) (k kn : AV → Res) : smPutK (.cons e t) len bits v clock k kn =
    entK e fun len' bits' _ b => iteK (eqS len bits len' bits') (k (.cons (ent len' bits' v b) t)) (smPutK t len bits v clock (fun r => k (.cons e r)) (fun r => kn (.cons e r))) := rfl

/-- Put into the entry that was born so. -/
noncomputable def smBornK (l : AV) (b : Nat) (v : AV) (k : AV → Res) : Res :=
  AV.rec (motive := fun _ => Nat → AV → (AV → Res) → Res) (fun _ _ _ => .fail 73) (fun _ _ _ _ => .fail 73) (fun _ _ _ _ => .fail 73) (fun _ _ _ _ => .fail 73) (fun _ _ _ _ _ => .fail 73) (fun _ _ _ _ _ => .fail 73) (fun _ _ _ _ _ => .fail 73)
    (fun _ _ _ => .fail 73) (fun _ _ _ _ _ _ _ _ => .fail 73) (fun _ _ _ => .fail 73) (fun _ _ _ => .fail 73) (fun _ _ _ _ => .fail 73) (fun _ _ _ => .fail 73) (fun _ _ _ _ _ _ _ _ => .fail 73) (fun _ _ _ => .fail 73) (fun _ _ _ _ _ => .fail 73) (fun _ _ _ _ _ => .fail 73)
    (fun _ _ _ => .fail 73)
    (fun e t _ ih b v k => entK e fun len' bits' _ b' => iteK (Nat.beq b b') (k (.cons (ent len' bits' v b') t)) (ih b v fun r => k (.cons e r))) l b v k
theorem smBornK_cons (e t : AV) (b : Nat) (v : AV) (k : AV → Res) : smBornK (.cons e t) b v k = entK e fun len' bits' _ b' => iteK (Nat.beq b b') (k (.cons (ent len' bits' v b') t)) (smBornK t b v fun r => k (.cons e r)) := rfl

section sm
variable {μ : Nat → Nat} {nx : Nat} {w : World} {clock : Nat}

theorem SmR.keys : ∀ {l : AV} {es : List MapEntry}, SmR μ nx w clock l es → ∀ e ∈ es, (∃ s, e.key = .string s) ∧ e.born < clock := by
  intro l
  induction l with
  | nil => intro es h e he; rw [SmR_nil] at h; subst h; cases he
  | cons x t _ it =>
    intro es h e he
    unfold SmR at h
    split at h
    · rename_i e; cases e
    · rename_i e'; obtain ⟨rfl, rfl⟩ := AV.cons.inj e'
      obtain ⟨e0, r, rfl, h2, h3, h4, h5, h6, h7, h8⟩ := h
      rcases List.mem_cons.1 he with rfl | he
      · exact ⟨⟨_, h2⟩, by rw [h5]; exact h6⟩
      · exact it h8 e he
    · exact h.elim
  | _ => intro es h; exact h.elim

theorem SmR.up : ∀ {l : AV} {es : List MapEntry}, SmR μ nx w clock l es → SmR μ nx w (clock + 1) l es := by
  intro l
  induction l with
  | nil => intro es h; exact h
  | cons x t _ it =>
    intro es h
    unfold SmR at h
    split at h
    · rename_i e; cases e
    · rename_i e; obtain ⟨rfl, rfl⟩ := AV.cons.inj e
      obtain ⟨e0, r, h1, h2, h3, h4, h5, h6, h7, h8⟩ := h
      unfold SmR
      exact ⟨e0, r, h1, h2, h3, h4, h5, by omega, h7, it h8⟩
    · exact h.elim
  | _ => intro es h; exact h.elim

theorem key_ne {len bits len' bits' : Nat} (h : bits < 256 ^ len) (h' : bits' < 256 ^ len') (hne : eqS len bits len' bits' = false) : dec len bits ≠ dec len' bits' := by
  rw [eqS_eq h h', decide_eq_false_iff_not] at hne; exact hne
theorem key_eq {len bits len' bits' : Nat} (h : bits < 256 ^ len) (h' : bits' < 256 ^ len') (he : eqS len bits len' bits' = true) : dec len bits = dec len' bits' := by
  rw [eqS_eq h h', decide_eq_true_eq] at he; exact he
end sm

/-- The entry under a key. -/
def SmHit (l : AV) (len bits : Nat) (a : AV) (b : Nat) : Prop := ∀ μ nx w clock es, SmR μ nx w clock l es → bits < 256 ^ len →
  ∃ i, ∃ hi : i < es.length, es[i].key = .string (dec len bits) ∧ (∀ j (hj : j < i), (es[j]'(by omega)).key ≠ .string (dec len bits)) ∧ VR μ nx w a es[i].val ∧ es[i].born = b
def SmMiss (l : AV) (len bits : Nat) : Prop := ∀ μ nx w clock es, SmR μ nx w clock l es → bits < 256 ^ len → ∀ e ∈ es, e.key ≠ .string (dec len bits)

theorem smGetK_good : ∀ {l : AV} {len bits : Nat} {k : AV → Nat → Res} {z : Res}, (smGetK l len bits k z).good → (∃ a b, SmHit l len bits a b ∧ (k a b).good) ∨ (SmMiss l len bits ∧ z.good) := by
  intro l
  induction l with
  | nil =>
    intro len bits k z h
    refine .inr ⟨fun μ nx w clock es he _ e hm => ?_, h⟩
    rw [SmR_nil] at he; subst he; cases hm
  | cons e t _ it =>
    intro len bits k z h
    rw [smGetK_cons] at h
    obtain ⟨len', bits', a, b, rfl, h0⟩ := entK_good h
    clear h
    have h := h0
    rw [iteK_eq] at h
    split at h
    · rename_i heq
      refine .inl ⟨a, b, fun μ nx w clock es he hb => ?_, h⟩
      obtain ⟨e0, r, rfl, h2, h3, h4, h5, _⟩ := SmR_cons.1 he
      exact ⟨0, by simp, by rw [key_eq hb h3 heq]; exact h2, fun j hj => by omega, h4, h5⟩
    · rename_i hne
      have hne : eqS len bits len' bits' = false := by simpa using hne
      rcases it h with ⟨a', b', hh, hk⟩ | ⟨hm, hz⟩
      · refine .inl ⟨a', b', fun μ nx w clock es he hb => ?_, hk⟩
        obtain ⟨e0, r, rfl, h2, h3, h4, h5, h6, h7, h8⟩ := SmR_cons.1 he
        obtain ⟨i, hi, hi1, hi2, hi3, hi4⟩ := hh μ nx w clock r h8 hb
        refine ⟨i + 1, by simp; omega, by simpa using hi1, fun j hj => ?_, by simpa using hi3, by simpa using hi4⟩
        cases j with
        | zero => simp only [List.getElem_cons_zero, h2]; intro e; injection e with e; exact key_ne hb h3 hne e.symm
        | succ j => simp only [List.getElem_cons_succ]; exact hi2 j (by omega)
      · refine .inr ⟨fun μ nx w clock es he hb x hx => ?_, hz⟩
        obtain ⟨e0, r, rfl, h2, h3, h4, h5, h6, h7, h8⟩ := SmR_cons.1 he
        rcases List.mem_cons.1 hx with rfl | hx
        · rw [h2]; intro e; injection e with e; exact key_ne hb h3 hne e.symm
        · exact hm μ nx w clock r h8 hb x hx
  | _ => intro len bits k z h; exact absurd h Res.not_good_fail

theorem modify_keys {f : MapEntry → MapEntry} (hf : ∀ e, (f e).key = e.key ∧ (f e).born = e.born) : ∀ (r : List MapEntry) (i : Nat) (e : MapEntry), (∀ e' ∈ r, e'.key ≠ e.key ∧ e'.born ≠ e.born) → ∀ e' ∈ r.modify i f, e'.key ≠ e.key ∧ e'.born ≠ e.born
  | [], i, e, h, e', he' => by simp at he'
  | x :: r, 0, e, h, e', he' => by
    simp only [List.modify_zero_cons] at he'
    rcases List.mem_cons.1 he' with rfl | he'
    · rw [(hf x).1, (hf x).2]; exact h x (by simp)
    · exact h e' (by simp [he'])
  | x :: r, i + 1, e, h, e', he' => by
    simp only [List.modify_succ_cons] at he'
    rcases List.mem_cons.1 he' with rfl | he'
    · exact h _ (by simp)
    · exact modify_keys hf r i e (fun y hy => h y (by simp [hy])) e' he'

theorem smPutK_good : ∀ {l : AV} {len bits : Nat} {v : AV} {clock : Nat} {k kn : AV → Res}, (smPutK l len bits v clock k kn).good →
    (∃ l' a b, SmHit l len bits a b ∧ (∀ μ nx w clock es i (hi : i < es.length) val, SmR μ nx w clock l es → bits < 256 ^ len → es[i].key = .string (dec len bits) → (∀ j (hj : j < i), (es[j]'(by omega)).key ≠ .string (dec len bits)) → VR μ nx w v val →
      SmR μ nx w clock l' (es.modify i fun e => { e with key := .string (dec len bits), val := val })) ∧ (k l').good) ∨
    (∃ l', SmMiss l len bits ∧ (∀ μ nx w es val, SmR μ nx w clock l es → bits < 256 ^ len → VR μ nx w v val → SmR μ nx w (clock + 1) l' (es ++ [{ key := .string (dec len bits), val := val, born := clock }])) ∧ (kn l').good) := by
  intro l
  induction l with
  | nil =>
    intro len bits v clock k kn h
    refine .inr ⟨_, fun μ nx w clock es he _ e hm => ?_, fun μ nx w es val he hb hv => ?_, h⟩
    · rw [SmR_nil] at he; subst he; cases hm
    rw [SmR_nil] at he; subst he
    rw [List.nil_append, SmR_cons]
    exact ⟨_, [], rfl, rfl, hb, hv, rfl, by omega, by simp, SmR_nil.2 rfl⟩
  | cons e t _ it =>
    intro len bits v clock k kn h
    rw [smPutK_cons] at h
    obtain ⟨len', bits', a, b, rfl, h0⟩ := entK_good h
    clear h
    have h := h0
    rw [iteK_eq] at h
    split at h
    · rename_i heq
      refine .inl ⟨_, a, b, fun μ nx w clock es he hb => ?_, fun μ nx w clock es i hi val he hb hkey hbef hv => ?_, h⟩
      · obtain ⟨e0, r, rfl, h2, h3, h4, h5, _⟩ := SmR_cons.1 he
        exact ⟨0, by simp, by rw [key_eq hb h3 heq]; exact h2, fun j hj => by omega, h4, h5⟩
      · obtain ⟨e0, r, rfl, h2, h3, h4, h5, h6, h7, h8⟩ := SmR_cons.1 he
        have hd := key_eq hb h3 heq
        cases i with
        | zero =>
          rw [SmR_cons]
          exact ⟨_, r, rfl, by rw [← hd], h3, hv, h5, h6, fun e' he' => by have := h7 e' he'; rw [h2] at this; simp only [hd]; exact this, h8⟩
        | succ i => exact absurd (by simp only [List.getElem_cons_zero]; rw [h2, hd]) (hbef 0 (by omega))
    · rename_i hne
      have hne : eqS len bits len' bits' = false := by simpa using hne
      rcases it h with ⟨l', a', b', hh, hs, hk⟩ | ⟨l', hm, ha, hz⟩
      · refine .inl ⟨_, a', b', fun μ nx w clock es he hb => ?_, fun μ nx w clock es i hi val he hb hkey hbef hv => ?_, hk⟩
        · obtain ⟨e0, r, rfl, h2, h3, h4, h5, h6, h7, h8⟩ := SmR_cons.1 he
          obtain ⟨i, hi, hi1, hi2, hi3, hi4⟩ := hh μ nx w clock r h8 hb
          refine ⟨i + 1, by simp; omega, by simpa using hi1, fun j hj => ?_, by simpa using hi3, by simpa using hi4⟩
          cases j with
          | zero => simp only [List.getElem_cons_zero, h2]; intro e; injection e with e; exact key_ne hb h3 hne e.symm
          | succ j => simp only [List.getElem_cons_succ]; exact hi2 j (by omega)
        · obtain ⟨e0, r, rfl, h2, h3, h4, h5, h6, h7, h8⟩ := SmR_cons.1 he
          cases i with
          | zero =>
            simp only [List.getElem_cons_zero, h2] at hkey
            injection hkey with e; exact absurd e.symm (key_ne hb h3 hne)
          | succ i =>
            simp only [List.getElem_cons_succ] at hkey
            simp only [List.length_cons] at hi
            have hir : i < r.length := by omega
            rw [List.modify_succ_cons, SmR_cons]
            refine ⟨e0, _, rfl, h2, h3, h4, h5, h6, fun e' he' => ?_, hs μ nx w clock r i hir val h8 hb hkey (fun j hj => by have := hbef (j + 1) (by omega); simpa using this) hv⟩
            obtain ⟨j, hj, rfl⟩ := List.mem_iff_getElem.1 he'
            have hj' : j < r.length := by simpa using hj
            rw [List.getElem_modify]
            have hjj := h7 (r[j]) (List.getElem_mem _)
            split
            · rename_i eij; subst eij
              exact ⟨by simp only; rw [← hkey]; exact hjj.1, hjj.2⟩
            · exact hjj
      · refine .inr ⟨_, fun μ nx w clock es he hb x hx => ?_, fun μ nx w es val he hb hv => ?_, hz⟩
        · obtain ⟨e0, r, rfl, h2, h3, h4, h5, h6, h7, h8⟩ := SmR_cons.1 he
          rcases List.mem_cons.1 hx with rfl | hx
          · rw [h2]; intro e; injection e with e; exact key_ne hb h3 hne e.symm
          · exact hm μ nx w clock r h8 hb x hx
        · obtain ⟨e0, r, rfl, h2, h3, h4, h5, h6, h7, h8⟩ := SmR_cons.1 he
          rw [List.cons_append, SmR_cons]
          refine ⟨e0, _, rfl, h2, h3, h4, h5, by omega, fun e' he' => ?_, ha μ nx w r val h8 hb hv⟩
          rcases List.mem_append.1 he' with he' | he'
          · exact h7 e' he'
          · simp only [List.mem_singleton] at he'; subst he'
            refine ⟨?_, by simp only; omega⟩
            rw [h2]; intro e; injection e with e; exact key_ne hb h3 hne e
  | _ => intro len bits v clock k kn h; exact absurd h Res.not_good_fail

theorem smBornK_good : ∀ {l : AV} {b : Nat} {v : AV} {k : AV → Res}, (smBornK l b v k).good →
    ∃ l', (∀ μ nx w clock es val, SmR μ nx w clock l es → VR μ nx w v val → ∃ i, es.findIdx? (fun e => (e.born : Int) == (b : Int)) = some i ∧ SmR μ nx w clock l' (es.modify i fun e => { e with val := val })) ∧ (k l').good := by
  intro l
  induction l with
  | cons e t _ it =>
    intro b v k h
    rw [smBornK_cons] at h
    obtain ⟨len', bits', a, b', rfl, h0⟩ := entK_good h
    clear h
    have h := h0
    rw [iteK_eq] at h
    split at h
    · rename_i heq
      have heq : b = b' := Nat.eq_of_beq_eq_true heq
      refine ⟨_, fun μ nx w clock es val he hv => ?_, h⟩
      obtain ⟨e0, r, rfl, h2, h3, h4, h5, h6, h7, h8⟩ := SmR_cons.1 he
      refine ⟨0, by simp [List.findIdx?_cons, h5, heq], ?_⟩
      rw [List.modify_zero_cons, SmR_cons]
      exact ⟨_, r, rfl, h2, h3, hv, h5, h6, h7, h8⟩
    · rename_i hne
      have hne : b ≠ b' := fun e => hne (by rw [e]; simp)
      obtain ⟨l', hl, hk⟩ := it h
      refine ⟨_, fun μ nx w clock es val he hv => ?_, hk⟩
      obtain ⟨e0, r, rfl, h2, h3, h4, h5, h6, h7, h8⟩ := SmR_cons.1 he
      obtain ⟨i, hi, hs⟩ := hl μ nx w clock r val h8 hv
      refine ⟨i + 1, ?_, ?_⟩
      · rw [List.findIdx?_cons]
        have : ((e0.born : Int) == (b : Int)) = false := by rw [Bool.eq_false_iff, ne_eq, beq_iff_eq]; omega
        rw [this]; simp [hi]
      · rw [List.modify_succ_cons, SmR_cons]
        exact ⟨e0, _, rfl, h2, h3, h4, h5, h6, modify_keys (f := fun e => { e with val := val }) (fun e => ⟨rfl, rfl⟩) r i e0 h7, hs⟩
  | nil => intro b v k h; exact absurd h Res.not_good_fail
  | _ => intro b v k h; exact absurd h Res.not_good_fail

theorem SmR.find_some {μ : Nat → Nat} {nx : Nat} {w : World} {clock : Nat} {l : AV} {es : List MapEntry} (h : SmR μ nx w clock l es) {s : ByteArray} {i : Nat} (hi : i < es.length) (hk : es[i].key = .string s)
    (hb : ∀ j (hj : j < i), (es[j]'(by omega)).key ≠ .string s) : Instr.findNow .string (.string s) es 0 = some (some (i, es[i].val)) := by
  have := findNow_some (kind := .string) (K := .string s) es 0 i hi (fun j hj => by
    obtain ⟨⟨s', hs'⟩, _⟩ := h.keys es[j] (List.getElem_mem _)
    have hne := hb j hj
    rw [hs'] at hne ⊢
    simp only [Instr.sameNow, Option.some.injEq, beq_toListBytes, toList_beq, decide_eq_false_iff_not]
    exact fun e => hne (by rw [e])) (by rw [hk]; simp [Instr.sameNow, beq_toListBytes])
  rwa [Nat.zero_add] at this
theorem SmR.find_none {μ : Nat → Nat} {nx : Nat} {w : World} {clock : Nat} {l : AV} {es : List MapEntry} (h : SmR μ nx w clock l es) {s : ByteArray} (hb : ∀ e ∈ es, e.key ≠ .string s) : Instr.findNow .string (.string s) es 0 = some none := by
  refine findNow_none _ _ fun e he => ?_
  obtain ⟨⟨s', hs'⟩, _⟩ := h.keys e he
  have hne := hb e he
  rw [hs'] at hne ⊢
  simp only [Instr.sameNow, Option.some.injEq, beq_toListBytes, toList_beq, decide_eq_false_iff_not]
  exact fun e => hne (by rw [e])

end Go.Ev
