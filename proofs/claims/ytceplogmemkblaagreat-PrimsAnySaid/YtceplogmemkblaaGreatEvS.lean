/-
  An abstract evaluator for Go code under the model: regions that draw their order: the order is reckoned, and tried.
-/
import Derived.Test.YtceplogmemkblaaGreatEvR
namespace Go.Ev

structure Info where
  dns : List Nat
  ch : List Nat
  zi : Nat
  lo : List Nat
  hi : List Nat
  plan : List PI

def edgeMask (dns : List Nat) (es : List Edge) : Nat :=
  es.foldr (fun e s => if Region.binds .any e then (2 ^ e.on ||| dns.getD e.on 0) ||| s else s) 0

theorem edgeMask_bit (dns : List Nat) (k : Nat) : ∀ (es : List Edge), (edgeMask dns es).testBit k = true → ∃ e ∈ es, Region.binds .any e = true ∧ (e.on = k ∨ (dns.getD e.on 0).testBit k = true)
  | [], h => by simp [edgeMask] at h
  | e :: es, h => by
    unfold edgeMask at h
    simp only [List.foldr_cons] at h
    split at h
    · rename_i hb
      rw [Nat.testBit_or, Nat.testBit_or, Bool.or_eq_true, Bool.or_eq_true] at h
      rcases h with (h | h) | h
      · rw [Nat.testBit_two_pow] at h
        exact ⟨e, by simp, hb, .inl (by simpa using h)⟩
      · exact ⟨e, by simp, hb, .inr h⟩
      · obtain ⟨e', he, h1⟩ := edgeMask_bit dns k es h
        exact ⟨e', by simp [he], h1⟩
    · obtain ⟨e', he, h1⟩ := edgeMask_bit dns k es h
      exact ⟨e', by simp [he], h1⟩

namespace Info
def stat (x : Info) : Stat where
  dn j k := (x.dns.getD j 0).testBit k
  m := x.ch.length
  ch i := x.ch.getD i 0
  ci j := x.ch.idxOf? j
  zi := x.zi
  lo j := x.lo.getD j 0
  hi j := x.hi.getD j 0
end Info

def dstOf (ops : Array Oper) (j : Nat) : Option Tmp := (ops[j]?).bind (·.dst)
def looksOf (ops : Array Oper) (j : Nat) : List Tmp := match ops[j]? with | some o => o.looksAt ops | none => []

def statB (nt : Nat) (ops : Array Oper) (x : Info) : Bool :=
  let n := ops.size
  let st := x.stat
  x.dns.length == n &&
  (List.range n).all (fun j => match ops[j]? with
    | some o => o.after.toList.all (fun e => !Region.binds .any e || decide (e.on < j)) && (x.dns.getD j 0 == edgeMask x.dns o.after.toList)
    | none => false) &&
  (List.range st.m).all (fun i => decide (st.ch i < n) && (st.ci (st.ch i) == some i)) &&
  (List.range st.m).all (fun i' => i' == st.zi || (List.range i').all fun i => st.dn (st.ch i') (st.ch i)) &&
  (List.range n).all (fun j => (st.ci j).isSome || ((List.range (st.lo j)).all fun i => decide (i < st.m) && st.dn j (st.ch i))) &&
  (List.range n).all (fun j => (st.ci j).isSome || ((List.range st.m).all fun i => decide (i < st.hi j) || st.dn (st.ch i) j)) &&
  (List.range n).all (fun j => (List.range n).all fun j' => match dstOf ops j, dstOf ops j' with | some t, some t' => t != t' || j == j' | _, _ => true) &&
  (List.range n).all (fun j => (looksOf ops j).all fun t => (List.range n).all fun k => dstOf ops k != some t || (k == j || (st.dn j k || st.dn k j))) &&
  (decide (st.m ≤ st.zi) || (List.range n).all (fun j => (looksOf ops j).all fun t => dstOf ops (st.ch st.zi) != some t || (List.range (st.zi + 1)).all fun i => st.dn j (st.ch i))) &&
  (List.range n).all (fun j => match dstOf ops j with | some t => decide (t < nt) && (ixOf t).isSome | none => true)

theorem all_range {n : Nat} {f : Nat → Bool} (h : (List.range n).all f = true) {j : Nat} (hj : j < n) : f j = true := List.all_eq_true.1 h j (List.mem_range.2 hj)

theorem dstOf_some {ops : Array Oper} {j : Nat} {o : Oper} (h : ops[j]? = some o) : dstOf ops j = o.dst := by simp [dstOf, h]
theorem looksOf_some {ops : Array Oper} {j : Nat} {o : Oper} (h : ops[j]? = some o) : looksOf ops j = o.looksAt ops := by simp [looksOf, h]
theorem lt_of_some {ops : Array Oper} {j : Nat} {o : Oper} (h : ops[j]? = some o) : j < ops.size := (Array.getElem?_eq_some_iff.1 h).1

theorem statB_ok {nt : Nat} {ops : Array Oper} {x : Info} (h : statB nt ops x = true) : StatOK nt ops x.stat := by
  unfold statB at h
  simp only [Bool.and_eq_true] at h
  obtain ⟨⟨⟨⟨⟨⟨⟨⟨⟨h0, h1⟩, h2⟩, h3⟩, h4⟩, h5⟩, h6⟩, h7⟩, h8⟩, h9⟩ := h
  have hlen : x.dns.length = ops.size := by simpa using h0
  refine ⟨fun j o e ho he hb => ?_, fun j k hd => ?_, fun i hi => ?_, fun j i hc => ?_, fun i i' hlt hm hne => ?_, fun j hj hc i hi => ?_, fun j hj hc i hi hm => ?_, fun j j' o o' t ho ho' hd hd' => ?_, fun j o k o' t ho ho' ht hd hne => ?_, fun hz j o t oz ho hoz hd ht i hi => ?_, fun j o t ho hd => ?_⟩
  · have := all_range h1 (lt_of_some ho)
    simp only [ho, Bool.and_eq_true] at this
    have h := List.all_eq_true.1 this.1 e (by simpa using he)
    simpa [hb] using h
  · have hj : j < ops.size := by
      rcases Nat.lt_or_ge j ops.size with h | h
      · exact h
      · exfalso
        have : x.dns.getD j 0 = 0 := by simp [hlen, h]
        simp only [Info.stat, this, Nat.zero_testBit] at hd
        cases hd
    have := all_range h1 hj
    have ho : ops[j]? = some ops[j] := by simp [hj]
    simp only [ho, Bool.and_eq_true, beq_iff_eq] at this
    have hd : (x.dns.getD j 0).testBit k = true := hd
    rw [this.2] at hd
    obtain ⟨e, he, hb, hor⟩ := edgeMask_bit _ _ _ hd
    exact ⟨ops[j], ho, e, by simpa using he, hb, hor⟩
  · have := all_range h2 hi
    simp only [Bool.and_eq_true, decide_eq_true_eq, beq_iff_eq] at this
    exact this
  · have hc : x.ch.idxOf? j = some i := hc
    unfold List.idxOf? at hc
    obtain ⟨hi, h, _⟩ := List.findIdx?_eq_some_iff_getElem.1 hc
    refine ⟨hi, ?_⟩
    show x.ch.getD i 0 = j
    simpa [hi] using h
  · have := all_range h3 hm
    simp only [Bool.or_eq_true, beq_iff_eq, hne, false_or] at this
    exact all_range this hlt
  · have := all_range h4 hj
    simp only [hc, Option.isSome_none, Bool.false_or] at this
    have := all_range this hi
    simpa using this
  · have := all_range h5 hj
    simp only [hc, Option.isSome_none, Bool.false_or] at this
    have := all_range this hm
    simp only [Bool.or_eq_true, decide_eq_true_eq] at this
    exact this.resolve_left (by omega)
  · have := all_range (all_range h6 (lt_of_some ho)) (lt_of_some ho')
    simp only [dstOf_some ho, dstOf_some ho', hd, hd', bne_self_eq_false, Bool.false_or, beq_iff_eq] at this
    exact this
  · have := all_range h7 (lt_of_some ho)
    rw [looksOf_some ho] at this
    have := all_range (List.all_eq_true.1 this t ht) (lt_of_some ho')
    simp only [dstOf_some ho', hd, bne_self_eq_false, Bool.false_or, Bool.or_eq_true, beq_iff_eq] at this
    exact this.resolve_left hne
  · rw [Bool.or_eq_true] at h8
    have := all_range (h8.resolve_left (by simp; omega)) (lt_of_some ho)
    rw [looksOf_some ho] at this
    have := List.all_eq_true.1 this t ht
    simp only [dstOf_some hoz, hd, bne_self_eq_false, Bool.false_or] at this
    exact all_range this (by omega)
  · have := all_range h9 (lt_of_some ho)
    simp only [dstOf_some ho, hd, Bool.and_eq_true, decide_eq_true_eq] at this
    obtain ⟨i, hi⟩ := Option.isSome_iff_exists.1 this.2
    exact ⟨this.1, i, ixOf_toNat hi⟩

/-! ### The order is in order -/

def wrOK (ops : Array Oper) (st : Stat) (D : Nat) (j : Nat) : Bool :=
  (looksOf ops j).all fun t => (List.range ops.size).all fun k => dstOf ops k != some t || (st.dn j k == D.testBit k)

def isLoadAt (P : Program) (ops : Array Oper) (j : Nat) : Bool := match ops[j]? with | some o => isLoad P o | none => false

def cksOK (P : Program) (ops : Array Oper) (st : Stat) (D q : Nat) (cks : List Nat) : Bool :=
  (List.range ops.size).all (fun k => !(D.testBit k && (isLoadAt P ops k && ((st.ci k).isNone && decide (q ≤ st.hi k)))) || cks.contains k) && cks.all (fun k => wrOK ops st D k && D.testBit k)

def walkB (P : Program) (ops : Array Oper) (st : Stat) : List PI → Nat → Nat → Bool
  | [], D, q => (List.range ops.size).all (fun j => D.testBit j) && q == st.m
  | .H j :: r, D, q => !D.testBit j && (st.ci j).isNone && st.lo j == q && wrOK ops st D j && walkB P ops st r (D ||| 2 ^ j) q
  | .C j cks :: r, D, q => !D.testBit j && decide (q < st.m) && q != st.zi && st.ch q == j && wrOK ops st D j && cksOK P ops st (D ||| 2 ^ j) (q + 1) cks && walkB P ops st r (D ||| 2 ^ j) (q + 1)
  | .Z j cks :: r, D, q => !D.testBit j && decide (q < st.m) && q == st.zi && st.ch q == j && wrOK ops st D j && (dstOf ops j).isSome && cksOK P ops st (D ||| 2 ^ j) (q + 1) cks && walkB P ops st r (D ||| 2 ^ j) (q + 1)

theorem bit_or (D j k : Nat) : (D ||| 2 ^ j).testBit k = true ↔ k = j ∨ D.testBit k = true := by
  rw [Nat.testBit_or, Bool.or_eq_true, Nat.testBit_two_pow]
  simp only [decide_eq_true_eq]
  exact ⟨fun h => h.symm.imp Eq.symm id, fun h => (h.imp Eq.symm id).symm⟩

section
variable {P : Program} {nt : Nat} {ops : Array Oper} {st : Stat} {ini : Ix → AV}

/-- What the rest of the order shows. -/
structure Rest (P : Program) (ops : Array Oper) (st : Stat) (ini : Ix → AV) (D q : Nat) (e : Env) (h : H) (e' : Env) (hs : List H) : Prop where
  keep : ∀ i, (∀ k, Wr ops k i → D.testBit k = true) → e'.get i = e.get i
  len : hs.length = st.m - q
  qm : q ≤ st.m
  hold : ∀ j o, ops[j]? = some o → st.ci j = none → D.testBit j = false → q ≤ st.lo j ∧ ∃ v, (∀ i : Ix, o.dst = some i.toNat → e'.get i = v) ∧
    ∀ q', st.lo j ≤ q' → q' ≤ st.hi j → q' ≤ st.m → StepS P ops o (opv ops st ini e'.get j) (hat h hs (q' - q)) v (hat h hs (q' - q))
  again : ∀ j o, ops[j]? = some o → st.ci j = none → D.testBit j = true → isLoad P o = true → ∀ q', q < q' → q' ≤ st.hi j → q' ≤ st.m →
    ∃ i : Ix, o.dst = some i.toNat ∧ StepS P ops o (opv ops st ini e'.get j) (hat h hs (q' - q)) (e'.get i) (hat h hs (q' - q))
  chain : ∀ i, q ≤ i → i < st.m → i ≠ st.zi → ∀ o, ops[st.ch i]? = some o → ∃ v, (∀ x : Ix, o.dst = some x.toNat → e'.get x = v) ∧
    StepS P ops o (opv ops st ini e'.get (st.ch i)) (hat h hs (i - q)) v (hat h hs (i + 1 - q))
  late : q ≤ st.zi → st.zi < st.m → ∀ o, ops[st.ch st.zi]? = some o → ∃ x : Ix, o.dst = some x.toNat ∧ LateS P ops o (opv ops st ini e'.get (st.ch st.zi)) (e'.get x) (hat h hs (st.zi - q)) (hat h hs (st.zi + 1 - q))

theorem StepS.congr {o : Oper} {ρ ρ' : Ix → AV} {h h' : H} {v : AV} (hs : StepS P ops o ρ h v h') (he : ∀ i : Ix, i.toNat ∈ o.looksAt ops → ρ' i = ρ i) : StepS P ops o ρ' h v h' := by
  intro μ w a Q K hr hh hk
  refine hs μ w a Q K (fun t ht i hi => ?_) hh hk
  have := hr t ht i hi
  rwa [he i (by rw [ixOf_toNat hi]; exact ht)] at this

theorem opv_env (so : StatOK nt ops st) {D j : Nat} {o : Oper} {e e' : Env} (ho : ops[j]? = some o) (hw : wrOK ops st D j = true) (inv : ∀ i, (∀ k, Wr ops k i → D.testBit k = false) → e.get i = ini i)
    (keep : ∀ i, (∀ k, Wr ops k i → D.testBit k = true) → e'.get i = e.get i) (i : Ix) (hi : i.toNat ∈ o.looksAt ops) : opv ops st ini e'.get j i = e.get i := by
  have key : ∀ k, Wr ops k i → st.dn j k = D.testBit k := by
    rintro k ⟨o', ho', hd⟩
    unfold wrOK at hw
    rw [looksOf_some ho] at hw
    have := all_range (List.all_eq_true.1 hw _ hi) (lt_of_some ho')
    simpa [dstOf_some ho', hd] using this
  unfold opv
  split
  · rename_i hex
    obtain ⟨k, hk, hd⟩ := hex
    refine (inv i fun k' hk' => ?_).symm
    obtain ⟨o1, ho1, hd1⟩ := hk
    obtain ⟨o2, ho2, hd2⟩ := hk'
    have := so.w1 k k' o1 o2 _ ho1 ho2 hd1 hd2
    rw [← this, ← key k ⟨o1, ho1, hd1⟩, hd]
  · rename_i hex
    refine keep i fun k hk => ?_
    rw [← key k hk]
    cases h : st.dn j k
    · exact absurd ⟨k, hk, h⟩ hex
    · rfl

theorem dset_get {o : Oper} {d : DD} {e : Env} {v : AV} (hd : cmpD nt o.dst = some d) (i : Ix) : (dset d e v).get i = if o.dst = some i.toNat then v else e.get i := by
  unfold cmpD at hd
  split at hd
  · rename_i hn; cases hd; rw [hn]; simp [dset]
  · rename_i t hn
    split at hd
    · obtain ⟨j, hj, rfl⟩ := Option.map_eq_some_iff.1 hd
      rw [hn]
      simp only [dset, Env.get_set]
      by_cases e : i = j
      · subst e; rw [if_pos rfl, if_pos (by rw [ixOf_toNat hj])]
      · rw [if_neg e, if_neg (fun q => e (Ix.toNat_inj (by rw [ixOf_toNat hj]; exact (Option.some.inj q).symm)))]
    · cases hd

theorem LateS.congr {o : Oper} {ρ ρ' : Ix → AV} {h h' : H} {v : AV} (hs : LateS P ops o ρ v h h') (he : ∀ i : Ix, i.toNat ∈ o.looksAt ops → ρ' i = ρ i) : LateS P ops o ρ' v h h' := by
  obtain ⟨az, cv, t', ⟨hg, hm⟩, hr⟩ := hs
  refine ⟨az, cv, t', ⟨hg, fun μ nx w a hrho => hm μ nx w a fun t ht i hi => ?_⟩, hr⟩
  have := hrho t ht i hi
  rwa [he i (by rw [ixOf_toNat hi]; exact ht)] at this

/-- What holds of the state behind an item. -/
theorem inv_next {D j : Nat} {o : Oper} {d : DD} {e : Env} {v : AV} (ho : ops[j]? = some o) (hd : cmpD nt o.dst = some d) (inv : ∀ i, (∀ k, Wr ops k i → D.testBit k = false) → e.get i = ini i) :
    ∀ i, (∀ k, Wr ops k i → (D ||| 2 ^ j).testBit k = false) → (dset d e v).get i = ini i := by
  intro i hi
  have hnw : o.dst ≠ some i.toNat := fun h => by
    have := hi j ⟨o, ho, h⟩
    have h2 := (bit_or D j j).2 (.inl rfl)
    rw [this] at h2; cases h2
  rw [dset_get hd, if_neg hnw]
  refine inv i fun k hk => ?_
  have := hi k hk
  cases h : D.testBit k
  · rfl
  · rw [(bit_or D j k).2 (.inr h)] at this; cases this

theorem keep_next (so : StatOK nt ops st) {D j : Nat} {o : Oper} {d : DD} {e e' : Env} {v : AV} (ho : ops[j]? = some o) (hd : cmpD nt o.dst = some d) (hj : D.testBit j = false)
    (keep : ∀ i, (∀ k, Wr ops k i → (D ||| 2 ^ j).testBit k = true) → e'.get i = (dset d e v).get i) :
    (∀ i, (∀ k, Wr ops k i → D.testBit k = true) → e'.get i = e.get i) ∧ (∀ i : Ix, o.dst = some i.toNat → e'.get i = v) := by
  refine ⟨fun i hi => ?_, fun i hi => ?_⟩
  · rw [keep i fun k hk => (bit_or D j k).2 (.inr (hi k hk)), dset_get hd, if_neg]
    intro h
    have := hi j ⟨o, ho, h⟩
    rw [hj] at this; cases this
  · rw [keep i, dset_get hd, if_pos hi]
    rintro k ⟨o', ho', hd'⟩
    exact (bit_or D j k).2 (.inl (so.w1 k j o' o _ ho' ho hd' hi))

theorem again_of (so : StatOK nt ops st) {D q : Nat} {e e' : Env} {h : H} {cks : List Nat} (hc : cksOK P ops st D q cks = true) (ha : Again P ops e h cks) (inv : ∀ i, (∀ k, Wr ops k i → D.testBit k = false) → e.get i = ini i)
    (keep : ∀ i, (∀ k, Wr ops k i → D.testBit k = true) → e'.get i = e.get i) {j : Nat} {o : Oper} (ho : ops[j]? = some o) (hci : st.ci j = none) (hD : D.testBit j = true) (hl : isLoad P o = true) (hq : q ≤ st.hi j) :
    ∃ i : Ix, o.dst = some i.toNat ∧ StepS P ops o (opv ops st ini e'.get j) h (e'.get i) h := by
  unfold cksOK at hc
  rw [Bool.and_eq_true] at hc
  have h1 := all_range hc.1 (lt_of_some ho)
  have hla : isLoadAt P ops j = true := by unfold isLoadAt; rw [ho]; exact hl
  simp only [hD, hla, hci, Option.isNone_none, hq, decide_true, Bool.and_self, Bool.not_true, Bool.false_or] at h1
  have hm : j ∈ cks := by simpa using h1
  have h2 := List.all_eq_true.1 hc.2 j hm
  rw [Bool.and_eq_true] at h2
  obtain ⟨ok, i, hok, hd, hs⟩ := ha j hm
  rw [ho] at hok; cases hok
  refine ⟨i, hd, ?_⟩
  have hi : e'.get i = e.get i := keep i (by
    rintro k ⟨o', ho', hd'⟩
    rw [so.w1 k j o' o _ ho' ho hd' hd]; exact hD)
  rw [hi]
  exact hs.congr fun x hx => opv_env so ho h2.1 inv keep x hx

theorem rest_good (so : StatOK nt ops st) : ∀ (plan : List PI) (D q : Nat) (e : Env) (h : H) (e' : Env) (hs : List H), walkB P ops st plan D q = true → Tr P nt ops plan e h e' hs →
    (∀ i, (∀ k, Wr ops k i → D.testBit k = false) → e.get i = ini i) → Rest P ops st ini D q e h e' hs
  | [], D, q, e, h, e', hs, hw, ht, _ => by
    obtain ⟨rfl, rfl⟩ := ht
    unfold walkB at hw
    simp only [Bool.and_eq_true, beq_iff_eq] at hw
    obtain ⟨h1, h2⟩ := hw
    refine ⟨fun _ _ => rfl, by simp [h2], by omega, fun j o ho _ hD => ?_, fun j o _ _ _ _ q' h3 _ h4 => by omega, fun i h3 h4 => by omega, fun h3 h4 => by omega⟩
    have := all_range h1 (lt_of_some ho)
    rw [hD] at this; cases this
  | .H j :: r, D, q, e, h, e', hs, hw, ht, inv => by
    obtain ⟨o, d, v, ho, hd, hs1, hp, ht⟩ := ht
    unfold walkB at hw
    simp only [Bool.and_eq_true, beq_iff_eq, Bool.not_eq_true'] at hw
    obtain ⟨⟨⟨⟨w1, w2⟩, w3⟩, w4⟩, w5⟩ := hw
    have hci : st.ci j = none := by simpa using w2
    have R := rest_good so r _ q _ h e' hs w5 ht (inv_next ho hd inv)
    obtain ⟨k1, k2⟩ := keep_next so ho hd w1 R.keep
    have hop : ∀ i : Ix, i.toNat ∈ o.looksAt ops → opv ops st ini e'.get j i = e.get i := opv_env so ho w4 inv k1
    refine ⟨k1, R.len, R.qm, fun j' o' ho' hc' hD' => ?_, fun j' o' ho' hc' hD' hl q' h1 h2 h3 => R.again j' o' ho' hc' ((bit_or _ _ _).2 (.inr hD')) hl q' h1 h2 h3, R.chain, R.late⟩
    by_cases e1 : j' = j
    · subst e1
      rw [ho] at ho'; cases ho'
      refine ⟨by omega, v, k2, fun q' h1 h2 h3 => ?_⟩
      rcases hp with hl | hp
      · by_cases e2 : q' = q
        · subst e2
          rw [Nat.sub_self, hat_zero]
          exact hs1.congr hop
        · obtain ⟨i, h4, h5⟩ := R.again j' o ho hc' ((bit_or _ _ _).2 (.inl rfl)) hl q' (by omega) h2 h3
          rw [k2 i h4] at h5
          exact h5
      · exact (hp _).congr hop
    · exact R.hold j' o' ho' hc' (by
        cases hb : (D ||| 2 ^ j).testBit j'
        · rfl
        · rcases (bit_or _ _ _).1 hb with h | h
          · exact absurd h e1
          · rw [hD'] at h; cases h)
  | .C j cks :: r, D, q, e, h, e', hs, hw, ht, inv => by
    obtain ⟨o, d, v, h1, hs', rfl, ho, hd, hs1, hag, ht⟩ := ht
    unfold walkB at hw
    simp only [Bool.and_eq_true, beq_iff_eq, Bool.not_eq_true', decide_eq_true_eq, bne_iff_ne] at hw
    obtain ⟨⟨⟨⟨⟨⟨w1, w2⟩, w3⟩, w4⟩, w5⟩, w6⟩, w7⟩ := hw
    have inv' := inv_next (v := v) ho hd inv
    have R := rest_good so r _ (q + 1) _ h1 e' hs' w7 ht inv'
    obtain ⟨k1, k2⟩ := keep_next so ho hd w1 R.keep
    have hop : ∀ i : Ix, i.toNat ∈ o.looksAt ops → opv ops st ini e'.get j i = e.get i := opv_env so ho w5 inv k1
    obtain ⟨_, hcij⟩ := so.chlt q w2
    rw [w4] at hcij
    have hnj : ∀ j', st.ci j' = none → j' ≠ j := fun j' hc e => by rw [e, hcij] at hc; cases hc
    have hat_s : ∀ x, q + 1 ≤ x → hat h (h1 :: hs') (x - q) = hat h1 hs' (x - (q + 1)) := fun x hx => by rw [show x - q = (x - (q + 1)) + 1 by omega]; rfl
    refine ⟨k1, by have := R.len; simp only [List.length_cons]; omega, by omega, fun j' o' ho' hc' hD' => ?_, fun j' o' ho' hc' hD' hl q' h3 h4 h5 => ?_, fun i h3 h4 h5 o' ho' => ?_, fun h3 h4 o' ho' => ?_⟩
    · obtain ⟨h3, v', h4, h5⟩ := R.hold j' o' ho' hc' (by
        cases hb : (D ||| 2 ^ j).testBit j'
        · rfl
        · rcases (bit_or _ _ _).1 hb with h | h
          · exact absurd h (hnj j' hc')
          · rw [hD'] at h; cases h)
      exact ⟨by omega, v', h4, fun q' h6 h7 h8 => by rw [hat_s q' (by omega)]; exact h5 q' h6 h7 h8⟩
    · rw [hat_s q' (by omega)]
      by_cases e1 : q' = q + 1
      · subst e1
        rw [Nat.sub_self, hat_zero]
        exact again_of so w6 hag inv' R.keep ho' hc' ((bit_or _ _ _).2 (.inr hD')) hl h4
      · exact R.again j' o' ho' hc' ((bit_or _ _ _).2 (.inr hD')) hl q' (by omega) h4 h5
    · by_cases e1 : i = q
      · subst e1
        rw [w4] at ho'
        rw [ho] at ho'; cases ho'
        refine ⟨v, k2, ?_⟩
        rw [Nat.sub_self, hat_s (i + 1) (by omega), Nat.sub_self, hat_zero, hat_zero, w4]
        exact hs1.congr hop
      · rw [hat_s i (by omega), hat_s (i + 1) (by omega)]
        exact R.chain i (by omega) h4 h5 o' ho'
    · rw [hat_s st.zi (by omega), hat_s (st.zi + 1) (by omega)]
      exact R.late (by omega) h4 o' ho'
  | .Z j cks :: r, D, q, e, h, e', hs, hw, ht, inv => by
    obtain ⟨o, d, v, h1, hs', rfl, ho, hd, hs1, hag, ht⟩ := ht
    unfold walkB at hw
    simp only [Bool.and_eq_true, beq_iff_eq, Bool.not_eq_true', decide_eq_true_eq] at hw
    obtain ⟨⟨⟨⟨⟨⟨⟨w1, w2⟩, w3⟩, w4⟩, w0⟩, w5⟩, w6⟩, w7⟩ := hw
    have inv' := inv_next (v := v) ho hd inv
    have R := rest_good so r _ (q + 1) _ h1 e' hs' w7 ht inv'
    obtain ⟨k1, k2⟩ := keep_next so ho hd w1 R.keep
    have hop : ∀ i : Ix, i.toNat ∈ o.looksAt ops → opv ops st ini e'.get j i = e.get i := opv_env so ho w0 inv k1
    obtain ⟨_, hcij⟩ := so.chlt q w2
    rw [w4] at hcij
    have hnj : ∀ j', st.ci j' = none → j' ≠ j := fun j' hc e => by rw [e, hcij] at hc; cases hc
    have hat_s : ∀ x, q + 1 ≤ x → hat h (h1 :: hs') (x - q) = hat h1 hs' (x - (q + 1)) := fun x hx => by rw [show x - q = (x - (q + 1)) + 1 by omega]; rfl
    refine ⟨k1, by have := R.len; simp only [List.length_cons]; omega, by omega, fun j' o' ho' hc' hD' => ?_, fun j' o' ho' hc' hD' hl q' h3 h4 h5 => ?_, fun i h3 h4 h5 o' ho' => ?_, fun h3 h4 o' ho' => ?_⟩
    · obtain ⟨h3, v', h4, h5⟩ := R.hold j' o' ho' hc' (by
        cases hb : (D ||| 2 ^ j).testBit j'
        · rfl
        · rcases (bit_or _ _ _).1 hb with h | h
          · exact absurd h (hnj j' hc')
          · rw [hD'] at h; cases h)
      exact ⟨by omega, v', h4, fun q' h6 h7 h8 => by rw [hat_s q' (by omega)]; exact h5 q' h6 h7 h8⟩
    · rw [hat_s q' (by omega)]
      by_cases e1 : q' = q + 1
      · subst e1
        rw [Nat.sub_self, hat_zero]
        exact again_of so w6 hag inv' R.keep ho' hc' ((bit_or _ _ _).2 (.inr hD')) hl h4
      · exact R.again j' o' ho' hc' ((bit_or _ _ _).2 (.inr hD')) hl q' (by omega) h4 h5
    · have hne : i ≠ q := by omega
      rw [hat_s i (by omega), hat_s (i + 1) (by omega)]
      exact R.chain i (by omega) h4 h5 o' ho'
    · rw [← w3, w4, ho] at ho'
      cases ho'
      obtain ⟨t, ht⟩ := Option.isSome_iff_exists.1 w5
      rw [dstOf_some ho] at ht
      obtain ⟨_, x, hx⟩ := so.dst j o t ho ht
      refine ⟨x, by rw [ht, hx], ?_⟩
      rw [← w3, Nat.sub_self, hat_s (q + 1) (by omega), Nat.sub_self, hat_zero, hat_zero, k2 x (by rw [ht, hx]), w4]
      exact hs1.congr hop

end

/-- A region that draws its order. -/
theorem draw_good {P : Program} {nt : Nat} {ops : Array Oper} {x : Info} {ck : CK} {l : DL} {e : Env} {h : H} {k : Env → H → Res} {id : Nat} (hmix : P.follows .mixedOrders = true) (hck : SemF P ck)
    (hs : statB nt ops x = true) (hw : walkB P ops x.stat x.plan 0 0 = true) (hc : cmpPlan P nt ops x.plan = some l) (hg : (dlK l ck e h k).good) :
    ∃ e' h', (k e' h').good ∧ ∀ μ a w Q, SR nt μ e h a w → (∀ μ' a' w', Ext μ h w μ' h' w' → SR nt μ' e' h' a' w' → Q .normal a' w') → (Code.region id ops true).wp P Q a w := by
  have so := statB_ok hs
  obtain ⟨e', hl, hk, ht⟩ := dlK_good hck hc hg
  have R := rest_good (ini := e.get) so x.plan 0 0 e h e' hl hw ht (fun i _ => rfl)
  refine ⟨e', hat h hl hl.length, hk, fun μ a w Q s hQ => ?_⟩
  have hlen : hl.length = x.stat.m := by have := R.len; omega
  -- the place and the thing that the late maker makes
  have hz : ∃ (dz : Ix) (az : AO) (cv : Nat → Value), x.stat.zi < x.stat.m → ∀ o, ops[x.stat.ch x.stat.zi]? = some o → MakeS P ops o (opv ops x.stat e.get e'.get (x.stat.ch x.stat.zi)) az cv ∧ o.dst = some dz.toNat ∧
      (∀ (μ : Nat → Nat) (w : World), VR μ ((hat h hl x.stat.zi).nx + 1) w (e'.get dz) (cv (μ (hat h hl x.stat.zi).nx))) ∧
      ∃ t', (∀ j, t'.get j = if j = (hat h hl x.stat.zi).nx then some az else (hat h hl x.stat.zi).t.get j) ∧ hat h hl (x.stat.zi + 1) = ⟨t', (hat h hl x.stat.zi).nx + 1⟩ := by
    by_cases hz : x.stat.zi < x.stat.m
    · obtain ⟨hlt, _⟩ := so.chlt _ hz
      have ho : ops[x.stat.ch x.stat.zi]? = some ops[x.stat.ch x.stat.zi] := by simp [hlt]
      obtain ⟨dz, h1, az, cv, t', h2, h3, h4, h5⟩ := R.late (Nat.zero_le _) hz _ ho
      refine ⟨dz, az, cv, fun _ o ho' => ?_⟩
      rw [ho] at ho'; cases ho'
      exact ⟨h2, h1, h3, t', h4, h5⟩
    · exact ⟨Ix.of (.a .i0 .i0), .si 0 0 0, fun _ => undef, fun hz' => absurd hz' hz⟩
  obtain ⟨dz, az, cv, hz⟩ := hz
  have df : DFacts P ops x.stat e.get e'.get (hat h hl) dz az cv := by
    refine ⟨fun i hi => R.keep i fun k hk => absurd hk (hi k), fun j o ho hci q h1 h2 h3 => ?_, fun i h1 h2 o ho => ?_, hz⟩
    · obtain ⟨_, v, h4, h5⟩ := R.hold j o ho hci (Nat.zero_testBit j)
      exact ⟨v, h4, h5 q h1 h2 h3⟩
    · exact R.chain i (Nat.zero_le _) h1 h2 o ho
  refine wp_region_any hmix ?_
  obtain ⟨x0, h0⟩ := Ext.of_heap s.heap (show ({ w with drawn := w.drawn + 1 } : World).heap = w.heap from rfl) rfl rfl
  refine any_good so df (μ0 := μ) (w0 := { w with drawn := w.drawn + 1 }) (nt := nt) (fun μ' a' w' q1 q2 q3 q4 q5 => ?_) _ _ _ _ (by simp) ?_ ?_
  · refine hQ μ' a' w' ?_ ⟨q2, q3, ?_, ?_⟩
    · rw [hlen]; rw [hat_zero] at q1; exact x0.trans q1
    · rw [hlen]; exact q5
    · rw [hlen]; exact q4
  · unfold unl
    exact Nat.le_trans (List.length_filter_le _ _) (by simp)
  · have hno : ∀ j, ¬ Ls (Array.replicate ops.size false) j := by
      intro j hj
      have := hj.lt
      unfold Ls at hj
      simp at this
      simp [this] at hj
    have hnone : ∀ i, cur ops e.get e'.get (Array.replicate ops.size false) i = e.get i := by
      intro i
      unfold cur
      split
      · rfl
      · rename_i hn
        refine R.keep i fun k hk => absurd ⟨k, hk, hno k⟩ hn
    refine ⟨0, μ, none, ⟨Nat.zero_le _, s.size, s.defers, by rw [hat_zero]; exact h0, by rw [hat_zero]; exact Ext.refl μ _ _ h0, fun j hj => absurd hj (hno j), fun i _ _ => ⟨fun hj => absurd hj (hno _), fun hi => absurd hi (Nat.not_lt_zero _)⟩, fun _ _ => ⟨fun hj => absurd hj (hno _), fun hi => absurd hi (Nat.not_lt_zero _)⟩, fun c hc => (by cases hc), fun i _ => ?_⟩, fun hne => absurd rfl hne⟩
    rw [hnone, hat_zero]
    exact (s.env i).ext x0

/-! ### The order is reckoned -/

def dnsOf (ops : Array Oper) : List Nat := ops.toList.foldl (fun d o => d ++ [edgeMask d o.after.toList]) []

def mkInfo (P : Program) (ops : Array Oper) : Info :=
  let n := ops.size
  let dns := dnsOf ops
  let dn := fun j k => (dns.getD j 0).testBit k
  let kinds := ops.toList.map fun o => match cmpO P o with | some (.P _) => 0 | some (.L _) => 1 | _ => 2
  let world := fun j => kinds.getD j 2 == 2
  let worlds := (List.range n).filter world
  let late := worlds.find? fun j => (match ops[j]? with | some o => (cmpLate P o).isSome | none => false) && (worlds.any fun k => k != j && !dn j k && !dn k j) && worlds.all fun k => k == j || worlds.all fun l => l == j || l == k || dn l k || dn k l
  let chz := match late with
    | none => (worlds, worlds.length)
    | some z =>
      let others := worlds.filter (· != z)
      let before := others.filter fun k => !dn k z
      let after := others.filter fun k => dn k z
      (before ++ z :: after, before.length)
  let ch := chz.1
  let m := ch.length
  let lo : List Nat := (List.range n).map fun j => (ch.takeWhile fun c => dn j c).length
  let hi : List Nat := (List.range n).map fun j => m - (ch.reverse.takeWhile fun c => dn c j).length
  let holds := fun q => ((List.range n).filter fun j => !world j && lo.getD j 0 == q).map PI.H
  let cks := fun q => (List.range n).filter fun j => kinds.getD j 2 == 1 && decide (lo.getD j 0 < q) && decide (q ≤ hi.getD j 0)
  let plan := ((List.range m).zip ch).flatMap fun (q, c) => holds q ++ [if q == chz.2 then PI.Z c (cks (q + 1)) else PI.C c (cks (q + 1))]
  { dns, ch, zi := chz.2, lo, hi, plan := plan ++ holds m }

def cmpDraw (P : Program) (nt : Nat) (ops : Array Oper) : Option DL :=
  let x := mkInfo P ops
  if statB nt ops x && walkB P ops x.stat x.plan 0 0 then cmpPlan P nt ops x.plan else none

theorem cmpDraw_good {P : Program} {nt : Nat} {ops : Array Oper} {ck : CK} {l : DL} {e : Env} {h : H} {k : Env → H → Res} {id : Nat} (hmix : P.follows .mixedOrders = true) (hck : SemF P ck)
    (hc : cmpDraw P nt ops = some l) (hg : (dlK l ck e h k).good) :
    ∃ e' h', (k e' h').good ∧ ∀ μ a w Q, SR nt μ e h a w → (∀ μ' a' w', Ext μ h w μ' h' w' → SR nt μ' e' h' a' w' → Q .normal a' w') → (Code.region id ops true).wp P Q a w := by
  unfold cmpDraw at hc
  simp only at hc
  split at hc
  · rename_i hh
    rw [Bool.and_eq_true] at hh
    exact draw_good hmix hck hh.1 hh.2 hc hg
  · cases hc

end Go.Ev
