/-
  An abstract evaluator for Go code under the model: what a known call says in the kit's words.
-/
import Derived.Test.YtceplogmemkblaaGreatEvW
import GoSem.ClaimChange
namespace Go.Ev
section
variable {P : Program}

/-- Where nothing of the world is known, nothing of it is changed. -/
theorem Ext.kept {μ μ' : Nat → Nat} {n : Nat} {h' : H} {w w' : World} (x : Ext μ ⟨.nil, n⟩ w μ' h' w') (may : MemPlace → Prop) : w.keptBut w' may := by
  refine ⟨x.same.os, x.same.out, fun i hi => ?_⟩
  rw [x.frame i hi (fun b o hb => by simp at hb)]
  generalize w.heap[i]? = o
  cases o with
  | none => rfl
  | some o => cases o <;> first | exact ⟨rfl, rfl, rfl, fun _ _ => rfl⟩ | exact .inr ⟨rfl, rfl⟩ | rfl

/-- Nothing that was there has changed. -/
theorem Ext.more {μ : Nat → Nat} {h : H} {w w' : World} (hr : HR μ h w) (ho : ∀ c, c < w.heap.size → w'.heap[c]? = w.heap[c]?) (hs : w.heap.size ≤ w'.heap.size) (e1 : w'.os = w.os) (e2 : w'.output = w.output) :
    Ext μ h w μ h w' ∧ HR μ h w' := by
  have hsh : ∀ c s, w.shape? c = some s → w'.shape? c = some s := fun c s hc => by
    have hlt : c < w.heap.size := by
      rcases Nat.lt_or_ge c w.heap.size with hh | hh
      · exact hh
      · simp [World.shape?, Array.getElem?_eq_none hh] at hc
    rw [shape_heap (ho c hlt)]; exact hc
  refine ⟨⟨fun _ _ => rfl, Nat.le_refl _, hs, hsh, fun c hc _ => ho c hc, fun b o hb => .inl ⟨hr.lt b o hb, o, hb⟩, ⟨e1, e2, fun c hc => by rw [ho c hc]⟩, hr.glt⟩, hr.lt, fun b o hb => ?_, hr.inj, fun c q hc => ?_, hr.low⟩
  · rw [ho _ (hr.block_lt hb)]
    exact (hr.obj b o hb).mono (fun _ _ => rfl) (Nat.le_refl _) hsh
  · rw [ho c (hr.glt c q hc)]; exact hr.gl c q hc

/-- What is known of the variables. -/
def Vars (w : World) : Prop := ∀ c q, GV c = some q → ∃ cs E fz, w.heap[c]? = some (.cells cs E fz) ∧ q cs

theorem CSem.calls {f : Nat} {l : AV} {b : Bool} {h' : H} (hs : CSem P f l ⟨.nil, 0⟩ (.b b) h') {fn : Func} {c : Code} (hf : P.funcs[f]? = some fn) (hb : fn.body = some c) (hn : (fn.name == "runtime.NumGoroutine") = false)
    {w : World} (hv : Vars w) {vs : List Value} (hl : VRL (fun _ => 0) 0 w l vs) :
    Calls P f vs.toArray w fun e w' => e = .returned (.bool b) ∧ ∀ may, w.keptBut w' may := by
  have hr : HR (fun _ => 0) ⟨.nil, 0⟩ w := ⟨fun b o hb => by simp at hb, fun b o hb => by simp at hb, fun b o b' o' hb => by simp at hb, hv, fun b o hb => by simp at hb⟩
  have hne : fn.name ≠ "runtime.NumGoroutine" := by simpa using hn
  have hrun : (callFunc f vs.toArray).run P w = .ok (.enter f vs.toArray) w := by simp [callFunc, hf, hne, hb]
  rcases hs (fun _ => 0) w vs hl hr with ⟨_, h2⟩ | ⟨v', μ', w', h1, _⟩
  · refine h2.mono ?_
    rintro e w' ⟨v', rfl, μ', q1, _, q3⟩
    have q3 : v' = .bool b := q3
    subst q3
    exact ⟨rfl, q1.kept⟩
  · rw [hrun] at h1; cases h1

end
end Go.Ev
