/-
  Law 14: things as arguments; a law's row, from its walk.
-/
import Derived.Test.YtceplogmemkblaaGreatRows
import Derived.Test.YtceplogmemkblaaGreatKc
import Derived.WalkKit
import Derived.ProofKit
import Derived.OpenShut
import Derived.Lib.SmallJoins
namespace Go.Proofs.YtceplogmemkblaaGreat
open Go.ChangeShapes Go.WideShapes Go.ChangeAt Go.RowKit Go.Joins
set_option linter.unusedVariables false
set_option maxRecDepth 100000

theorem own : ownKnob Tryz.prog.godebug = none := by kernel_rfl
theorem cells23 : Tryz.prog.cellsOf 23 = 3 := by kernel_rfl

theorem vars0 (w : World) : Ev.Vars w := fun c q h => by cases h

/-- A thing, as the model has it. -/
def thV (a b : Int) (s : ByteArray) : Value := .agg #[.int .i64 a, .int .i64 b, .string s]
def thD {H : Type} (a b : Int) (s : ByteArray) : DataW H := .agg [.lit (.int .i64 a), .lit (.int .i64 b), .lit (.string s.data.toList)]
theorem open_th {H : Type} {enc : TypeId × Value → H} {w : World} {base b0 : Nat} {sp : Nat → Bool} {held : Bool} {r : Reach} {v : Value} {d : DataW H} {p : List MemPlace}
    (hv : Value.okWide Tryz.prog w r b0 23 v) (h : DataW.Trod enc Tryz.prog w base sp held 23 v d p) :
    ∃ a b s, v = thV a b s ∧ d = thD a b s ∧ p = [] ∧ (Lit.int .i64 a).wf = true ∧ (Lit.int .i64 b).wf = true ∧ s.size ≤ maxLen := by
  obtain ⟨c0, c1, c2, y0, y1, y2, m, rfl, rfl, rfl, h0, h1, h2⟩ := open_agg3 Tryz.underlying23 (by kernel_rfl) cells23 hv h
  obtain ⟨a, e0, rfl, wa⟩ := DataW.trod_int Tryz.underlying3 h0
  obtain ⟨b, e1, rfl, wb⟩ := DataW.trod_int Tryz.underlying3 h1
  obtain ⟨s, e2, rfl, ws⟩ := DataW.trod_string Tryz.underlying9 h2
  simp at e0 e1 e2
  subst e0 e1 e2
  exact ⟨a, b, s, rfl, rfl, rfl, wa, wb, ws⟩
theorem shut_th {H : Type} {enc : TypeId × Value → H} {w : World} {base : Nat} {sp : Nat → Bool} {held : Bool} {a b : Int} {s : ByteArray} (wa : (Lit.int .i64 a).wf = true) (wb : (Lit.int .i64 b).wf = true) (ws : s.size ≤ maxLen) :
    DataW.Trod enc Tryz.prog w base sp held 23 (thV a b s) (thD a b s) [] :=
  shut_agg3 (y0 := (.lit (.int .i64 a), [])) (y1 := (.lit (.int .i64 b), [])) (y2 := (.lit (.string s.data.toList), [])) Tryz.underlying23 (by kernel_rfl) cells23 ⟨1, by simp [DataW.trod, Tryz.underlying3, wa]⟩ ⟨1, by simp [DataW.trod, Tryz.underlying3, wb]⟩
    ⟨1, by simp [DataW.trod, Tryz.underlying9, ws]⟩
/-- A thing, as the evaluator has it. -/
def thA (a b : Int) (s : ByteArray) : Ev.AV := Ev.thing a b s.size (Ev.enc s.data.toList)
theorem vr_z {μ : Nat → Nat} {n : Nat} {w : World} (z : Int) : Ev.VR μ n w (Ev.zAV z) (.int .i64 z) := by
  cases z <;> exact rfl
theorem vr_th {μ : Nat → Nat} {n : Nat} {w : World} (a b : Int) (s : ByteArray) : Ev.VR μ n w (thA a b s) (thV a b s) := by
  refine ⟨_, rfl, ⟨_, _, rfl, vr_z a, _, _, rfl, vr_z b, _, _, rfl, ⟨?_, ?_⟩, rfl⟩, ?_⟩
  · rw [Ev.dec_enc]
  · rw [← ByteArray.size_data, ← Array.length_toList]; exact Ev.enc_lt _
  · intro x hx
    simp at hx
    rcases hx with rfl | rfl | rfl <;> rfl
theorem gI_of {a : Int} (w : (Lit.int .i64 a).wf = true) : Ev.gI a := by
  have h2 : (decide (IntKind.i64.min ≤ a) && decide (a ≤ IntKind.i64.max)) = true := w
  have e1 : IntKind.i64.min = -9223372036854775808 := by decide
  have e2 : IntKind.i64.max = 9223372036854775807 := by decide
  simp only [Bool.and_eq_true, decide_eq_true_eq] at h2
  exact ⟨by omega, by omega⟩
/-- What a law of two things comes to, as a call. -/
theorem calls2 {f : Nat} {fn : Func} (hf : Tryz.prog.funcs[f]? = some fn) (hb : fn.body.isSome = true) (hn : (fn.name == "runtime.NumGoroutine") = false)
    (walk : ∀ (k1 n1 k2 n2 : Int) (l1 b1 l2 b2 : Nat), Ev.gI n1 → Ev.gI n2 → ∃ h', Ev.CSem Tryz.prog f (.cons (Ev.thing k1 n1 l1 b1) (.cons (Ev.thing k2 n2 l2 b2) .nil)) ⟨.nil, 0⟩ (.b true) h')
    {a1 b1 a2 b2 : Int} {s1 s2 : ByteArray} (w1 : (Lit.int .i64 b1).wf = true) (w2 : (Lit.int .i64 b2).wf = true) (w : World) :
    Calls Tryz.prog f #[thV a1 b1 s1, thV a2 b2 s2] w fun e w' => e = .returned (.bool true) ∧ ∀ may, w.keptBut w' may := by
  obtain ⟨h', hs⟩ := walk a1 b1 a2 b2 s1.size (Ev.enc s1.data.toList) s2.size (Ev.enc s2.data.toList) (gI_of w1) (gI_of w2)
  obtain ⟨c, hc⟩ := Option.isSome_iff_exists.1 hb
  exact hs.calls hf hc hn (vars0 w) (vs := [thV a1 b1 s1, thV a2 b2 s2]) ⟨_, _, rfl, vr_th a1 b1 s1, _, _, rfl, vr_th a2 b2 s2, rfl⟩
end Go.Proofs.YtceplogmemkblaaGreat
