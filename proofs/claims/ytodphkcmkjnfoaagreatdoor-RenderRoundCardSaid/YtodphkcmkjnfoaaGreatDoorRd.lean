/-
  Law 15: what a law's row says of the program's variables; the witness' world.
-/
import Derived.Test.YtodphkcmkjnfoaaGreatDoorRows
import Derived.Test.YtodphkcmkjnfoaaGreatDoorEvX
import Derived.WalkKit
import Derived.ProofKit
import Derived.LaidMore
import Derived.OpenShut
import Derived.Stop.Joined
import Derived.Shelf.Vars
namespace Go.Proofs.YtodphkcmkjnfoaaGreatDoor
open Go.ChangeShapes Go.WideShapes Go.ChangeAt Go.RowKit
set_option linter.unusedVariables false
set_option maxRecDepth 100000

theorem own : ownKnob Tryz.prog.godebug = none := by kernel_rfl
abbrev laidL : List (String × DataW Unit) := Rows.renderRoundRow.laid

/-- The cells of a table of numbers. -/
def cellsOfTab : DataW Unit → List Value
  | .agg l => l.map fun | .lit (.int k n) => .int k n | _ => undef
  | _ => []
def putTab : Obj → Obj
  | .cells _ t fr => .cells (cellsOfTab Go.Pinned.utf8First).toArray t fr
  | o => o
noncomputable def door (os : Os) : World := { World.doorLaid Tryz.prog 400 os with heap := (World.doorLaid Tryz.prog 400 os).heap.modify 2 putTab }

theorem door_met (os : Os) (args : Array Value) : laidMetH Tryz.prog laidL ((door os).forCall (fun _ _ => 0) ⟨#[], args, []⟩).memory :=
  laidMetH_of_parts3 (fuel := 8) (laidMet_of_run' 8 (by kernel_rfl) (by kernel_rfl)) (by kernel_rfl) (by kernel_rfl)

theorem cells184 : Tryz.prog.cellsOf 184 = 20 := by kernel_rfl
theorem vars_of {W : World} (hs : W.ShapedOpen Tryz.prog) (h : laidMetH Tryz.prog laidL W) : Ev.Vars W := by
  rw [MakeChecks.laidMetH_plain _ _ _ (by kernel_rfl)] at h
  obtain ⟨ps, ⟨_, _, _, _, _, _, _, _, _, _, ⟨_, _, _, _, _, _, _, _, _, _, ⟨g2, t2, cs2, f2, p2, q2, hg2, ht2, hv2, hd2, _⟩, _⟩, _⟩, _⟩ := h
  intro c q hc
  match c with
  | 0 =>
    cases hc
    obtain ⟨m, hm⟩ := cell_of_shapedOpen_int (zero := #[.int .i64 0]) (t := 3) (g := 0) (k := .i64) hs (of_decide_eq_true (by kernel_rfl)) (by kernel_rfl) rfl (by kernel_rfl) (by kernel_rfl) Tryz.underlying3
    unfold World.cell? at hm
    split at hm
    · rename_i cs t fr hcs
      exact ⟨cs, t, fr, hcs, m, by simpa using hm⟩
    · cases hm
  | 1 =>
    cases hc
    obtain rfl := Option.some.inj ((show Tryz.prog.globalNamed "internal/strconv.uint64pow10" = some 1 by kernel_rfl).symm.trans hg2)
    obtain rfl := Option.some.inj ((show (Tryz.prog.globals[1]?).map (·.type) = some 184 by kernel_rfl).symm.trans ht2)
    have hcells := Lib.cells_of_tab (zs := Lib.pow10Tab) (k := .u64) Tryz.underlying184 Tryz.underlying88 (by kernel_rfl) cells184 hd2
    unfold World.var? at hv2
    rw [hg2] at hv2
    simp only [Option.bind_some] at hv2
    split at hv2
    · rename_i cs t fr hcs
      cases hv2
      exact ⟨cs2, t, fr, hcs, show cs2 = _ by rw [← hcells, Array.toArray_toList]⟩
    · cases hv2
  | n + 2 => cases hc

/-- A law of one number: the row's step, from the walk. -/
theorem lifted (walk : ∀ (a0 : Int), (Lit.int .i64 a0).wf = true → ∀ w : World, Ev.Vars w → Calls Tryz.prog 6 #[.int .i64 a0] w fun e w' => e = .returned (.bool true) ∧ ∀ may, w.keptBut w' may)
    (os : Os) (started : os.Started) (H : Type) (enc : TypeId × Value → H) :
    ReturnsInHanded {} Tryz.checked os 6 .any (fun w args => (Rows.renderRoundSpec.pre enc Tryz.prog Tryz.f6 [] false w args ∧ laidMetH Tryz.prog laidL w) ∧ sizedMet enc Tryz.prog Tryz.f6 (OpenSpec.ofChange Rows.renderRoundSpec) false w args)
      (Rows.renderRoundSpec.post enc Tryz.prog Tryz.f6 false true false false) := by
  refine returnsInHanded_of_calls own started (by kernel_rfl)
    (ChangeSpec.witness_shaped (enc := enc) (C := Tryz.checked) (os := os) (X := fun w _ => laidMetH Tryz.prog laidL w) false (door os) #[.int .i64 0] 8 rfl (World.shaped_of_RefB (by kernel_rfl) (by kernel_rfl)) (by kernel_rfl) (by kernel_rfl) (by kernel_rfl) (door_met os _)) ?_
  intro w tape i _ hsh _ hok hpre _
  obtain ⟨_, _, _, fn', hfn', _, _, _, _, hval0⟩ := hok
  obtain rfl : fn' = Tryz.f6 := Option.some.inj (hfn'.symm.trans Tryz.func6)
  obtain ⟨⟨⟨ds, gs, before, hw, _⟩, hL⟩, _⟩ := hpre
  have hW := DataW.Whole.of_heap (w' := w.forCall tape i) (by rfl) hw
  have hv := vars_of hsh (hL.of_heap (w' := w.forCall tape i) (by rfl))
  generalize w.forCall tape i = W at *
  have hval : ∀ (j : Nat) t v, Tryz.f6.params[j]? = some t → i.args[j]? = some v → Value.okWide Tryz.prog W .any w.heap.size t v := hval0
  generalize i.args = args at *
  have hW' := hW
  obtain ⟨p, q, hA0, hV, rfl, hfz, hnd⟩ := hW
  have hA : DataW.TrodAll enc Tryz.prog W 0 (fun _ => true) true Tryz.f6.params.toList args.toList ds p := hA0
  rw [Tryz.params6] at hA hval
  obtain ⟨v0, vs0, d0, ds0, p0, q0, hargs, rfl, rfl, h0, r0⟩ := trodAll_cons hA
  obtain ⟨rfl, rfl, rfl⟩ := trodAll_nil r0
  obtain rfl : args = #[v0] := by cases args; simp_all
  obtain ⟨rfl, rfl⟩ := trodVars_none hV
  obtain ⟨a0, rfl, rfl, rfl, w0⟩ := open_int Tryz.underlying3 (hval 0 3 v0 rfl rfl) h0
  clear hA0 hval0
  simp only [List.append_nil] at hW'
  refine (walk a0 w0 W hv).mono fun e W' ⟨he, hg⟩ => ?_
  subst he
  exact ChangeSpec.post_blind ⟨_, _, _, [], [], [], hW', trodAll_cons_mk (shut_bool Tryz.underlying4 _) trodAll_mk0, trodAll_cons_mk (shut_int Tryz.underlying3 w0) trodAll_mk0, rfl, hg _, fun h => by cases h⟩

end Go.Proofs.YtodphkcmkjnfoaaGreatDoor
