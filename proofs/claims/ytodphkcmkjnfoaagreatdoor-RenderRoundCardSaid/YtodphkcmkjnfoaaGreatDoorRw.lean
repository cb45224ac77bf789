/-
  RenderRound's code: what it comes to at every number, called wherever the variables hold what is laid.
-/
import Derived.Test.YtodphkcmkjnfoaaGreatDoorRa
import Derived.Test.YtodphkcmkjnfoaaGreatDoorRnZ
import Derived.Test.YtodphkcmkjnfoaaGreatDoorEvX
import Derived.KernelRfl
namespace Go.Ev
open Go.Proofs
set_option maxRecDepth 100000

/-- The rest of the code, behind the number. -/
def CodeEnd (x : AV) (h' : H) : Prop := SemC Tryz.prog b6_61 (eA x) hWd .r (.mk (.mk (.mk .u .u (.b true) .u .u .u .u .u) (n8 .u) (n8 .u) (n8 .u) (n8 .u) (n8 .u) (n8 .u) (n8 .u)) (n8 (n8 (n8 .u)))) h'
theorem rest (m : Nat) : ∃ h', CodeEnd (.p (1 + m % 10)) h' := by
  have hlt : m % 10 < 10 := Nat.mod_lt _ (by decide)
  generalize m % 10 = d at hlt
  match d, hlt with
  | 0, _ => exact ⟨_, u1zq0⟩
  | 1, _ => exact ⟨_, u2zq0⟩
  | 2, _ => exact ⟨_, u3zq0⟩
  | 3, _ => exact ⟨_, u4zq0⟩
  | 4, _ => exact ⟨_, u5zq0⟩
  | 5, _ => exact ⟨_, u6zq0⟩
  | 6, _ => exact ⟨_, u7zq0⟩
  | 7, _ => exact ⟨_, u8zq0⟩
  | 8, _ => exact ⟨_, u9zq0⟩
  | 9, _ => exact ⟨_, u10zq0⟩

theorem sem_p (m : Nat) : ∃ h', CSem Tryz.prog 6 (.cons (.p m) .nil) ⟨.nil, 0⟩ (.b true) h' := by
  obtain ⟨h', hr⟩ := rest m
  have hb : SemC Tryz.prog b6 (eI (.p m)) ⟨.nil, 0⟩ .r _ h' := SemC.seq (ra0 _) (SemC.seq (ra1 _) (SemC.seq (ra2 _) (SemC.seq (ra3p m) (SemC.seq (ra4 m (m % 10) rfl (Nat.mod_lt _ (by decide))) hr))))
  exact ⟨h', csem_of c6 hb (.inr rfl) (fun k => by kernel_rfl) (fun k => by kernel_rfl)⟩
theorem sem_n (m : Nat) (hm : m ≤ 9223372036854775807) : ∃ h', CSem Tryz.prog 6 (.cons (.n m) .nil) ⟨.nil, 0⟩ (.b true) h' := by
  obtain ⟨h', hr⟩ := rest m
  have hb : SemC Tryz.prog b6 (eI (.n m)) ⟨.nil, 0⟩ .r _ h' := SemC.seq (ra0 _) (SemC.seq (ra1 _) (SemC.seq (ra2 _) (SemC.seq (ra3n m hm) (SemC.seq (ra4 m (m % 10) rfl (Nat.mod_lt _ (by decide))) hr))))
  exact ⟨h', csem_of c6 hb (.inr rfl) (fun k => by kernel_rfl) (fun k => by kernel_rfl)⟩

theorem walk (z : Int) (w0 : (Lit.int .i64 z).wf = true) (w : World) (hv : Vars w) : Calls Tryz.prog 6 #[.int .i64 z] w fun e w' => e = .returned (.bool true) ∧ ∀ may, w.keptBut w' may := by
  have hn : (Tryz.f6.name == "runtime.NumGoroutine") = false := by kernel_rfl
  have hb : Tryz.f6.body.isSome = true := by kernel_rfl
  obtain ⟨c, hc⟩ := Option.isSome_iff_exists.1 hb
  cases z with
  | ofNat m =>
    obtain ⟨h', hs⟩ := sem_p m
    exact hs.calls Tryz.func6 hc hn hv (vs := [.int .i64 (Int.ofNat m)]) ⟨_, [], rfl, rfl, rfl⟩
  | negSucc m =>
    have hm : m ≤ 9223372036854775807 := by
      have h2 : (decide (IntKind.i64.min ≤ Int.negSucc m) && decide (Int.negSucc m ≤ IntKind.i64.max)) = true := w0
      have e : IntKind.i64.min = -9223372036854775808 := by decide
      simp only [Bool.and_eq_true, decide_eq_true_eq] at h2
      omega
    obtain ⟨h', hs⟩ := sem_n m hm
    exact hs.calls Tryz.func6 hc hn hv (vs := [.int .i64 (Int.negSucc m)]) ⟨_, [], rfl, rfl, rfl⟩
end Go.Ev
