/-
  RenderRound: its number made small; the rest of its code at each of the ten numbers; what it comes to.
-/
import Derived.Test.YtodphkcmkjnfoaaGreatDoorWb
import Derived.IntWalk
import Derived.KernelRfl
namespace Go.Ev
open Go.Proofs
set_option maxRecDepth 100000

def zAV (z : Int) : AV := match z with | .ofNat m => .p m | .negSucc m => .n m
theorem mkZ_eq (z : Int) (k : AV → Res) : mkZ .i64 z k = k (zAV z) := by
  cases z with
  | ofNat m => show forceN m (fun m => mkPos .i64 m k) = _; rw [forceN_eq]; rfl
  | negSucc m => show forceN m (fun m => mkNeg .i64 m k) = _; rw [forceN_eq]; rfl
theorem zK_zAV (z : Int) (k : IntKind → Int → Res) : zK (zAV z) k = k .i64 z := by cases z <;> rfl
theorem zAV_nat (m : Nat) : zAV (m : Int) = .p m := rfl

theorem ra0 (x : AV) : SemC Tryz.prog b6_0 (eI x) ⟨.nil, 0⟩ .n (eI x) ⟨.nil, 0⟩ := semC_run mix tab2 1000 1000 0 [] [] [x0] (fun KK => by kernel_rfl)
theorem ra1 (x : AV) : SemC Tryz.prog b6_1 (eI x) ⟨.nil, 0⟩ .n (eA x) hWd := semC_run mix tab2 1000 1000 (26824) [] [] [x0, x3] (fun KK => by kernel_rfl)
theorem ra2 (x : AV) : SemC Tryz.prog b6_8 (eA x) hWd .n (eA x) hWd := semC_run mix tab2 1000 1000 (26824) [] [] [x0, x3] (fun KK => by kernel_rfl)

theorem ra3p (m : Nat) : SemC Tryz.prog b6_13 (eA (.p m)) hWd .n (eA (.p m)) hWd := semC_run mix tab2 1000 1000 (26824) [] [] [x0, x3] (fun KK => by kernel_rfl)

/-- The states of a number below nought, as they grow. -/
def eD (m : Nat) : Env := .mk (.mk (.mk (.n m) .u .u wv .u .u .u .u) (.mk .u .u .u .u .u .u (.b true) .u) (n8 .u) (n8 .u) (n8 .u) (n8 .u) (n8 .u) (n8 .u)) (n8 (n8 (n8 .u)))
theorem ra3a (m : Nat) : SemC Tryz.prog b6_9 (eA (.n m)) hWd .n (eD m) hWd := semC_run mix tab2 1000 1000 26824 [] [] [x0, x3, x14] (fun KK => by
  cases m with
  | zero => kernel_rfl
  | succ m => kernel_rfl)
def eB (m : Nat) (a b : AV) : Env := .mk (.mk (.mk (.n m) .u .u wv .u .u .u .u) (.mk .u .u .u .u .u .u (.b true) (.n m)) (.mk a b .u .u .u .u .u .u) (n8 .u) (n8 .u) (n8 .u) (n8 .u) (n8 .u)) (n8 (n8 (n8 .u)))
theorem ra3s (m : Nat) (ck : CK) (ih : IH) (h : H) (K : KX) : cK b6_10 ck ih (eD m) h K =
    mkZ .i64 (IntKind.i64.wrap (Int.negSucc m + Int.ofNat 1)) (fun v => opsK (.p x17 (.ng (.t x16)) (.m x0 x17 .nil)) ck (eB m v .u) h (K .n)) := by kernel_rfl
theorem ra3t (m : Nat) (a : AV) (ck : CK) (h : H) (K : Env → H → Res) : opsK (.p x17 (.ng (.t x16)) (.m x0 x17 .nil)) ck (eB m a .u) h K =
    zK a (fun kd z => mkZ kd (kd.wrap (0 - z)) (fun v => opsK (.m x0 x17 .nil) ck (eB m a v) h K)) := by kernel_rfl
theorem ra3u (m : Nat) (a : AV) (KK : KX) (ck : CK) : opsK (.m x0 x17 .nil) ck (eB m a (.p m)) hWd (forgetK 26824 [] [] [x0, x3] KK .n) = KK .n (eA (.p m)) hWd := by kernel_rfl
theorem ra3b (m : Nat) (hm : m ≤ 9223372036854775807) : SemC Tryz.prog b6_10 (eD m) hWd .n (eA (.p m)) hWd := semC_run mix tab2 1000 1000 26824 [] [] [x0, x3] (fun KK => by
  have e1 : IntKind.i64.wrap (Int.negSucc m + Int.ofNat 1) = -(m : Int) := by
    show IntKind.i64.wrap (Int.negSucc m + 1) = _
    rw [IntWalk.i64_in] <;> omega
  have e2 : IntKind.i64.wrap (0 - -(m : Int)) = (m : Int) := by rw [IntWalk.i64_in] <;> omega
  rw [ra3s, mkZ_eq, e1, ra3t, zK_zAV, mkZ_eq, e2, zAV_nat]
  exact ra3u m _ KK _)
theorem ra3n (m : Nat) (hm : m ≤ 9223372036854775807) : SemC Tryz.prog b6_13 (eA (.n m)) hWd .n (eA (.p m)) hWd :=
  SemC.seq (ra3a m) (SemC.cond true (fun k => by kernel_rfl) (ra3b m hm))

def eC (m : Nat) (a : AV) : Env := .mk (.mk (.mk (.p m) .u .u wv .u .u .u .u) (n8 .u) (.mk .u .u (.p m) a .u .u .u .u) (n8 .u) (n8 .u) (n8 .u) (n8 .u) (n8 .u)) (n8 (n8 (n8 .u)))
theorem ra4s (m : Nat) (ck : CK) (ih : IH) (h : H) (K : KX) : cK b6_14 ck ih (eA (.p m)) h K =
    okP (Nat.mod m 10) (fun v => opsK (.p x20 (.bin .add (.c (.p 1)) (.t x19)) (.m x0 x20 .nil)) ck (eC m v) h (K .n)) := by kernel_rfl
theorem ra4t (m d : Nat) (hlt : d < 10) (ck : CK) (KK : KX) : okP d (fun v => opsK (.p x20 (.bin .add (.c (.p 1)) (.t x19)) (.m x0 x20 .nil)) ck (eC m v) hWd (forgetK 26824 [] [] [x0, x3] KK .n)) = KK .n (eA (.p (1 + d))) hWd := by
  rcases (by omega : d = 0 ∨ d = 1 ∨ d = 2 ∨ d = 3 ∨ d = 4 ∨ d = 5 ∨ d = 6 ∨ d = 7 ∨ d = 8 ∨ d = 9) with rfl | rfl | rfl | rfl | rfl | rfl | rfl | rfl | rfl | rfl <;> clear hlt <;> kernel_rfl
theorem ra4 (m d : Nat) (hd : m % 10 = d) (hlt : d < 10) : SemC Tryz.prog b6_14 (eA (.p m)) hWd .n (eA (.p (1 + d))) hWd := semC_run mix tab2 1000 1000 26824 [] [] [x0, x3] (fun KK => by
  rw [ra4s, show Nat.mod m 10 = d from hd]
  exact ra4t m d hlt _ KK)
end Go.Ev
