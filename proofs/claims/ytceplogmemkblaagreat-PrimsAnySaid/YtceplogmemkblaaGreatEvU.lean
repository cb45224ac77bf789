/-
  An abstract evaluator for Go code under the model: a function without a Go body: where a byte stands first in a string.
-/
import Derived.Test.YtceplogmemkblaaGreatEvT
import Derived.Laws.Externs
namespace Go.Ev

noncomputable def scanK (n : Nat) : Nat → Nat → Nat → H → (AV → H → Res) → Res :=
  Nat.rec (motive := fun _ => Nat → Nat → Nat → H → (AV → H → Res) → Res) (fun _ _ _ h k => k (.n 0) h)
    (fun _ ih bits i m h k => iteK (Nat.beq (Nat.mod bits 256) m) (k (.p i) h) (forceN (Nat.div bits 256) fun bits => forceN (Nat.succ i) fun i => ih bits i m h k)) n

theorem scanK_eq (bits0 m : Nat) (hm : m < 256) (h : H) (k : AV → H → Res) : ∀ (n i : Nat), scanK n (bits0 / 256 ^ i) i m h k =
    match (List.range' i n).find? (fun j => UInt8.ofNat (bits0 / 256 ^ j) == UInt8.ofNat m) with | some j => k (.p j) h | none => k (.n 0) h := by
  intro n
  induction n with
  | zero => intro i; rfl
  | succ n ih =>
    intro i
    have h0 : scanK (n + 1) (bits0 / 256 ^ i) i m h k = iteK (Nat.beq (Nat.mod (bits0 / 256 ^ i) 256) m) (k (.p i) h) (forceN (Nat.div (bits0 / 256 ^ i) 256) fun bits => forceN (Nat.succ i) fun i => scanK n bits i m h k) := rfl
    rw [h0, iteK_eq, forceN_eq, forceN_eq]
    have hd : Nat.div (bits0 / 256 ^ i) 256 = bits0 / 256 ^ (i + 1) := by
      show bits0 / 256 ^ i / 256 = _
      rw [Nat.div_div_eq_div_mul, Nat.pow_succ]
    have hc : (UInt8.ofNat (bits0 / 256 ^ i) == UInt8.ofNat m) = Nat.beq (Nat.mod (bits0 / 256 ^ i) 256) m := by
      have e1 : (UInt8.ofNat (bits0 / 256 ^ i)).toNat = bits0 / 256 ^ i % 256 := UInt8.toNat_ofNat'
      have e2 : (UInt8.ofNat m).toNat = m := by rw [UInt8.toNat_ofNat']; exact Nat.mod_eq_of_lt hm
      have e3 : Nat.mod (bits0 / 256 ^ i) 256 = bits0 / 256 ^ i % 256 := rfl
      by_cases e : bits0 / 256 ^ i % 256 = m
      · have : UInt8.ofNat (bits0 / 256 ^ i) = UInt8.ofNat m := UInt8.toNat_inj.1 (by rw [e1, e2, e])
        rw [this, e3, e]; simp
      · have : UInt8.ofNat (bits0 / 256 ^ i) ≠ UInt8.ofNat m := fun q => e (by rw [← e1, q, e2])
        rw [e3]
        have h1 : (UInt8.ofNat (bits0 / 256 ^ i) == UInt8.ofNat m) = false := by simpa using this
        rw [h1]
        cases hb : Nat.beq (bits0 / 256 ^ i % 256) m
        · rfl
        · exact absurd (Nat.eq_of_beq_eq_true hb) e
    rw [List.range'_succ, List.find?_cons, hc, hd]
    cases Nat.beq (Nat.mod (bits0 / 256 ^ i) 256) m
    · simp only [Bool.false_eq_true, if_false]; exact ih (i + 1)
    · rfl

theorem find_congr {p q : Nat → Bool} : ∀ (l : List Nat), (∀ j ∈ l, p j = q j) → l.find? p = l.find? q
  | [], _ => rfl
  | x :: l, h => by simp only [List.find?_cons, h x (by simp), find_congr l fun j hj => h j (by simp [hj])]

noncomputable def hkIndex (l : AV) (h : H) (k : AV → H → Res) : Res :=
  consK l (fun s r => consK r (fun c t => consK t (fun _ _ => .fail 120) (isS s (fun len bits => isW c (fun kd m => iteK (Nat.beq (kdN kd) 4) (iteK (Nat.ble m 255) (scanK len bits 0 m h k) (.fail 120)) (.fail 120)) (.fail 120)) (.fail 120)) (.fail 120)) (.fail 120) (.fail 120)) (.fail 120) (.fail 120)

theorem hkIndex_rel {P : Program} {f : Nat} {fn : Func} (hf : P.funcs[f]? = some fn) (hname : (fn.name == "runtime.NumGoroutine") = false) (hb : fn.body.isNone = true) (hn : Extern.findNext fn = none)
    (he : Extern.find fn = some Extern.BytealgIndexByte.indexByte) : FRel P f (.hk hkIndex) := by
  intro l h k hg
  have no : ∀ {p : Prop} {c : Nat}, (Res.fail c).good → p := fun hh => absurd hh Res.not_good_fail
  unfold hkIndex at hg
  rcases consK_or hg with ⟨s, r, rfl, g1⟩ | ⟨_, g1⟩
  · rcases consK_or (x := r) g1 with ⟨c, t, rfl, g2⟩ | ⟨_, g2⟩
    · rcases consK_or (x := t) g2 with ⟨_, _, _, g3⟩ | ⟨rfl, g3⟩
      · exact no g3
      · rcases isS_or (x := s) g3 with ⟨len, bits, rfl, g4⟩ | g4
        · rcases isW_or (x := c) g4 with ⟨kd, m, rfl, g5⟩ | g5
          · clear hg
            obtain ⟨h1, g6⟩ := iteK_good g5
            obtain ⟨h2, hg⟩ := iteK_good g6
            have hkd : kd = .u8 := kdN_inj (beq_eq h1)
            subst hkd
            have hm : m < 256 := by have := Nat.le_of_ble_eq_true h2; omega
            have hs := scanK_eq bits m hm h k len 0
            rw [Nat.pow_zero, Nat.div_one] at hs
            rw [hs] at hg
            have key : ∃ v, (k v h).good ∧ ∀ μ nx w, VR μ nx w v (.int .i64 (firstIdx (dec len bits) (UInt8.ofNat m))) := by
              have hsz : (dec len bits).size = len := by simp [dec, ByteArray.size]
              have hget : ∀ j, j ∈ List.range len → ((dec len bits)[j]! == UInt8.ofNat m) = (UInt8.ofNat (bits / 256 ^ j) == UInt8.ofNat m) := by
                intro j hj
                have hj' : j < (dec len bits).size := by rw [hsz]; exact List.mem_range.1 hj
                have : (dec len bits)[j]! = UInt8.ofNat (bits / 256 ^ j) := by
                  rw [getElem!_pos (dec len bits) j hj']
                  simp [dec, ByteArray.getElem_eq_getElem_data]
                rw [this]
              have hfind : (List.range (dec len bits).size).find? (fun i => (dec len bits)[i]! == UInt8.ofNat m) = (List.range' 0 len).find? (fun j => UInt8.ofNat (bits / 256 ^ j) == UInt8.ofNat m) := by
                rw [hsz, ← List.range_eq_range']
                exact find_congr _ fun j hj => hget j hj
              unfold firstIdx
              rw [hfind]
              split at hg
              · rename_i j hj; rw [hj]; exact ⟨_, hg, fun _ _ _ => rfl⟩
              · rename_i hj; rw [hj]; exact ⟨_, hg, fun _ _ _ => rfl⟩
            obtain ⟨v, hg, hv⟩ := key
            refine ⟨v, h, fun μ w vs hvs hh => .inr ?_, hg⟩
            obtain ⟨x, xs, rfl, hx, y, ys, rfl, hy, hz⟩ := hvs
            rw [VRL_nil.1 hz]
            have hx' : x = .string (dec len bits) := hx.1
            have hy' : y = .int .u8 m := hy
            subst hx'; subst hy'
            refine ⟨_, μ, w, ?_, Ext.refl μ h w hh, hh, hv _ _ _⟩
            rw [run_callFunc_extern hf hname hb hn he, show [Value.string (dec len bits), Value.int .u8 (m : Nat)].toArray = #[.string (dec len bits), .int .u8 m] from rfl, run_indexByte_string]
            rfl
          · exact no g5
        · exact no g4
    · exact no g2
  · exact no g1

end Go.Ev
