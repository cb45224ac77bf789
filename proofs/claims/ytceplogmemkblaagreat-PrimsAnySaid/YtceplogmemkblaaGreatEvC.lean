/-
  An abstract evaluator for Go code under the model: strings as a length and a number.
-/
import Derived.Test.YtceplogmemkblaaGreatEvB
import Derived.Laws.Strings
import Derived.Laws.Concat
namespace Go.Ev

def dl (len bits : Nat) : List UInt8 := (List.range len).map fun i => UInt8.ofNat (bits / 256 ^ i)

theorem dec_eq (len bits : Nat) : dec len bits = ⟨(dl len bits).toArray⟩ := rfl
theorem dl_length (len bits : Nat) : (dl len bits).length = len := by simp [dl]
theorem dec_size (len bits : Nat) : (dec len bits).size = len := by show (dl len bits).toArray.size = len; simp [dl]

theorem dl_get (len bits i : Nat) (h : i < len) : (dl len bits)[i]? = some (UInt8.ofNat (bits / 256 ^ i)) := by
  simp [dl, List.getElem?_map, List.getElem?_range h]

theorem dl_ext {l l' : List UInt8} (hl : l.length = l'.length) (h : ∀ i, i < l.length → l[i]? = l'[i]?) : l = l' := by
  apply List.ext_getElem? ; intro i
  rcases Nat.lt_or_ge i l.length with hi | hi
  · exact h i hi
  · rw [List.getElem?_eq_none hi, List.getElem?_eq_none (by omega)]

theorem u8_mod (n : Nat) : UInt8.ofNat (n % 256) = UInt8.ofNat n := by
  apply UInt8.toNat_inj.1; simp

theorem dl_inj : ∀ (len b b' : Nat), b < 256 ^ len → b' < 256 ^ len → dl len b = dl len b' → b = b'
  | 0, b, b', h, h', _ => by simp at h h'; omega
  | len + 1, b, b', h, h', e => by
    have h0 : (dl (len + 1) b)[0]? = (dl (len + 1) b')[0]? := by rw [e]
    rw [dl_get _ _ _ (by omega), dl_get _ _ _ (by omega)] at h0
    simp only [Nat.pow_zero, Nat.div_one, Option.some.injEq] at h0
    have hm : b % 256 = b' % 256 := by have := congrArg UInt8.toNat h0; simpa using this
    have ht : dl len (b / 256) = dl len (b' / 256) := by
      refine dl_ext (by simp [dl]) fun i hi => ?_
      rw [dl_length] at hi
      have hh : (dl (len + 1) b)[i + 1]? = (dl (len + 1) b')[i + 1]? := by rw [e]
      rw [dl_get _ _ _ (by omega), dl_get _ _ _ (by omega)] at hh
      rw [dl_get _ _ _ hi, dl_get _ _ _ hi, Nat.div_div_eq_div_mul, Nat.div_div_eq_div_mul, show 256 * 256 ^ i = 256 ^ (i + 1) by rw [Nat.pow_succ, Nat.mul_comm]]
      exact hh
    have := dl_inj len (b / 256) (b' / 256) (by rw [Nat.pow_succ] at h; omega) (by rw [Nat.pow_succ] at h'; omega) ht
    omega

theorem dec_inj {len b len' b' : Nat} (h : b < 256 ^ len) (h' : b' < 256 ^ len') (e : dec len b = dec len' b') : len = len' ∧ b = b' := by
  have hl : len = len' := by have := congrArg ByteArray.size e; rwa [dec_size, dec_size] at this
  subst hl
  refine ⟨rfl, dl_inj len b b' h h' ?_⟩
  have := congrArg (fun x : ByteArray => x.data.toList) e
  simpa [dec_eq] using this

theorem dec_append (l1 b1 l2 b2 : Nat) (h : b1 < 256 ^ l1) : dec l1 b1 ++ dec l2 b2 = dec (l1 + l2) (b1 + b2 * 256 ^ l1) := by
  rw [dec_eq, dec_eq, dec_eq, ByteArray.mk_append_mk]
  refine congrArg (fun l : List UInt8 => (⟨l.toArray⟩ : ByteArray)) ?_
  refine dl_ext (by simp [dl]) fun i hi => ?_
  simp only [List.length_append, dl_length] at hi
  have hp : 0 < 256 ^ l1 := Nat.pow_pos (by decide)
  rw [dl_get _ _ _ hi, List.getElem?_append]
  rw [dl_length]
  by_cases hlt : i < l1
  · rw [if_pos hlt, dl_get _ _ _ hlt, ← u8_mod (b1 / 256 ^ i), ← u8_mod ((b1 + b2 * 256 ^ l1) / 256 ^ i)]
    congr 2
    have hsplit : 256 ^ l1 = 256 ^ i * (256 * 256 ^ (l1 - i - 1)) := by
      rw [← Nat.pow_succ', ← Nat.pow_add]; congr 1; omega
    rw [hsplit, show b2 * (256 ^ i * (256 * 256 ^ (l1 - i - 1))) = 256 ^ i * (256 * (256 ^ (l1 - i - 1) * b2)) by ac_rfl,
      Nat.add_mul_div_left _ _ (Nat.pow_pos (by decide)), Nat.add_mul_mod_self_left]
  · rw [if_neg hlt, dl_get _ _ _ (by omega)]
    congr 2
    have hsplit : 256 ^ i = 256 ^ l1 * 256 ^ (i - l1) := by rw [← Nat.pow_add]; congr 1; omega
    rw [hsplit, ← Nat.div_div_eq_div_mul, Nat.add_mul_div_right _ _ hp, Nat.div_eq_of_lt h, Nat.zero_add]

theorem sum_lt {l1 b1 l2 b2 : Nat} (h1 : b1 < 256 ^ l1) (h2 : b2 < 256 ^ l2) : b1 + b2 * 256 ^ l1 < 256 ^ (l1 + l2) := by
  rw [Nat.pow_add]
  have : b2 + 1 ≤ 256 ^ l2 := h2
  calc b1 + b2 * 256 ^ l1 < 256 ^ l1 + b2 * 256 ^ l1 := by omega
    _ = (b2 + 1) * 256 ^ l1 := by rw [Nat.add_mul, Nat.one_mul, Nat.add_comm]
    _ ≤ 256 ^ l2 * 256 ^ l1 := Nat.mul_le_mul_right _ this
    _ = 256 ^ l1 * 256 ^ l2 := Nat.mul_comm _ _

theorem dec_extract (len bits l h : Nat) (hl : l ≤ h) (hh : h ≤ len) : (dec len bits).extract l h = dec (h - l) ((bits / 256 ^ l) % 256 ^ (h - l)) := by
  have e : (dec len bits).extract l h = ⟨(((dl len bits).take h).drop l).toArray⟩ := by
    apply ByteArray.ext
    rw [ByteArray.data_extract, dec_eq]
    simp [List.extract_eq_take_drop, List.drop_take]
  rw [e, dec_eq]
  refine congrArg (fun l : List UInt8 => (⟨l.toArray⟩ : ByteArray)) ?_
  refine dl_ext (by simp [dl]; omega) fun i hi => ?_
  simp only [List.length_drop, List.length_take, dl_length] at hi
  rw [List.getElem?_drop, List.getElem?_take, if_pos (by omega), dl_get _ _ _ (by omega), dl_get _ _ _ (by omega), ← u8_mod, ← u8_mod ((bits / 256 ^ l % 256 ^ (h - l)) / 256 ^ i)]
  congr 2
  have hsplit : 256 ^ (h - l) = 256 ^ i * (256 * 256 ^ (h - l - i - 1)) := by
    rw [← Nat.pow_succ', ← Nat.pow_add]; congr 1; omega
  rw [hsplit, Nat.mod_mul_right_div_self, Nat.mod_mul_right_mod, Nat.div_div_eq_div_mul, ← Nat.pow_add]

theorem dec_get (len bits i : Nat) (h : i < len) : (dec len bits)[i]? = some (UInt8.ofNat (bits / 256 ^ i)) := by
  have hi : i < (dec len bits).size := by rw [dec_size]; exact h
  rw [getElem?_pos _ i hi]
  have := dl_get len bits i h
  rw [List.getElem?_eq_some_iff] at this
  obtain ⟨_, e⟩ := this
  rw [← e]
  rfl

/-- The number of a list of bytes. -/
def enc : List UInt8 → Nat
  | [] => 0
  | c :: l => c.toNat + 256 * enc l

theorem enc_lt : ∀ l : List UInt8, enc l < 256 ^ l.length
  | [] => by simp [enc]
  | c :: l => by
    have := enc_lt l; have hc := c.toNat_lt
    simp only [enc, List.length_cons, Nat.pow_succ]; omega

theorem dl_enc : ∀ l : List UInt8, dl l.length (enc l) = l
  | [] => rfl
  | c :: l => by
    refine dl_ext (by simp [dl]) fun i hi => ?_
    rw [dl_length] at hi
    rw [dl_get _ _ _ hi]
    have hc := c.toNat_lt
    cases i with
    | zero =>
      simp only [Nat.pow_zero, Nat.div_one, enc, List.getElem?_cons_zero, Option.some.injEq]
      rw [← u8_mod, Nat.add_mul_mod_self_left, u8_mod]; simp
    | succ i =>
      rw [List.getElem?_cons_succ]
      have := dl_get l.length (enc l) i (by simpa using hi)
      rw [dl_enc l] at this
      rw [this, Nat.pow_succ, Nat.mul_comm, ← Nat.div_div_eq_div_mul]
      congr 3
      simp only [enc]; omega

theorem dec_enc (b : ByteArray) : dec b.size (enc b.data.toList) = b := by
  apply ByteArray.ext
  rw [dec_eq]
  have := dl_enc b.data.toList
  rw [show b.data.toList.length = b.size from rfl] at this
  simp [this]

end Go.Ev
