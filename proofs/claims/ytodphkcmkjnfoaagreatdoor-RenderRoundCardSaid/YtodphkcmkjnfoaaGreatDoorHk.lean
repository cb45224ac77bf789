/-
  strconv.Itoa (below a hundred) and strings.ReplaceAll (at one text) as the kit's contracts say, for the evaluator.
-/
import Derived.Test.YtodphkcmkjnfoaaGreatDoorEvX
import Derived.Test.YtodphkcmkjnfoaaGreatDoorProg
import Derived.Shelf.Strings.Replace
import Derived.Shelf.Strconv.Itoa4
import Derived.KernelRfl
namespace Go.Proofs
open Go.Shelf
set_option maxRecDepth 100000
def Tryz.lays155_ren : Ren := { f := fun | 155 => 54 | 154 => 82 | 138 => 91 | 165 => 92 | 143 => 93 | 166 => 94 | 197 => 95 | 169 => 96 | 195 => 114 | 218 => 115 | 240 => 116 | 241 => 117 | 219 => 118 | 260 => 119 | 276 => 140 | 277 => 141 | 217 => 84 | 225 => 142 | 224 => 143 | 267 => 144 | 266 => 97 | 314 => 177 | n => n, t := fun | 9 => 9 | 3 => 3 | 4 => 4 | 72 => 117 | 0 => 0 | 76 => 121 | 105 => 123 | 21 => 21 | 5 => 5 | 70 => 115 | 20 => 20 | 37 => 106 | 75 => 120 | 127 => 161 | 164 => 188 | 46 => 88 | 119 => 191 | 139 => 194 | 138 => 193 | 146 => 216 | 51 => 185 | 80 => 125 | n => n, g := fun | 1 => 0 | 3 => 2 | 4 => 3 | n => n }
theorem Tryz.lays155 : Lays.n155 Tryz.prog Tryz.lays155_ren where
  mixed := by kernel_rfl
  f138 := Tryz.func91.trans (congrArg some (by kernel_rfl))
  f143 := Tryz.func93.trans (congrArg some (by kernel_rfl))
  f154 := Tryz.func82.trans (congrArg some (by kernel_rfl))
  f155 := Tryz.func54.trans (congrArg some (by kernel_rfl))
  f165 := Tryz.func92.trans (congrArg some (by kernel_rfl))
  f166 := Tryz.func94.trans (congrArg some (by kernel_rfl))
  f169 := Tryz.func96.trans (congrArg some (by kernel_rfl))
  f195 := Tryz.func114.trans (congrArg some (by kernel_rfl))
  f197 := Tryz.func95.trans (congrArg some (by kernel_rfl))
  f217 := Tryz.func84.trans (congrArg some (by kernel_rfl))
  f218 := Tryz.func115.trans (congrArg some (by kernel_rfl))
  f219 := Tryz.func118.trans (congrArg some (by kernel_rfl))
  f224 := Tryz.func143.trans (congrArg some (by kernel_rfl))
  f225 := Tryz.func142.trans (congrArg some (by kernel_rfl))
  f240 := Tryz.func116.trans (congrArg some (by kernel_rfl))
  f241 := Tryz.func117.trans (congrArg some (by kernel_rfl))
  f260 := Tryz.func119.trans (congrArg some (by kernel_rfl))
  f266 := Tryz.func97.trans (congrArg some (by kernel_rfl))
  f267 := Tryz.func144.trans (congrArg some (by kernel_rfl))
  f276 := Tryz.func140.trans (congrArg some (by kernel_rfl))
  f277 := Tryz.func141.trans (congrArg some (by kernel_rfl))
  f314 := Tryz.func177.trans (congrArg some (by kernel_rfl))
  t0 := Tryz.underlying0
  a0 := Tryz.isAgg0
  z0 := Tryz.sizeOf0
  v0 := Tryz.zeroValue0
  t3 := Tryz.underlying3
  a3 := Tryz.isAgg3
  z3 := Tryz.sizeOf3
  v3 := Tryz.zeroValue3
  t4 := Tryz.underlying4
  a4 := Tryz.isAgg4
  z4 := Tryz.sizeOf4
  v4 := Tryz.zeroValue4
  t5 := Tryz.underlying5
  a5 := Tryz.isAgg5
  z5 := Tryz.sizeOf5
  v5 := Tryz.zeroValue5
  t9 := Tryz.underlying9
  a9 := Tryz.isAgg9
  z9 := Tryz.sizeOf9
  v9 := Tryz.zeroValue9
  t20 := Tryz.underlying20
  a20 := Tryz.isAgg20
  z20 := Tryz.sizeOf20
  v20 := Tryz.zeroValue20
  t21 := Tryz.underlying21
  a21 := Tryz.isAgg21
  z21 := Tryz.sizeOf21
  v21 := Tryz.zeroValue21
  t37 := Tryz.underlying106
  a37 := Tryz.isAgg106
  z37 := Tryz.sizeOf106
  v37 := Tryz.zeroValue106
  t46 := Tryz.underlying88
  a46 := Tryz.isAgg88
  z46 := Tryz.sizeOf88
  v46 := Tryz.zeroValue88
  t51 := Tryz.underlying185
  a51 := Tryz.isAgg185
  z51 := Tryz.sizeOf185
  v51 := Tryz.zeroValue185
  t70 := Tryz.underlying115
  a70 := Tryz.isAgg115
  z70 := Tryz.sizeOf115
  v70 := Tryz.zeroValue115
  t72 := Tryz.underlying117
  a72 := Tryz.isAgg117
  z72 := Tryz.sizeOf117
  v72 := Tryz.zeroValue117
  t75 := Tryz.underlying120
  a75 := Tryz.isAgg120
  z75 := Tryz.sizeOf120
  v75 := Tryz.zeroValue120
  t76 := Tryz.underlying121
  a76 := Tryz.isAgg121
  z76 := Tryz.sizeOf121
  v76 := Tryz.zeroValue121
  t105 := Tryz.underlying123
  a105 := Tryz.isAgg123
  z105 := Tryz.sizeOf123
  v105 := Tryz.zeroValue123
  t119 := Tryz.underlying191
  a119 := Tryz.isAgg191
  z119 := Tryz.sizeOf191
  t127 := Tryz.underlying161
  a127 := Tryz.isAgg161
  z127 := Tryz.sizeOf161
  v127 := Tryz.zeroValue161
  t138 := Tryz.underlying193
  a138 := Tryz.isAgg193
  z138 := Tryz.sizeOf193
  v138 := Tryz.zeroValue193
  t139 := Tryz.underlying194
  a139 := Tryz.isAgg194
  z139 := Tryz.sizeOf194
  v139 := Tryz.zeroValue194
  t146 := Tryz.underlying216
  a146 := Tryz.isAgg216
  z146 := Tryz.sizeOf216
  v146 := Tryz.zeroValue216
  t164 := Tryz.underlying188
  a164 := Tryz.isAgg188
  z164 := Tryz.sizeOf188
  v164 := Tryz.zeroValue188
  g1 := by kernel_rfl
  g3 := by kernel_rfl
  g4 := by kernel_rfl
def Tryz.lays171_ren : Ren := { f := fun | 171 => 50 | 243 => 81 | 246 => 90 | 283 => 110 | 284 => 111 | 285 => 112 | 286 => 113 | 129 => 136 | 317 => 135 | 318 => 137 | 319 => 138 | 320 => 139 | 337 => 175 | 338 => 176 | n => n, t := fun | 3 => 3 | 9 => 9 | 2 => 2 | 4 => 4 | 171 => 155 | 0 => 0 | 53 => 156 | 37 => 106 | 5 => 5 | 173 => 159 | 212 => 184 | 51 => 185 | 20 => 20 | 213 => 186 | 46 => 88 | 232 => 227 | 233 => 228 | n => n, g := fun | 17 => 1 | 18 => 4 | 19 => 5 | n => n }
theorem Tryz.lays171 : LaysM.n171 Tryz.prog Tryz.lays171_ren where
  mixed := by kernel_rfl
  f129 := Tryz.func136.trans (congrArg some (by kernel_rfl))
  f171 := Tryz.func50.trans (congrArg some (by kernel_rfl))
  f243 := Tryz.func81.trans (congrArg some (by kernel_rfl))
  f246 := Tryz.func90.trans (congrArg some (by kernel_rfl))
  f283 := Tryz.func110.trans (congrArg some (by kernel_rfl))
  f284 := Tryz.func111.trans (congrArg some (by kernel_rfl))
  f285 := Tryz.func112.trans (congrArg some (by kernel_rfl))
  f286 := Tryz.func113.trans (congrArg some (by kernel_rfl))
  f317 := Tryz.func135.trans (congrArg some (by kernel_rfl))
  f318 := Tryz.func137.trans (congrArg some (by kernel_rfl))
  f319 := Tryz.func138.trans (congrArg some (by kernel_rfl))
  f320 := Tryz.func139.trans (congrArg some (by kernel_rfl))
  f337 := Tryz.func175.trans (congrArg some (by kernel_rfl))
  f338 := Tryz.func176.trans (congrArg some (by kernel_rfl))
  t0 := Tryz.underlying0
  a0 := Tryz.isAgg0
  z0 := Tryz.sizeOf0
  v0 := Tryz.zeroValue0
  t2 := Tryz.underlying2
  a2 := Tryz.isAgg2
  z2 := Tryz.sizeOf2
  v2 := Tryz.zeroValue2
  t3 := Tryz.underlying3
  a3 := Tryz.isAgg3
  z3 := Tryz.sizeOf3
  v3 := Tryz.zeroValue3
  t4 := Tryz.underlying4
  a4 := Tryz.isAgg4
  z4 := Tryz.sizeOf4
  v4 := Tryz.zeroValue4
  t5 := Tryz.underlying5
  a5 := Tryz.isAgg5
  z5 := Tryz.sizeOf5
  v5 := Tryz.zeroValue5
  t9 := Tryz.underlying9
  a9 := Tryz.isAgg9
  z9 := Tryz.sizeOf9
  v9 := Tryz.zeroValue9
  t20 := Tryz.underlying20
  a20 := Tryz.isAgg20
  z20 := Tryz.sizeOf20
  v20 := Tryz.zeroValue20
  t37 := Tryz.underlying106
  a37 := Tryz.isAgg106
  z37 := Tryz.sizeOf106
  v37 := Tryz.zeroValue106
  t46 := Tryz.underlying88
  a46 := Tryz.isAgg88
  z46 := Tryz.sizeOf88
  v46 := Tryz.zeroValue88
  t51 := Tryz.underlying185
  a51 := Tryz.isAgg185
  z51 := Tryz.sizeOf185
  v51 := Tryz.zeroValue185
  t53 := Tryz.underlying156
  a53 := Tryz.isAgg156
  z53 := Tryz.sizeOf156
  v53 := Tryz.zeroValue156
  t171 := Tryz.underlying155
  a171 := Tryz.isAgg155
  z171 := Tryz.sizeOf155
  v171 := Tryz.zeroValue155
  t173 := Tryz.underlying159
  a173 := Tryz.isAgg159
  z173 := Tryz.sizeOf159
  v173 := Tryz.zeroValue159
  t212 := Tryz.underlying184
  a212 := Tryz.isAgg184
  z212 := Tryz.sizeOf184
  v212 := Tryz.zeroValue184
  t213 := Tryz.underlying186
  a213 := Tryz.isAgg186
  z213 := Tryz.sizeOf186
  t232 := Tryz.underlying227
  a232 := Tryz.isAgg227
  z232 := Tryz.sizeOf227
  v232 := Tryz.zeroValue227
  t233 := Tryz.underlying228
  a233 := Tryz.isAgg228
  z233 := Tryz.sizeOf228
  v233 := Tryz.zeroValue228
  g17 := by kernel_rfl
  g18 := by kernel_rfl
  g19 := by kernel_rfl
  i0 := by kernel_rfl
  i2 := by kernel_rfl
  i3 := by kernel_rfl
  i4 := by kernel_rfl
  i5 := by kernel_rfl
  i9 := by kernel_rfl
  i20 := by kernel_rfl
  i37 := by kernel_rfl
  i46 := by kernel_rfl
  i51 := by kernel_rfl
  i53 := by kernel_rfl
  i171 := by kernel_rfl
  i173 := by kernel_rfl
  i212 := by kernel_rfl
  i232 := by kernel_rfl
  i233 := by kernel_rfl
  m17 := by kernel_rfl
  m18 := by kernel_rfl
  m19 := by kernel_rfl

theorem Tryz.extra155 : Builder.Extra Tryz.prog Tryz.lays155_ren where
  sizeBuilder := by kernel_rfl
  liesBuilder := by kernel_rfl
  t5 := Tryz.lays155.t5
  a5 := Tryz.lays155.a5
  z5 := Tryz.lays155.z5
  v5 := Tryz.lays155.v5
  infoByte := by kernel_rfl
  cellsByte := by kernel_rfl
  sizeByte := by kernel_rfl
  neB5 := by decide
end Go.Proofs

namespace Go.Ev
open Go.Proofs

/-! ### Digits -/

theorem dec_digits1 (i : Nat) (h : i < 10) : (⟨(Lib.decDigits i).toArray⟩ : ByteArray) = dec 1 (48 + i) := by
  unfold Lib.decDigits dec
  rw [dif_pos h]
  simp
theorem dec_two (a b : Nat) (ha : a < 256) : dec 2 (a + 256 * b) = ⟨#[UInt8.ofNat a, UInt8.ofNat b]⟩ := by
  unfold dec
  have e1 : (a + 256 * b) / 256 = b := by omega
  have e2 : UInt8.ofNat (a + 256 * b) = UInt8.ofNat a := UInt8.toNat_inj.1 (by simp)
  simp [List.range_succ, e1, e2]
theorem dec_three (a b c : Nat) (ha : a < 256) (hb : b < 256) : dec 3 (a + 256 * (b + 256 * c)) = ⟨#[UInt8.ofNat a, UInt8.ofNat b, UInt8.ofNat c]⟩ := by
  unfold dec
  have e1 : (a + 256 * (b + 256 * c)) / 256 = b + 256 * c := by omega
  have e3 : (a + 256 * (b + 256 * c)) / 65536 = c := by omega
  have e2 : UInt8.ofNat (a + 256 * (b + 256 * c)) = UInt8.ofNat a := UInt8.toNat_inj.1 (by simp)
  have e4 : UInt8.ofNat (b + 256 * c) = UInt8.ofNat b := UInt8.toNat_inj.1 (by simp)
  simp [List.range_succ, e1, e2, e3, e4]
theorem digits2 (i : Nat) (h1 : ¬ i < 10) (h : i < 100) : Lib.decDigits i = [UInt8.ofNat (48 + i / 10), UInt8.ofNat (48 + i % 10)] := by
  rw [Lib.decDigits, dif_neg h1, Lib.decDigits, dif_pos (by omega)]
  rfl

/-- A number between -100 and 100, as text. -/
noncomputable def hkItoa (l : AV) (h : H) (k : AV → H → Res) : Res :=
  consK l (fun x r => consK r (fun _ _ => .fail 123)
    (AV.casesOn (motive := fun _ => Res) x (.fail 123) (fun _ => .fail 123)
      (fun n => iteK (Nat.ble n 99) (iteK (Nat.ble n 9) (forceN (Nat.add 48 n) fun b => k (.s 1 b) h) (forceN (Nat.add (Nat.add 48 (Nat.div n 10)) (Nat.mul 256 (Nat.add 48 (Nat.mod n 10)))) fun b => k (.s 2 b) h)) (.fail 123))
      (fun n => iteK (Nat.ble n 98) (iteK (Nat.ble n 8) (forceN (Nat.add 45 (Nat.mul 256 (Nat.add 48 (Nat.succ n)))) fun b => k (.s 2 b) h)
          (forceN (Nat.add 45 (Nat.mul 256 (Nat.add (Nat.add 48 (Nat.div (Nat.succ n) 10)) (Nat.mul 256 (Nat.add 48 (Nat.mod (Nat.succ n) 10)))))) fun b => k (.s 3 b) h)) (.fail 123))
      (fun _ _ => .fail 123) (fun _ _ => .fail 123) (fun _ _ => .fail 123) (.fail 123) (fun _ _ _ _ _ => .fail 123) (.fail 123) (.fail 123) (fun _ => .fail 123) (.fail 123) (fun _ _ _ => .fail 123) (.fail 123) (fun _ => .fail 123) (fun _ => .fail 123) (.fail 123) (fun _ _ => .fail 123)) (.fail 123)) (.fail 123) (.fail 123)

theorem tabIs {μ : Nat → Nat} {h : H} {w : World} (hr : HR μ h w) : Lib.TabIs Tryz.prog w "internal/strconv.uint64pow10" .u64 Lib.pow10Tab := by
  obtain ⟨cs, E, fz, h1, h2⟩ := hr.gl 1 _ rfl
  unfold Lib.TabIs World.var?
  have hg : Tryz.prog.globalNamed "internal/strconv.uint64pow10" = some 1 := by kernel_rfl
  rw [hg]
  simp only [Option.bind_some, h1]
  rw [h2]

theorem itoa_rel : FRel Tryz.prog 50 (.hk hkItoa) := by
  intro l h k hg
  have no : ∀ {p : Prop} {c : Nat}, (Res.fail c).good → p := fun hh => absurd hh Res.not_good_fail
  unfold hkItoa at hg
  rcases consK_or hg with ⟨x, r, rfl, g1⟩ | ⟨_, g1⟩
  · rcases consK_or g1 with ⟨_, _, _, g2⟩ | ⟨rfl, g2⟩
    · exact no g2
    · have main : ∀ (z : Int) (len bits : Nat), -9223372036854775808 ≤ z → z ≤ 9223372036854775807 → (∀ μ w v, VR μ h.nx w x v → v = .int .i64 z) → (⟨(Lib.itoa z).toArray⟩ : ByteArray) = dec len bits → bits < 256 ^ len → (k (.s len bits) h).good →
          ∃ v h', CSem Tryz.prog 50 (.cons x .nil) h v h' ∧ (k v h').good := by
        intro z len bits h1 h2 hx hd hb hk
        refine ⟨_, h, fun μ w vs hvs hr => .inl ⟨?_, ?_⟩, hk⟩
        · have : (Tryz.f50.name == "runtime.NumGoroutine") = false := by kernel_rfl
          have hb : Tryz.f50.body.isSome = true := by kernel_rfl
          obtain ⟨c, hc⟩ := Option.isSome_iff_exists.1 hb
          have hn : Tryz.f50.name ≠ "runtime.NumGoroutine" := by simpa using this
          simp [callFunc, Tryz.func50, hn, hc]
        · obtain ⟨v, vs', rfl, hv, hvs'⟩ := hvs
          obtain rfl := VRL_nil.1 hvs'
          obtain rfl := hx μ w v hv
          refine (Any.strconv_Itoa Tryz.lays171 z h1 h2 w (tabIs hr)).mono ?_
          rintro e w' ⟨rfl, n, os, rfl⟩
          obtain ⟨q1, q2⟩ := Ext.more (w' := Sort.grow (w.drewN n) os) hr (fun c hc => by
            simp only [Sort.grow, World.drewN]
            rw [Array.getElem?_append_left hc]) (by simp [Sort.grow, World.drewN]) rfl rfl
          exact ⟨_, rfl, μ, q1, q2, by rw [hd], hb⟩
      cases x with
      | p n =>
        obtain ⟨g3, g4⟩ := iteK_good (show (iteK (Nat.ble n 99) (iteK (Nat.ble n 9) (forceN (Nat.add 48 n) fun b => k (.s 1 b) h) (forceN (Nat.add (Nat.add 48 (Nat.div n 10)) (Nat.mul 256 (Nat.add 48 (Nat.mod n 10)))) fun b => k (.s 2 b) h)) (.fail 123)).good from g2)
        have g3 : n ≤ 99 := Nat.le_of_ble_eq_true g3
        rw [iteK_eq] at g4
        have e0 : Lib.itoa (n : Int) = Lib.decDigits n := by unfold Lib.itoa; rw [if_neg (by omega)]; rfl
        by_cases h9 : n ≤ 9
        · rw [if_pos (Nat.ble_eq_true_of_le h9), forceN_eq] at g4
          exact main n 1 (48 + n) (by omega) (by omega) (fun μ w v hv => hv) (by rw [e0]; exact dec_digits1 n (by omega)) (by omega) g4
        · rw [if_neg (fun q => h9 (Nat.le_of_ble_eq_true q)), forceN_eq] at g4
          refine main n 2 (48 + n / 10 + 256 * (48 + n % 10)) (by omega) (by omega) (fun μ w v hv => hv) ?_ (by omega) g4
          rw [e0, digits2 n (by omega) (by omega), dec_two _ _ (by omega)]
      | n n =>
        obtain ⟨g3, g4⟩ := iteK_good (show (iteK (Nat.ble n 98) (iteK (Nat.ble n 8) (forceN (Nat.add 45 (Nat.mul 256 (Nat.add 48 (Nat.succ n)))) fun b => k (.s 2 b) h)
          (forceN (Nat.add 45 (Nat.mul 256 (Nat.add (Nat.add 48 (Nat.div (Nat.succ n) 10)) (Nat.mul 256 (Nat.add 48 (Nat.mod (Nat.succ n) 10)))))) fun b => k (.s 3 b) h)) (.fail 123)).good from g2)
        have g3 : n ≤ 98 := Nat.le_of_ble_eq_true g3
        rw [iteK_eq] at g4
        have e0 : Lib.itoa (Int.negSucc n) = 45 :: Lib.decDigits (n + 1) := by unfold Lib.itoa; rw [if_pos (by omega)]; rfl
        by_cases h9 : n ≤ 8
        · rw [if_pos (Nat.ble_eq_true_of_le h9), forceN_eq] at g4
          refine main (Int.negSucc n) 2 (45 + 256 * (48 + (n + 1))) (by omega) (by omega) (fun μ w v hv => hv) ?_ (by omega) g4
          rw [e0, dec_two 45 _ (by omega), Lib.decDigits, dif_pos (by omega)]
          rfl
        · rw [if_neg (fun q => h9 (Nat.le_of_ble_eq_true q)), forceN_eq] at g4
          refine main (Int.negSucc n) 3 (45 + 256 * (48 + (n + 1) / 10 + 256 * (48 + (n + 1) % 10))) (by omega) (by omega) (fun μ w v hv => hv) ?_ (by omega) g4
          rw [e0, dec_three 45 _ _ (by omega) (by omega), digits2 (n + 1) (by omega) (by omega)]
          rfl
      | _ => exact no g2
  · exact no g1

/-- One text with its quote doubled. -/
noncomputable def hkQuote (l : AV) (h : H) (k : AV → H → Res) : Res :=
  iteK (eqA l (.cons (.s 4 1931965545) (.cons (.s 1 39) (.cons (.s 2 10023) .nil)))) (k (.s 5 494578136169) h) (.fail 124)

theorem replaced : Lib.replaceAll (dec 4 1931965545).data.toList (dec 1 39).data.toList (dec 2 10023).data.toList = (dec 5 494578136169).data.toList := by decide +kernel
theorem quote_rel : FRel Tryz.prog 54 (.hk hkQuote) := by
  intro l h k hg
  obtain ⟨g1, g2⟩ := iteK_good hg
  have hl := eqA_eq g1
  subst hl
  refine ⟨_, h, fun μ w vs hvs hr => .inl ⟨?_, ?_⟩, g2⟩
  · have : (Tryz.f54.name == "runtime.NumGoroutine") = false := by kernel_rfl
    have hb : Tryz.f54.body.isSome = true := by kernel_rfl
    obtain ⟨c, hc⟩ := Option.isSome_iff_exists.1 hb
    have hn : Tryz.f54.name ≠ "runtime.NumGoroutine" := by simpa using this
    simp [callFunc, Tryz.func54, hn, hc]
  · obtain ⟨v0, vs0, rfl, ⟨rfl, _⟩, v1, vs1, rfl, ⟨rfl, _⟩, v2, vs2, rfl, ⟨rfl, _⟩, hvs3⟩ := hvs
    obtain rfl := VRL_nil.1 hvs3
    obtain ⟨cs, E, fz, q1, m, q2⟩ := hr.gl 0 _ rfl
    have hm : w.cell? ⟨0, 0, none⟩ = some (.int .i64 m) := by
      unfold World.cell?
      simp only [q1]
      simpa using q2
    refine (Any.strings_ReplaceAll Tryz.lays155 Tryz.extra155 (dec 4 1931965545) (dec 1 39) (dec 2 10023) m w (by decide +kernel) hm (by decide +kernel) (by decide +kernel)).mono ?_
    rintro e w' ⟨rfl, hB⟩
    obtain ⟨x1, x2⟩ := Ext.more hr (fun c hc => hB.block c hc) hB.size hB.os hB.output
    exact ⟨_, rfl, μ, x1, x2, by rw [replaced], by decide⟩

end Go.Ev
