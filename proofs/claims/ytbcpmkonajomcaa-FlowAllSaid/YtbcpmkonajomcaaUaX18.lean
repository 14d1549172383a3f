/- The reference's hash is the program's. -/
import Derived.Test.YtbcpmkonajomcaaUaX15
import Derived.Laws.Bits64
import Derived.Laws.Bits64b
namespace Go.Proofs.Ytbcpmkonajomcaa
open Go Go.Proofs Go.Ua
theorem bits_andNot_u64_nat (a b : Nat) (ha : a < 18446744073709551616) (hb : b < 18446744073709551616) :
    bits .andNot .u64 (a : Int) (b : Int) = ((a &&& (18446744073709551615 - b) : Nat) : Int) := by
  have h1 : BitVec.ofInt 64 (a : Int) = BitVec.ofNat 64 a := by rw [BitVec.ofInt_natCast]
  have h2 : BitVec.ofInt 64 (b : Int) = BitVec.ofNat 64 b := by rw [BitVec.ofInt_natCast]
  have h3 : (BitVec.ofNat 64 a &&& ~~~(BitVec.ofNat 64 b)).toNat = a &&& (18446744073709551615 - b) := by
    rw [BitVec.toNat_and, BitVec.toNat_not, BitVec.toNat_ofNat, BitVec.toNat_ofNat, Nat.mod_eq_of_lt ha, Nat.mod_eq_of_lt hb]
  have h4 : (a &&& (18446744073709551615 - b)) < 18446744073709551616 := Nat.lt_of_le_of_lt Nat.and_le_left ha
  show IntKind.wrap .u64 (((BitVec.ofInt 64 (a : Int) &&& ~~~(BitVec.ofInt 64 (b : Int))).toNat : Nat) : Int) = _
  rw [h1, h2, h3]
  simp only [IntKind.wrap, IntKind.bits, IntKind.signed]
  simp
  omega

theorem byte_step (a c : Nat) (ha : a < 18446744073709551616) (hc : c < 256) :
    (a &&& (18446744073709551615 - 255)) ||| ((a % 256) ^^^ c) = a ^^^ c := by
  apply Nat.eq_of_testBit_eq
  intro i
  have h1 : (18446744073709551615 - 255 : Nat) = (2 ^ 64 - 1) - (2 ^ 8 - 1) := by decide
  have h2 : ((18446744073709551615 - 255 : Nat)).testBit i = (decide (8 ≤ i) && decide (i < 64)) := by
    rw [show (18446744073709551615 - 255 : Nat) = (2 ^ 56 - 1) <<< 8 by decide, Nat.testBit_shiftLeft, Nat.testBit_two_pow_sub_one]
    by_cases h : 8 ≤ i
    · simp [h]; omega
    · simp [h]
  have h3 : (a % 256).testBit i = (decide (i < 8) && a.testBit i) := by
    rw [show 256 = 2 ^ 8 by decide, Nat.testBit_mod_two_pow]
  simp only [Nat.testBit_or, Nat.testBit_and, Nat.testBit_xor, h2, h3]
  by_cases h : i < 8
  · have : ¬ 8 ≤ i := by omega
    simp [h, this]
  · have hc' : c.testBit i = false := Nat.testBit_lt_two_pow (Nat.lt_of_lt_of_le hc (show 2 ^ 8 ≤ 2 ^ i from Nat.pow_le_pow_right (by decide) (by omega)))
    have h8 : 8 ≤ i := by omega
    by_cases h64 : i < 64
    · simp [h, h8, h64, hc']
    · have ha' : a.testBit i = false := Nat.testBit_lt_two_pow (Nat.lt_of_lt_of_le ha (show 2 ^ 64 ≤ 2 ^ i from Nat.pow_le_pow_right (by decide) (by omega)))
      simp [h, h8, h64, hc', ha']

theorem wrap_u64 (n : Int) : IntKind.wrap .u64 n = n % 18446744073709551616 := by
  simp only [IntKind.wrap, IntKind.bits, IntKind.signed]
  simp

theorem more_step (h c : Int) (h0 : 0 ≤ h) (h1 : h < 18446744073709551616) (c0 : 0 ≤ c) (c1 : c < 256) :
    bits .or .u64 (bits .andNot .u64 h 255) (bits .xor .u64 (h.tmod 256) c) = bits .xor .u64 h c := by
  obtain ⟨a, rfl⟩ := Int.eq_ofNat_of_zero_le h0
  obtain ⟨b, rfl⟩ := Int.eq_ofNat_of_zero_le c0
  have ha : a < 18446744073709551616 := by omega
  have hb : b < 256 := by omega
  have e1 : (a : Int).tmod 256 = ((a % 256 : Nat) : Int) := by rw [Int.tmod_eq_emod_of_nonneg h0]; omega
  have e2 := bits_andNot_u64_nat a 255 ha (by decide)
  have x1 : (a % 256) ^^^ b < 18446744073709551616 := Nat.xor_lt_two_pow (n := 64) (by omega) (by omega)
  rw [e1, show (255 : Int) = ((255 : Nat) : Int) from rfl, e2, bits_xor_u64_nat _ _ (by omega) (by omega), bits_xor_u64_nat _ _ ha (by omega), bits_or_u64_nat _ _ (Nat.lt_of_le_of_lt Nat.and_le_left ha) x1, byte_step a b ha hb]

theorem mul_step (x : Int) :
    IntKind.wrap .u64 (IntKind.wrap .u64 (IntKind.wrap .u64 (x * 2 ^ 40) + IntKind.wrap .u64 (x * 2 ^ 8)) + IntKind.wrap .u64 (179 * x)) = IntKind.wrap .u64 (x * 1099511628211) := by
  simp only [wrap_u64]
  omega

set_option linter.unusedVariables false

theorem refMore_spec (h : Int) (s : List UInt8) : ESpec Try.prog 30 [.d (.s (.int .u64 h)), .d (.s (.str s))] (fun x => x = .d (.s (.int .u64 (moreF h s)))) := by
  refine ESpec.enter Try.func30 (by kernel_rfl) rfl (Nat.le_of_ble_eq_true rfl) fun hok cx hnt hfr => ?_
  obtain ⟨hh, hs, -⟩ := hok
  have hs' : s.length < 9223372036854775808 := lt63 hs
  have hh' : 0 ≤ h ∧ h < 18446744073709551616 := by
    obtain ⟨h1, h2⟩ := hh
    have e1 : IntKind.min .u64 = 0 := by decide
    have e2 : IntKind.max .u64 = 18446744073709551615 := by decide
    rw [e1] at h1; rw [e2] at h2
    omega
  obtain ⟨F, hF⟩ := real_ex
  refine AK.run hF tabOK hnt ?_
  conv => arg 4; cbv
  refine AKp.enterLoop 7 ?_
  conv => arg 7; cbv
  refine AKl.inv hF tabOK hnt hfr (fun n vs hs => ∃ (i : Nat) (iv hv : Int), i + n = s.length ∧ iv = i ∧ hv = moreF h (s.take i) ∧ (0 ≤ hv ∧ hv < 18446744073709551616) ∧
      vs = [(5, .d (.s (.int .i64 iv))), (0, .d (.s (.int .u64 hv)))] ∧ hs = []) s.length
      ⟨0, _, _, by omega, rfl, by simp [moreF], hh', rfl, rfl⟩ (by repeat (first | exact True.intro | refine ⟨⟨rfl, rfl⟩, ?_⟩)) (by repeat (first | exact True.intro | refine ⟨⟨rfl, rfl, rfl⟩, ?_⟩)) ?_
  rintro J n vs hs hJ ⟨i, iv, hv, hi, hiv, hhv, hr, rfl, rfl⟩
  conv => arg 4; cbv
  cases hb : F .ltI iv (F .lenS s)
  · have hlt := ltI_f hF hb
    rw [f_lenS hF] at hlt
    conv => arg 4; cbv
    rw [show hv = moreF h s by rw [hhv, List.take_of_length_le (by omega)]]
    exact AKp.doneE tabOK hfr (by rfl) (by rfl)
  · have hlt := ltI_t hF hb
    rw [f_lenS hF] at hlt
    have hil : i < s.length := by omega
    obtain ⟨cv, hcv⟩ : ∃ cv : Int, cv = s[i].toNat := ⟨_, rfl⟩
    have hg : F .getS s iv = some cv := by rw [hF]; exact fr_getS (List.getElem?_eq_getElem hil) hiv hcv
    have hc := s[i].toNat_lt
    conv => arg 4; cbv
    rw [hg]
    conv => arg 4; cbv
    obtain ⟨xv, hxv⟩ : ∃ x, x = F .bits .or .u64 (F .bits .andNot .u64 hv 255) (F .bits .xor .u64 (F .tmod hv 256) (F .wrap .u64 cv)) := ⟨_, rfl⟩
    rw [← hxv]
    conv => arg 4; cbv
    obtain ⟨w1, hw1⟩ : ∃ w, w = IntKind.wrap .u64 (xv * 2 ^ 40) := ⟨_, rfl⟩
    obtain ⟨w2, hw2⟩ : ∃ w, w = IntKind.wrap .u64 (xv * 2 ^ 8) := ⟨_, rfl⟩
    rw [show F .shl .u64 xv 40 = some w1 by rw [hF, hw1]; rfl]
    conv => arg 4; cbv
    rw [show F .shl .u64 xv 8 = some w2 by rw [hF, hw2]; rfl]
    conv => arg 4; cbv
    subst hF
    have hx2 : xv = Go.bits .xor .u64 hv (IntKind.wrap .u64 s[i].toNat) := by
      have hcw : IntKind.wrap .u64 (s[i].toNat : Int) = s[i].toNat := by rw [wrap_u64]; omega
      rw [hcw, ← more_step hv s[i].toNat hr.1 hr.2 (by omega) (by omega), hxv, hcv]
      show Go.bits .or .u64 (Go.bits .andNot .u64 hv 255) (Go.bits .xor .u64 (hv.tmod 256) (IntKind.wrap .u64 s[i].toNat)) = _
      rw [hcw]
    have hnew : IntKind.wrap .u64 (IntKind.wrap .u64 (w1 + w2) + IntKind.wrap .u64 (179 * xv)) = moreF h (s.take (i + 1)) := by
      rw [List.take_succ_eq_append_getElem hil, moreF_snoc, ← hhv, ← hx2, hw1, hw2, mul_step]
    exact AKp.again _ hfr (by repeat (first | exact True.intro | refine ⟨⟨rfl, rfl⟩, ?_⟩)) (by repeat (first | exact True.intro | refine ⟨⟨rfl, rfl, rfl⟩, ?_⟩)) (hJ (n - 1) _ _ (by omega) ⟨i + 1, _, _, by omega, inc_i64 hiv hil (by omega), hnew, by rw [wrap_u64]; omega, rfl, rfl⟩)
theorem refSum_spec (s : List UInt8) : ESpec Try.prog 24 [.d (.s (.str s))] (fun x => x = .d (.s (.int .u64 (moreF 14695981039346656037 s)))) := by
  have sp := refMore_spec 14695981039346656037 s
  generalize moreF 14695981039346656037 s = m at sp ⊢
  refine ESpec.enter Try.func24 (by kernel_rfl) rfl (Nat.le_of_ble_eq_true rfl) fun hok cx hnt hfr => ?_
  obtain ⟨F, hF⟩ := real_ex
  refine AK.run hF tabOK hnt ?_
  conv => arg 4; cbv
  refine AKp.call hF tabOK hnt sp rfl rfl rfl rfl rfl rfl rfl (by repeat' first | exact .refl _ | constructor) ?_
  rintro _ rfl
  conv => arg 4; cbv
  exact AKp.doneE tabOK hfr (by rfl) (by rfl)

theorem flowF_eq (s k : List UInt8) : flowF s k = moreF 14695981039346656037 (s ++ [0] ++ k) := by
  simp [flowF, moreF, List.foldl_append]

theorem strOf_bytes (l : List UInt8) : strOf (Ar.real.bytesD l) = some l := by
  induction l with
  | nil => rfl
  | cons c l ih =>
    simp only [Ar.real, List.map_cons] at ih ⊢
    unfold strOf
    rw [ih]
    simp

theorem refFlow_spec (s k : List UInt8) (hs : s.length ≤ 1000) (hk : k.length ≤ 1000) : ESpec Try.prog 17 [.d (.s (.str s)), .d (.s (.str k))] (fun x => x = .d (.s (.int .u64 (flowF s k)))) := by
  have sp := refSum_spec (s ++ [0] ++ k)
  rw [← flowF_eq] at sp
  generalize flowF s k = m at sp ⊢
  obtain ⟨t, ht⟩ : ∃ t, t = s ++ [0] ++ k := ⟨_, rfl⟩
  rw [← ht] at sp
  refine ESpec.enter Try.func17 (by kernel_rfl) rfl (Nat.le_of_ble_eq_true rfl) fun hok cx hnt hfr => ?_
  obtain ⟨F, hF⟩ := real_ex
  refine AK.run hF tabOK hnt ?_
  conv => arg 4; cbv
  have h1 : F .appD (F .bytesD s) [.s (.int .u8 0)] = Ar.real.bytesD (s ++ [0]) := by rw [hF]; simp [Fam.real, Ar.real]
  have h2 : F .appD (F .appD (F .bytesD s) [.s (.int .u8 0)]) (F .bytesD k) = Ar.real.bytesD t := by rw [h1, hF, ht]; simp [Fam.real, Ar.real]
  rw [show F .fits 1 (F .appD (F .bytesD s) [.s (.int .u8 0)]) = true by rw [h1, hF]; exact decide_eq_true (by simp [Ar.real]; omega)]
  conv => arg 4; cbv
  rw [show F .fits 1 (F .appD (F .appD (F .bytesD s) [.s (.int .u8 0)]) (F .bytesD k)) = true by rw [h2, hF]; exact decide_eq_true (by rw [ht]; simp [Ar.real]; omega)]
  conv => arg 4; cbv
  obtain ⟨es, hes⟩ : ∃ e, e = F .appD (F .appD (F .bytesD s) [.s (.int .u8 0)]) (F .bytesD k) := ⟨_, rfl⟩
  rw [← hes]
  refine AKp.freeze 3 rfl ?_
  conv => arg 4; arg 2; cbv
  refine AK.run hF tabOK hnt ?_
  conv => arg 4; cbv
  rw [show F .strD es = some t by rw [hes, h2, hF]; exact strOf_bytes t]
  conv => arg 4; cbv
  refine AKp.call hF tabOK hnt sp rfl rfl rfl rfl rfl rfl rfl (by repeat' first | exact .refl _ | constructor) ?_
  rintro _ rfl
  conv => arg 4; cbv
  exact AKp.doneE tabOK hfr (by rfl) (by rfl)
end Go.Proofs.Ytbcpmkonajomcaa
