/- Digits. -/
import Derived.Test.YtfblglnfplpagaaDoorUaNine12
namespace Go.Proofs.YtfblglnfplpagaaDoor
open Go Go.Proofs Go.Ua Go.Extern
set_option linter.unusedVariables false

theorem itoa_nat (n : Nat) : Lib.itoa (n : Int) = Lib.decDigits n := by
  unfold Lib.itoa
  rw [if_neg (by omega)]
  simp
theorem decDigits_le (n : Nat) (hn : n ≤ 9223372036854775807) : (Lib.decDigits n).length ≤ 21 := by
  rw [← itoa_nat]
  exact Lib.itoa_length_le _ (by omega) (by omega)

theorem wrap_u8 {n : Int} (h0 : 0 ≤ n) (h : n < 256) : IntKind.u8.wrap n = n := by
  simp only [IntKind.wrap, IntKind.bits, IntKind.signed]
  simp
  omega
theorem f_digit {F : Fam} (hF : F = Fam.real) {k : Nat} {v : Int} (hv : v = k) (hk : k < 10) : F .strD [.s (.int .u8 (F .wrap .u8 (F .wrap .i64 (F .add 48 v))))] = some [UInt8.ofNat (48 + k)] := by
  rw [hF, hv]
  show strOf [.s (.int .u8 (IntKind.u8.wrap (IntKind.i64.wrap (48 + (k : Int)))))] = _
  rw [wrap_s64 (by omega) (by omega), wrap_u8 (by omega) (by omega)]
  have e1 : (48 + (k : Int)).toNat = 48 + k := by omega
  have e2 : (UInt8.ofNat (48 + k)).toNat = 48 + k := by simp; omega
  simp only [strOf, e1, e2]
  rw [if_pos (by omega)]
theorem f_cat {F : Fam} (hF : F = Fam.real) {a b : List UInt8} (h : a.length + b.length ≤ maxLen) : F .cat a b = some (a ++ b) := by
  rw [hF]
  show (if ((a.length + b.length : Nat) : Int) > IntKind.i64.max then none else some (a ++ b)) = _
  have hm : (maxLen : Int) = IntKind.i64.max := by decide
  rw [if_neg (by omega)]
theorem f_rem10 {F : Fam} (hF : F = Fam.real) {k : Nat} {v : Int} (hv : v = k) : F .tmod v 10 = ((k % 10 : Nat) : Int) := by
  rw [hF, hv]; rfl
theorem f_div10 {F : Fam} (hF : F = Fam.real) {k : Nat} {v : Int} (hv : v = k) (hk : k ≤ 9223372036854775807) : F .wrap .i64 (F .tdiv v 10) = ((k / 10 : Nat) : Int) := by
  rw [hF, hv]
  show IntKind.i64.wrap (Int.tdiv (k : Int) 10) = _
  rw [show Int.tdiv (k : Int) 10 = ((k / 10 : Nat) : Int) from rfl, wrap_s64 (by omega) (by omega)]

theorem Digits_spec (n : Nat) (hn : n ≤ 9223372036854775807) : ESpec Tryd.prog 20 [.d (.s (.int .i64 n))] (fun x => x = .d (.s (.str (Lib.decDigits n)))) := by
  refine ESpec.enter Tryd.func20 (by kernel_rfl) rfl (Nat.le_of_ble_eq_true rfl) fun _ cx hnt hfr => ?_
  obtain ⟨nv, hnv⟩ : ∃ z, z = (n : Int) := ⟨_, rfl⟩
  rw [← hnv]
  obtain ⟨D, hD⟩ : ∃ z, z = Lib.decDigits n := ⟨_, rfl⟩
  have hDl : D.length ≤ 21 := by rw [hD]; exact decDigits_le n hn
  rw [← hD]
  obtain ⟨F, hF⟩ := real_ex
  refine AK.run hF tabOK hnt ?_
  conv => arg 4; cbv
  have h0 : F .ltI nv 0 = false := by rw [hF, hnv]; show decide ((n : Int) < 0) = false; simp
  rw [h0]
  conv => arg 4; cbv
  refine AKp.enterLoop 0 ?_
  conv => arg 7; cbv
  refine AKl.inv hF tabOK hnt hfr (fun m vs hs => ∃ (k : Nat) (kv : Int) (s : List UInt8), k = m ∧ kv = k ∧ k ≤ 9223372036854775807 ∧ D = Lib.decDigits k ++ s ∧ vs = [(0, .d (.s (.int .i64 kv))), (3, .d (.s (.str s)))] ∧ hs = []) n
    ⟨n, nv, [], rfl, hnv, hn, by simp [hD], rfl, rfl⟩ (by repeat (first | exact True.intro | refine ⟨⟨rfl, rfl⟩, ?_⟩)) (by repeat (first | exact True.intro | refine ⟨⟨rfl, rfl, rfl⟩, ?_⟩)) ?_
  rintro J m vs hs hJ ⟨k, kv, s, rfl, hkv, hk, hd, rfl, rfl⟩
  have hsl : s.length ≤ 21 := by rw [hd] at hDl; simp at hDl; omega
  conv => arg 4; cbv
  cases hb : F .ltI 9 kv
  case' true =>
    have hlt := ltI_t hF hb
    have hdig : Lib.decDigits k = Lib.decDigits (k / 10) ++ [UInt8.ofNat (48 + k % 10)] := by rw [Lib.decDigits, dif_neg (by omega)]
    conv => arg 4; cbv
    refine AKp.freeze 0 rfl ?_
    conv => arg 4; arg 2; cbv
    refine AK.run hF tabOK hnt ?_
    conv => arg 4; cbv
    obtain ⟨c, hc⟩ : ∃ c, c = UInt8.ofNat (48 + k % 10) := ⟨_, rfl⟩
    rw [f_digit hF (f_rem10 hF hkv) (Nat.mod_lt _ (by decide)), ← hc]
    rw [← hc] at hdig
    conv => arg 4; cbv
    rw [f_cat hF (a := [c]) (b := s) (Nat.le_trans (by simp; omega) (show 22 ≤ maxLen by decide))]
    conv => arg 4; cbv
    refine AKp.again _ hfr (by repeat (first | exact True.intro | refine ⟨⟨rfl, rfl⟩, ?_⟩)) (by repeat (first | exact True.intro | refine ⟨⟨rfl, rfl, rfl⟩, ?_⟩)) (hJ (k / 10) _ _ (by omega) ⟨k / 10, _, _, rfl, f_div10 hF hkv hk, by omega, ?_, rfl, rfl⟩)
    rw [hd, hdig]; simp
  case' false =>
    have hlt := ltI_f hF hb
    have hdig : Lib.decDigits k = [UInt8.ofNat (48 + k)] := by rw [Lib.decDigits, dif_pos (by omega)]
    conv => arg 4; cbv
    refine AKp.freeze 0 rfl ?_
    conv => arg 4; arg 2; cbv
    refine AK.run hF tabOK hnt ?_
    conv => arg 4; cbv
    obtain ⟨c, hc⟩ : ∃ c, c = UInt8.ofNat (48 + k) := ⟨_, rfl⟩
    rw [f_digit hF hkv (by omega), ← hc]
    rw [← hc] at hdig
    conv => arg 4; cbv
    rw [f_cat hF (a := [c]) (b := s) (Nat.le_trans (by simp; omega) (show 22 ≤ maxLen by decide)), show [c] ++ s = D by rw [hd, hdig]]
    conv => arg 4; cbv
    exact AKp.doneE tabOK hfr (by rfl) (by rfl)
end Go.Proofs.YtfblglnfplpagaaDoor
