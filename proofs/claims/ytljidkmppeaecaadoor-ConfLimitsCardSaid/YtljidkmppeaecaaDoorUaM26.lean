/- The library of this claim and its walks, part 26, joined out of smaller texts. No statement stands in it. -/
import Derived.Test.YtljidkmppeaecaaDoorUaM23
import Derived.Test.YtljidkmppeaecaaDoorUaM25
import Derived.Laws.Bits64
import Derived.Laws.Bits64b
/- Hexadecimal digits, as the library prints them. -/
namespace Go.Proofs.YtljidkmppeaecaaDoor
open Go Go.Proofs Go.Ua Go.Extern
set_option linter.unusedVariables false
set_option linter.unusedSimpArgs false

section
variable {F : Fam} (hF : F = Fam.real)
include hF
end

end Go.Proofs.YtljidkmppeaecaaDoor

/- Sixteen digits. -/
namespace Go.Proofs.YtljidkmppeaecaaDoor
open Go Go.Proofs Go.Ua Go.Extern
set_option linter.unusedVariables false
set_option linter.unusedSimpArgs false

end Go.Proofs.YtljidkmppeaecaaDoor

/- Back from sixteen digits. -/
namespace Go.Proofs.YtljidkmppeaecaaDoor
open Go Go.Proofs Go.Ua Go.Extern
set_option linter.unusedVariables false
set_option linter.unusedSimpArgs false

end Go.Proofs.YtljidkmppeaecaaDoor

/- Digits in order: plain laws. -/
namespace Go.Proofs.YtljidkmppeaecaaDoor
open Go Go.Proofs Go.Ua Go.Extern
set_option linter.unusedVariables false
set_option linter.unusedSimpArgs false

def before (a b : List UInt8) : Prop := a.length < b.length ∨ (a.length = b.length ∧ a < b)

theorem dig_small {n : Nat} (h : n < 10) : Lib.decDigits n = [UInt8.ofNat (48 + n)] := by rw [Lib.decDigits, dif_pos h]
theorem dig_big {n : Nat} (h : ¬ n < 10) : Lib.decDigits n = Lib.decDigits (n / 10) ++ [UInt8.ofNat (48 + n % 10)] := by rw [Lib.decDigits, dif_neg h]
end Go.Proofs.YtljidkmppeaecaaDoor

/- Numbers and their digits: plain laws; the reference's numbers. -/
namespace Go.Proofs.YtljidkmppeaecaaDoor
open Go Go.Proofs Go.Ua Go.Extern
set_option linter.unusedVariables false
set_option linter.unusedSimpArgs false

end Go.Proofs.YtljidkmppeaecaaDoor

/- The reference's digits and numbers. -/
namespace Go.Proofs.YtljidkmppeaecaaDoor
open Go Go.Proofs Go.Ua Go.Extern
set_option linter.unusedVariables false
set_option linter.unusedSimpArgs false
set_option maxRecDepth 10000

theorem t_digit {F : Fam} (hF : F = Fam.real) {k : Nat} {v : Int} (hv : v = k) (hk : k < 10) :
    F .hasStr [.s (.int .u8 (F .wrap .u8 (F .wrap .i64 (F .add 48 v))))] = true ∧ F .ofStr [.s (.int .u8 (F .wrap .u8 (F .wrap .i64 (F .add 48 v))))] = [UInt8.ofNat (48 + k)] := by
  have h := l_digit hF hv hk
  rw [hF] at h ⊢
  rw [f_hasStr, f_ofStr]
  have h : strOf [.s (.int .u8 (Fam.real .wrap .u8 (Fam.real .wrap .i64 (Fam.real .add 48 v))))] = some [UInt8.ofNat (48 + k)] := h
  rw [h]
  exact ⟨rfl, rfl⟩

theorem RefDigitsI_spec (n : Int) : ESpec Tryd.prog 16 [.d (.s (.int .i64 n))] (fun x => x = .d (.s (.str (Lib.decDigits n.toNat)))) := by
  obtain ⟨D, hD⟩ : ∃ z, z = Lib.decDigits n.toNat := ⟨_, rfl⟩
  rw [← hD]
  refine ESpec.enter Tryd.func16 (by kernel_rfl) rfl (Nat.le_of_ble_eq_true rfl) fun hok cx hnt hfr => ?_
  obtain ⟨F, hF⟩ := real_ex
  refine AK.runT hF tabOK hmix hnt hfr true [] trivial ?_
  conv => arg 4; cbv
  have hok1 : n ≤ 9223372036854775807 := hok.1.2
  have hDl : D.length ≤ 21 := by rw [hD]; exact decDigits_le _ (by omega)
  have start : ∀ (kv : Int), (F .ltI n 0 = true → kv = 0) → (F .ltI n 0 = false → kv = n) → kv = (n.toNat : Int) := fun kv h1 h2 => by
    cases h : F .ltI n 0
    · rw [h2 h]; simp only [hF, f_ltI, f_leI, f_eqI, f_eqS, f_eqB, f_not, f_andB, f_orB, f_lenS, f_lenD, f_hasS, f_atS, f_hasC, f_subS, f_hasCat, f_app, f_wrap, f_add, f_sub, f_mul, f_appD, f_fits, f_hasV, f_subV, decide_eq_true_eq, decide_eq_false_iff_not, beq_iff_eq, beq_eq_false_iff_ne, Bool.and_eq_true, Bool.and_eq_false_iff, Bool.not_eq_true, Bool.not_eq_false, Bool.not_eq_eq_eq_not, Bool.not_true, Bool.not_false] at h; omega
    · rw [h1 h]; simp only [hF, f_ltI, f_leI, f_eqI, f_eqS, f_eqB, f_not, f_andB, f_orB, f_lenS, f_lenD, f_hasS, f_atS, f_hasC, f_subS, f_hasCat, f_app, f_wrap, f_add, f_sub, f_mul, f_appD, f_fits, f_hasV, f_subV, decide_eq_true_eq, decide_eq_false_iff_not, beq_iff_eq, beq_eq_false_iff_ne, Bool.and_eq_true, Bool.and_eq_false_iff, Bool.not_eq_true, Bool.not_eq_false, Bool.not_eq_eq_eq_not, Bool.not_true, Bool.not_false] at h; omega
  refine AKt.node (fun hb0 => ?_) (fun hb0 => ?_)
  case' refine_1 => have hst := start 0 (fun _ => rfl) (fun h => by rw [hb0] at h; cases h)
  case' refine_2 => have hst := start n (fun h => by rw [hb0] at h; cases h) (fun _ => rfl)
  all_goals
    clear start
    repeat' (first | with_reducible (first | refine AKt.have ?_ | refine AKt.tt ?_ | refine AKt.ff ?_ | refine AKt.yes (by assumption) ?_ | refine AKt.no (by assumption) ?_ | refine AKt.node (fun hb => ?_) (fun hb => ?_) | refine AKt.need ?_ (fun hb => ?_) | refine AKt.leaf ?_) | ((with_reducible show _ = true); assumption))
    refine AKp.enterLoop 0 ?_
    conv => arg 7; cbv
    refine AKl.invT hF tabOK hmix hnt hfr true [] trivial (fun m vs hs => ∃ (k : Nat) (kv : Int) (s : List UInt8), k = m ∧ kv = k ∧ k ≤ 9223372036854775807 ∧ D = Lib.decDigits k ++ s ∧ vs = [(0, .d (.s (.int .i64 kv))), (3, .d (.s (.str s)))] ∧ hs = []) n.toNat ⟨n.toNat, _, [], rfl, hst, by omega, by simp [hD], rfl, rfl⟩ (by repeat (first | exact True.intro | refine ⟨⟨rfl, rfl⟩, ?_⟩)) (by repeat (first | exact True.intro | refine ⟨⟨rfl, rfl, rfl⟩, ?_⟩)) ?_
    rintro J m vs hs hJ ⟨k, kv, s, rfl, hkv, hk, hd, rfl, rfl⟩
    have hsl : s.length ≤ 21 := by rw [hd] at hDl; simp at hDl; omega
    have hr : F .tmod kv 10 = ((k % 10 : Nat) : Int) := l_rem10 hF hkv
    obtain ⟨rv, hrv⟩ : ∃ z : Int, z = ((k % 10 : Nat) : Int) := ⟨_, rfl⟩
    rw [← hrv] at hr
    conv => arg 4; cbv
    rw [hr]
    refine AKt.node (fun hb1 => ?_) (fun hb1 => ?_)
    · have hlt : ¬ k < 10 := by simp only [hF, f_ltI, f_leI, f_eqI, f_eqS, f_eqB, f_not, f_andB, f_orB, f_lenS, f_lenD, f_hasS, f_atS, f_hasC, f_subS, f_hasCat, f_app, f_wrap, f_add, f_sub, f_mul, f_appD, f_fits, f_hasV, f_subV, decide_eq_true_eq, decide_eq_false_iff_not, beq_iff_eq, beq_eq_false_iff_ne, Bool.and_eq_true, Bool.and_eq_false_iff, Bool.not_eq_true, Bool.not_eq_false, Bool.not_eq_eq_eq_not, Bool.not_true, Bool.not_false] at hb1; omega
      obtain ⟨g1, g2⟩ := t_digit hF hrv (Nat.mod_lt k (by decide))
      rw [g2, l_div10 hF hkv hk]
      have hca : F .hasCat [UInt8.ofNat (48 + k % 10)] s = true := t_hasCat hF (by simp; omega)
      have hap : F .app [UInt8.ofNat (48 + k % 10)] s = UInt8.ofNat (48 + k % 10) :: s := by rw [hF]; rfl
      rw [hap]
      repeat' (first | with_reducible (first | refine AKt.have ?_ | refine AKt.tt ?_ | refine AKt.ff ?_ | refine AKt.yes (by assumption) ?_ | refine AKt.no (by assumption) ?_ | refine AKt.node (fun hb => ?_) (fun hb => ?_) | refine AKt.need ?_ (fun hb => ?_) | refine AKt.leaf ?_) | ((with_reducible show _ = true); assumption))
      refine AKp.again _ hfr (by repeat (first | exact True.intro | refine ⟨⟨rfl, rfl⟩, ?_⟩)) (by repeat (first | exact True.intro | refine ⟨⟨rfl, rfl, rfl⟩, ?_⟩)) (hJ (k / 10) _ _ (by omega) ⟨k / 10, _, _, rfl, rfl, by omega, by rw [hd, dig_big hlt]; simp, rfl, rfl⟩)
    · have hlt : k < 10 := by simp only [hF, f_ltI, f_leI, f_eqI, f_eqS, f_eqB, f_not, f_andB, f_orB, f_lenS, f_lenD, f_hasS, f_atS, f_hasC, f_subS, f_hasCat, f_app, f_wrap, f_add, f_sub, f_mul, f_appD, f_fits, f_hasV, f_subV, decide_eq_true_eq, decide_eq_false_iff_not, beq_iff_eq, beq_eq_false_iff_ne, Bool.and_eq_true, Bool.and_eq_false_iff, Bool.not_eq_true, Bool.not_eq_false, Bool.not_eq_eq_eq_not, Bool.not_true, Bool.not_false] at hb1; omega
      obtain ⟨g1, g2⟩ := t_digit hF hkv hlt
      have hca : F .hasCat [UInt8.ofNat (48 + k)] s = true := t_hasCat hF (by simp; omega)
      have hap : F .app [UInt8.ofNat (48 + k)] s = UInt8.ofNat (48 + k) :: s := by rw [hF]; rfl
      rw [g2, hap]
      repeat' (first | with_reducible (first | refine AKt.have ?_ | refine AKt.tt ?_ | refine AKt.ff ?_ | refine AKt.yes (by assumption) ?_ | refine AKt.no (by assumption) ?_ | refine AKt.node (fun hb => ?_) (fun hb => ?_) | refine AKt.need ?_ (fun hb => ?_) | refine AKt.leaf ?_) | ((with_reducible show _ = true); assumption))
      refine AKp.doneE tabOK hfr (by rfl) ?_
      show _ = _
      simp only [tupAV]
      rw [hd, dig_small hlt]
      rfl
def φRefDigits (u : Int → List UInt8) : List AV → Option (Bool × AV)
  | [.d (.s (.int .i64 n))] => some (true, .d (.s (.str (u n))))
  | _ => none
theorem φRefDigits_ok : SpOK Tryd.prog 16 (φRefDigits (fun n => Lib.decDigits n.toNat)) := by
  intro xs b x h hb
  unfold φRefDigits at h
  split at h
  · simp only [Option.some.injEq, Prod.mk.injEq] at h
    obtain ⟨rfl, rfl⟩ := h
    exact RefDigitsI_spec _
  · cases h

end Go.Proofs.YtljidkmppeaecaaDoor

