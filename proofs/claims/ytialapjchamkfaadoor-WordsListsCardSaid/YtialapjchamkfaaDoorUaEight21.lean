/- Are two lists the same? -/
import Derived.Test.YtialapjchamkfaaDoorUaEight20
namespace Go.Proofs.YtialapjchamkfaaDoor
open Go Go.Proofs Go.Ua Go.Extern
set_option linter.unusedVariables false
set_option linter.unusedSimpArgs false

theorem Same_spec (a b : List (List UInt8)) : ESpec Tryd.prog 12 [.d (.view 1 (strDs a)), .d (.view 1 (strDs b))] (fun x => x = .d (.s (.bool (decide (a = b))))) := by
  obtain ⟨z, hz⟩ : ∃ z, z = decide (a = b) := ⟨_, rfl⟩
  obtain ⟨ea, hea⟩ : ∃ z, z = strDs a := ⟨_, rfl⟩
  obtain ⟨eb, heb⟩ : ∃ z, z = strDs b := ⟨_, rfl⟩
  have hla : ea.length = a.length := by rw [hea]; simp [strDs]
  have hlb : eb.length = b.length := by rw [heb]; simp [strDs]
  rw [← hz, ← hea, ← heb]
  refine ESpec.enter Tryd.func12 (by kernel_rfl) rfl (Nat.le_of_ble_eq_true rfl) fun hok cx hnt hfr => ?_
  have hml : ea.length ≤ maxLen := hok.1.1
  have hm : maxLen = 9223372036854775807 := by decide
  obtain ⟨F, hF⟩ := real_ex
  refine AK.run hF tabOK hnt ?_
  conv => arg 4; cbv
  cases h1 : F .eqI (F .lenD ea) (F .lenD eb)
  case' false =>
    have h1' := eqI0 hF h1
    rw [l_lenD hF, l_lenD hF] at h1'
    rw [l_not0 hF]
    conv => arg 4; cbv
    rw [show z = false by rw [hz]; exact decide_eq_false (by rintro rfl; exact h1' (by rw [hla, hlb]))]
    exact AKp.doneE tabOK hfr (by rfl) (by rfl)
  case' true =>
  have h1' := eqI1 hF h1
  rw [l_lenD hF, l_lenD hF] at h1'
  rw [l_not1 hF]
  conv => arg 4; cbv
  refine AKp.enterLoop 5 ?_
  conv => arg 7; cbv
  refine AKl.inv hF tabOK hnt hfr (fun n vs hs => ∃ (i : Nat) (iv : Int), i + n = a.length ∧ iv = i ∧ a.take i = b.take i ∧ vs = [(5, .d (.s (.int .i64 iv)))] ∧ hs = []) a.length
    ⟨0, _, by omega, rfl, by simp, rfl, rfl⟩ (by repeat (first | exact True.intro | refine ⟨⟨rfl, rfl⟩, ?_⟩)) (by repeat (first | exact True.intro | refine ⟨⟨rfl, rfl, rfl⟩, ?_⟩)) ?_
  rintro J n vs hs hJ ⟨i, iv, hi, hiv, heq, rfl, rfl⟩
  conv => arg 4; cbv
  cases hb : F .ltI iv (F .lenD ea)
  case' false =>
    have hlt := ltI0 hF hb
    rw [l_lenD hF] at hlt
    conv => arg 4; cbv
    rw [show z = true by rw [hz]; exact decide_eq_true (by rwa [List.take_of_length_le (by omega), List.take_of_length_le (by omega)] at heq)]
    exact AKp.doneE tabOK hfr (by rfl) (by rfl)
  case' true =>
    have hlt := ltI1 hF hb
    rw [l_lenD hF] at hlt
    obtain ⟨x, hx⟩ : ∃ c, a[i]? = some c := ⟨_, List.getElem?_eq_getElem (by omega)⟩
    obtain ⟨y, hy⟩ : ∃ c, b[i]? = some c := ⟨_, List.getElem?_eq_getElem (by omega)⟩
    have hg1 : F .getD ea iv = some (.s (.str x)) := l_getD hF (i := i) (by rw [hea]; exact strDs_get hx) hiv
    have hg2 : F .getD eb iv = some (.s (.str y)) := l_getD hF (i := i) (by rw [heb]; exact strDs_get hy) hiv
    conv => arg 4; cbv
    refine AKp.drawn ?_
    refine DK.runV hF tabOK hnt hfr 0 ?_
    conv => arg 8; cbv
    rw [hg1]
    conv => arg 8; cbv
    rw [hg2]
    conv => arg 8; cbv
    refine DK.fin (by kernel_rfl) (by decide) ?_
    refine AK.run hF tabOK hnt ?_
    conv => arg 4; cbv
    cases h5 : F .eqS x y
    case' false =>
      have h5' := eqS0 hF h5
      rw [l_not0 hF]
      conv => arg 4; cbv
      rw [show z = false by rw [hz]; exact decide_eq_false (by rintro rfl; rw [hx] at hy; exact h5' (Option.some.inj hy))]
      exact AKp.doneE tabOK hfr (by rfl) (by rfl)
    case' true =>
      have h5' := eqS1 hF h5
      rw [l_not1 hF]
      conv => arg 4; cbv
      exact AKp.again _ hfr (by repeat (first | exact True.intro | refine ⟨⟨rfl, rfl⟩, ?_⟩)) (by repeat (first | exact True.intro | refine ⟨⟨rfl, rfl, rfl⟩, ?_⟩)) (hJ (n - 1) _ _ (by omega) ⟨i + 1, _, by omega, inc_i hF hiv (by omega), by rw [List.take_add_one, List.take_add_one, heq, hx, hy, h5'], rfl, rfl⟩)
end Go.Proofs.YtialapjchamkfaaDoor
