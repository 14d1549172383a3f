/- Names; numbers. -/
import Derived.Test.YtialapjchamkfaaDoorUaEight3
namespace Go.Proofs.YtialapjchamkfaaDoor
open Go Go.Proofs Go.Ua Go.Extern
set_option linter.unusedVariables false
set_option linter.unusedSimpArgs false

def nameB (c : UInt8) : Bool := plainN c.toNat || ((c.toNat : Int) == 45)
def nameF (w : List UInt8) : Bool := match w with
  | [] => false
  | c :: _ => decide (w.length ≤ 32) && smallN c.toNat && w.all nameB

theorem Name_spec (w : List UInt8) : ESpec Tryd.prog 19 [.d (.s (.str w))] (fun x => x = .d (.s (.bool (nameF w)))) := by
  obtain ⟨z, hz⟩ : ∃ z, z = nameF w := ⟨_, rfl⟩
  rw [← hz]
  refine ESpec.enter Tryd.func19 (by kernel_rfl) rfl (Nat.le_of_ble_eq_true rfl) fun hok cx hnt hfr => ?_
  have hwl : w.length ≤ maxLen := hok.1
  have hm : maxLen = 9223372036854775807 := by decide
  obtain ⟨F, hF⟩ := real_ex
  refine AK.run hF tabOK hnt ?_
  conv => arg 4; cbv
  cases h1 : F .eqS w []
  case' true =>
    conv => arg 4; cbv
    rw [show z = false by rw [hz, eqS1 hF h1]; rfl]
    exact AKp.doneE tabOK hfr (by rfl) (by rfl)
  case' false =>
  have hne := eqS0 hF h1
  obtain ⟨c0, w0, hw0⟩ : ∃ c r, w = c :: r := by
    cases w with
    | nil => exact absurd rfl hne
    | cons c r => exact ⟨c, r, rfl⟩
  have hz1 : z = (decide (w.length ≤ 32) && smallN c0.toNat && w.all nameB) := by rw [hz, hw0]; rfl
  have hg0 := l_getS hF (s := w) (i := 0) (c := c0) (iv := 0) (by rw [hw0]; rfl) rfl
  obtain ⟨c0v, hc0v⟩ : ∃ z : Int, z = c0.toNat := ⟨_, rfl⟩
  rw [← hc0v] at hz1 hg0
  unfold smallN at hz1
  conv => arg 4; cbv
  cases h2 : F .ltI 32 (F .lenS w)
  case' true =>
    have h2' := ltI1 hF h2
    rw [l_lenS hF] at h2'
    conv => arg 4; cbv
    rw [show z = false by rw [hz1, decide_eq_false (show ¬ w.length ≤ 32 by omega)]; simp]
    exact AKp.doneE tabOK hfr (by rfl) (by rfl)
  case' false =>
  have h2' := ltI0 hF h2
  rw [l_lenS hF] at h2'
  conv => arg 4; cbv
  rw [hg0]
  conv => arg 4; cbv
  cases h3 : F .ltI c0v 97
  case' true =>
    have h3' := ltI1 hF h3
    conv => arg 4; cbv
    rw [show z = false by rw [hz1, decide_eq_false (show ¬ 97 ≤ c0v by omega)]; simp]
    exact AKp.doneE tabOK hfr (by rfl) (by rfl)
  case' false =>
  have h3' := ltI0 hF h3
  conv => arg 4; cbv
  rw [hg0]
  conv => arg 4; cbv
  cases h4 : F .ltI 122 c0v
  case' true =>
    have h4' := ltI1 hF h4
    conv => arg 4; cbv
    rw [show z = false by rw [hz1, decide_eq_false (show ¬ c0v ≤ 122 by omega)]; simp]
    exact AKp.doneE tabOK hfr (by rfl) (by rfl)
  case' false =>
  have h4' := ltI0 hF h4
  have hz2 : z = w.all nameB := by
    rw [hz1, decide_eq_true (show w.length ≤ 32 by omega), decide_eq_true (show 97 ≤ c0v by omega), decide_eq_true (show c0v ≤ 122 by omega)]
    simp
  conv => arg 4; cbv
  refine AKp.enterLoop 23 ?_
  conv => arg 7; cbv
  refine AKl.inv hF tabOK hnt hfr (fun n vs hs => ∃ (i : Nat) (iv : Int), i + n = w.length ∧ iv = i ∧ (w.take i).all nameB = true ∧ vs = [(23, .d (.s (.int .i64 iv)))] ∧ hs = []) w.length
    ⟨0, _, by omega, rfl, by simp, rfl, rfl⟩ (by repeat (first | exact True.intro | refine ⟨⟨rfl, rfl⟩, ?_⟩)) (by repeat (first | exact True.intro | refine ⟨⟨rfl, rfl, rfl⟩, ?_⟩)) ?_
  rintro J n vs hs hJ ⟨i, iv, hi, hiv, hall, rfl, rfl⟩
  conv => arg 4; cbv
  cases hb : F .ltI iv (F .lenS w)
  case' false =>
    have hlt := ltI0 hF hb
    rw [l_lenS hF] at hlt
    conv => arg 4; cbv
    rw [show z = true by rw [hz2, ← hall, List.take_of_length_le (by omega)]]
    exact AKp.doneE tabOK hfr (by rfl) (by rfl)
  case' true =>
    have hlt := ltI1 hF hb
    rw [l_lenS hF] at hlt
    have hil : i < w.length := by omega
    obtain ⟨c, hc⟩ : ∃ c, w[i]? = some c := ⟨_, List.getElem?_eq_getElem hil⟩
    have sp := plain_spec c.toNat
    have hg := l_getS hF hc hiv
    obtain ⟨wb, hwb⟩ : ∃ z, z = nameB c := ⟨_, rfl⟩
    unfold nameB at hwb
    obtain ⟨cv, hcv⟩ : ∃ z : Int, z = c.toNat := ⟨_, rfl⟩
    obtain ⟨pb, hpb⟩ : ∃ z, z = plainN c.toNat := ⟨_, rfl⟩
    rw [← hpb] at sp hwb
    rw [← hcv] at sp hg hwb
    have hnext : wb = true → (w.take (i + 1)).all nameB = true := fun h => all_take_succ hc hall (by rw [← h, hwb, hpb, hcv]; rfl)
    have hend : wb = false → z = false := fun h => by rw [hz2]; exact all_false hc (by rw [← h, hwb, hpb, hcv]; rfl)
    conv => arg 4; cbv
    rw [hg]
    conv => arg 4; cbv
    refine AKp.call hF tabOK hnt sp rfl rfl rfl rfl rfl rfl rfl (by repeat' first | exact .refl _ | constructor) ?_
    rintro _ rfl
    conv => arg 4; cbv
    cases pb
    case' true =>
      rw [l_not1 hF]
      conv => arg 4; cbv
      refine AKp.again _ hfr (by repeat (first | exact True.intro | refine ⟨⟨rfl, rfl⟩, ?_⟩)) (by repeat (first | exact True.intro | refine ⟨⟨rfl, rfl, rfl⟩, ?_⟩)) (hJ (n - 1) _ _ (by omega) ⟨i + 1, _, by omega, inc_i hF hiv (by omega), hnext (by rw [hwb]; rfl), rfl, rfl⟩)
    case' false =>
      rw [l_not0 hF]
      conv => arg 4; cbv
      rw [hg]
      conv => arg 4; cbv
      cases h5 : F .eqI cv 45
      case' false =>
        have h5' := eqI0 hF h5
        rw [l_not0 hF]
        conv => arg 4; cbv
        rw [hend (by rw [hwb]; simp [h5'])]
        exact AKp.doneE tabOK hfr (by rfl) (by rfl)
      case' true =>
        have h5' := eqI1 hF h5
        rw [l_not1 hF]
        conv => arg 4; cbv
        refine AKp.again _ hfr (by repeat (first | exact True.intro | refine ⟨⟨rfl, rfl⟩, ?_⟩)) (by repeat (first | exact True.intro | refine ⟨⟨rfl, rfl, rfl⟩, ?_⟩)) (hJ (n - 1) _ _ (by omega) ⟨i + 1, _, by omega, inc_i hF hiv (by omega), hnext (by rw [hwb, h5']; rfl), rfl, rfl⟩)
end Go.Proofs.YtialapjchamkfaaDoor
