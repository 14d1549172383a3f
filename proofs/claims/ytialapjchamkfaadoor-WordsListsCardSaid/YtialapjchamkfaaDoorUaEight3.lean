/- Names and words, as the program tells them. -/
import Derived.Test.YtialapjchamkfaaDoorUaEight2
namespace Go.Proofs.YtialapjchamkfaaDoor
open Go Go.Proofs Go.Ua Go.Extern
set_option linter.unusedVariables false
set_option linter.unusedSimpArgs false

theorem ib_neg : ∀ (l : List UInt8) (c : UInt8), decide (Lib.indexByte l c < 0) = !l.contains c
  | [], c => by simp [Lib.indexByte]
  | b :: l, c => by
    have h := ib_neg l c
    have h1 := Lib.indexByte_ge l c
    unfold Lib.indexByte
    by_cases e : b = c
    · subst e
      simp
    · rw [if_neg (by simpa using e)]
      have e2 : (b :: l).contains c = l.contains c := by
        simp [List.contains_cons]
        intro h
        exact absurd h.symm e
      rw [e2, ← h]
      by_cases e3 : Lib.indexByte l c = -1
      · rw [if_pos (by simp [e3]), e3]
      · rw [if_neg (by simpa using e3)]
        have : ¬ Lib.indexByte l c < 0 := by omega
        have : ¬ Lib.indexByte l c + 1 < 0 := by omega
        simp [*]

def marks : List UInt8 := [46, 95, 58, 47, 64, 45]
def wordB (c : UInt8) : Bool := plainN c.toNat || greatN c.toNat || marks.contains c
def wordF (w : List UInt8) : Bool := !(w == []) && decide (w.length ≤ 64) && !(w == [45]) && w.all wordB

theorem all_take_succ {α : Type} {p : α → Bool} {l : List α} {i : Nat} {c : α} (h : l[i]? = some c) (ht : (l.take i).all p = true) (hc : p c = true) : (l.take (i + 1)).all p = true := by
  rw [List.take_add_one, h]
  simp [ht, hc]
theorem all_false {α : Type} {p : α → Bool} {l : List α} {i : Nat} {c : α} (h : l[i]? = some c) (hc : p c = false) : l.all p = false := by
  rw [List.all_eq_false]
  exact ⟨c, List.mem_of_getElem? h, by simp [hc]⟩

theorem Word_spec (w : List UInt8) : ESpec Tryd.prog 17 [.d (.s (.str w))] (fun x => x = .d (.s (.bool (wordF w)))) := by
  obtain ⟨z, hz⟩ : ∃ z, z = wordF w := ⟨_, rfl⟩
  rw [← hz]
  unfold wordF at hz
  refine ESpec.enter Tryd.func17 (by kernel_rfl) rfl (Nat.le_of_ble_eq_true rfl) fun hok cx hnt hfr => ?_
  have hwl : w.length ≤ maxLen := hok.1
  have hm : maxLen = 9223372036854775807 := by decide
  obtain ⟨F, hF⟩ := real_ex
  refine AK.run hF tabOK hnt ?_
  conv => arg 4; cbv
  cases h1 : F .eqS w []
  case' true =>
    conv => arg 4; cbv
    rw [show z = false by rw [hz, eqS1 hF h1]; rfl]
    exact AKp.doneE tabOK hfr (by rfl) (by rfl)
  case' false =>
  conv => arg 4; cbv
  cases h2 : F .ltI 64 (F .lenS w)
  case' true =>
    have h2' := ltI1 hF h2
    rw [l_lenS hF] at h2'
    conv => arg 4; cbv
    rw [show z = false by rw [hz, decide_eq_false (show ¬ w.length ≤ 64 by omega)]; simp]
    exact AKp.doneE tabOK hfr (by rfl) (by rfl)
  case' false =>
  have h2' := ltI0 hF h2
  rw [l_lenS hF] at h2'
  conv => arg 4; cbv
  cases h3 : F .eqS w [45]
  case' true =>
    conv => arg 4; cbv
    rw [show z = false by rw [hz, eqS1 hF h3]; rfl]
    exact AKp.doneE tabOK hfr (by rfl) (by rfl)
  case' false =>
  have hz2 : z = w.all wordB := by
    rw [hz, decide_eq_true (show w.length ≤ 64 by omega)]
    have e1 : (w == []) = false := by simpa using eqS0 hF h1
    have e2 : (w == [45]) = false := by simpa using eqS0 hF h3
    rw [e1, e2]; simp
  conv => arg 4; cbv
  refine AKp.enterLoop 18 ?_
  conv => arg 7; cbv
  refine AKl.inv hF tabOK hnt hfr (fun n vs hs => ∃ (i : Nat) (iv : Int), i + n = w.length ∧ iv = i ∧ (w.take i).all wordB = true ∧ vs = [(18, .d (.s (.int .i64 iv)))] ∧ hs = []) w.length
    ⟨0, _, by omega, rfl, by simp, rfl, rfl⟩ (by repeat (first | exact True.intro | refine ⟨⟨rfl, rfl⟩, ?_⟩)) (by repeat (first | exact True.intro | refine ⟨⟨rfl, rfl, rfl⟩, ?_⟩)) ?_
  rintro J n vs hs hJ ⟨i, iv, hi, hiv, hall, rfl, rfl⟩
  conv => arg 4; cbv
  cases hb : F .ltI iv (F .lenS w)
  case' false =>
    have hlt := ltI0 hF hb
    rw [l_lenS hF] at hlt
    conv => arg 4; cbv
    rw [show z = true by rw [hz2, ← hall, List.take_of_length_le (by omega)]]
    exact AKp.doneE tabOK hfr (by rfl) (by rfl)
  case' true =>
    have hlt := ltI1 hF hb
    rw [l_lenS hF] at hlt
    have hil : i < w.length := by omega
    obtain ⟨c, hc⟩ : ∃ c, w[i]? = some c := ⟨_, List.getElem?_eq_getElem hil⟩
    have sp := plain_spec c.toNat
    have si := IndexByte_spec [46, 95, 58, 47, 64, 45] c
    have hib : decide (Lib.indexByte [46, 95, 58, 47, 64, 45] c < 0) = !marks.contains c := ib_neg _ c
    have hg := l_getS hF hc hiv
    obtain ⟨wb, hwb⟩ : ∃ z, z = wordB c := ⟨_, rfl⟩
    unfold wordB at hwb
    obtain ⟨cv, hcv⟩ : ∃ z : Int, z = c.toNat := ⟨_, rfl⟩
    obtain ⟨ix, hix⟩ : ∃ z : Int, z = Lib.indexByte [46, 95, 58, 47, 64, 45] c := ⟨_, rfl⟩
    obtain ⟨pb, hpb⟩ : ∃ z, z = plainN c.toNat := ⟨_, rfl⟩
    rw [← hpb] at sp hwb
    rw [← hcv] at sp si hg hwb
    rw [← hix] at si hib
    have hnext : wb = true → (w.take (i + 1)).all wordB = true := fun h => all_take_succ hc hall (by rw [← h, hwb, hpb, hcv]; rfl)
    have hend : wb = false → z = false := fun h => by rw [hz2]; exact all_false hc (by rw [← h, hwb, hpb, hcv]; rfl)
    conv => arg 4; cbv
    rw [hg]
    conv => arg 4; cbv
    refine AKp.call hF tabOK hnt sp rfl rfl rfl rfl rfl rfl rfl (by repeat' first | exact .refl _ | constructor) ?_
    rintro _ rfl
    conv => arg 4; cbv
    cases pb
    case' true =>
      rw [l_not1 hF]
      conv => arg 4; cbv
      refine AKp.again _ hfr (by repeat (first | exact True.intro | refine ⟨⟨rfl, rfl⟩, ?_⟩)) (by repeat (first | exact True.intro | refine ⟨⟨rfl, rfl, rfl⟩, ?_⟩)) (hJ (n - 1) _ _ (by omega) ⟨i + 1, _, by omega, inc_i hF hiv (by omega), hnext (by rw [hwb]; rfl), rfl, rfl⟩)
    case' false =>
      rw [l_not0 hF]
      conv => arg 4; cbv
      have last : ∀ g : Bool, greatN cv = false → wb = marks.contains c := fun _ h => by rw [hwb, h]; rfl
      cases h5 : F .ltI cv 65
      case' false =>
        conv => arg 4; cbv
        cases h6 : F .ltI 90 cv
        case' false =>
          conv => arg 4; cbv
          refine AKp.again _ hfr (by repeat (first | exact True.intro | refine ⟨⟨rfl, rfl⟩, ?_⟩)) (by repeat (first | exact True.intro | refine ⟨⟨rfl, rfl, rfl⟩, ?_⟩)) (hJ (n - 1) _ _ (by omega) ⟨i + 1, _, by omega, inc_i hF hiv (by omega), hnext (by
            have g1 := ltI0 hF h5
            have g2 := ltI0 hF h6
            rw [hwb, greatN, decide_eq_true (show 65 ≤ cv by omega), decide_eq_true (show cv ≤ 90 by omega)]; rfl), rfl, rfl⟩)
        case' true =>
          have hgr : greatN cv = false := by
            have g2 := ltI1 hF h6
            rw [greatN, decide_eq_false (show ¬ cv ≤ 90 by omega), Bool.and_false]
      case' true =>
        have hgr : greatN cv = false := by
          have g2 := ltI1 hF h5
          rw [greatN, decide_eq_false (show ¬ 65 ≤ cv by omega)]; rfl
      all_goals
        conv => arg 4; cbv
        refine AKp.call hF tabOK hnt si rfl rfl rfl rfl rfl rfl rfl (by repeat' first | exact .refl _ | constructor) ?_
        rintro _ rfl
        conv => arg 4; cbv
        have hw2 := last true hgr
        cases h7 : F .ltI ix 0
        · have h7' := ltI0 hF h7
          rw [decide_eq_false h7'] at hib
          conv => arg 4; cbv
          have hx : marks.contains c = true := by
            generalize marks.contains c = x at hib ⊢
            cases x
            · exact absurd hib (by decide)
            · rfl
          refine AKp.again _ hfr (by repeat (first | exact True.intro | refine ⟨⟨rfl, rfl⟩, ?_⟩)) (by repeat (first | exact True.intro | refine ⟨⟨rfl, rfl, rfl⟩, ?_⟩)) (hJ (n - 1) _ _ (by omega) ⟨i + 1, _, by omega, inc_i hF hiv (by omega), hnext (by rw [hw2]; exact hx), rfl, rfl⟩)
        · have h7' := ltI1 hF h7
          rw [decide_eq_true h7'] at hib
          conv => arg 4; cbv
          have hx : marks.contains c = false := by
            generalize marks.contains c = x at hib ⊢
            cases x
            · rfl
            · exact absurd hib (by decide)
          rw [hend (by rw [hw2]; exact hx)]
          exact AKp.doneE tabOK hfr (by rfl) (by rfl)
end Go.Proofs.YtialapjchamkfaaDoor
