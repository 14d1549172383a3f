/- What bytes are; names, words. -/
import Derived.Test.YtialapjchamkfaaDoorUaEight1
import Derived.Test.YtialapjchamkfaaDoorUaEightShelf
namespace Go.Proofs.YtialapjchamkfaaDoor
open Go Go.Proofs Go.Ua Go.Extern
set_option linter.unusedVariables false
set_option linter.unusedSimpArgs false

def smallN (n : Int) : Bool := decide (97 ≤ n) && decide (n ≤ 122)
def greatN (n : Int) : Bool := decide (65 ≤ n) && decide (n ≤ 90)
def digitN (n : Int) : Bool := decide (48 ≤ n) && decide (n ≤ 57)
def plainN (n : Int) : Bool := smallN n || digitN n

theorem small_spec (n : Int) : ESpec Tryd.prog 43 [.d (.s (.int .u8 n))] (fun x => x = .d (.s (.bool (smallN n)))) := by
  obtain ⟨z, hz⟩ : ∃ z, z = smallN n := ⟨_, rfl⟩
  rw [← hz]
  refine ESpec.enter Tryd.func43 (by kernel_rfl) rfl (Nat.le_of_ble_eq_true rfl) fun _ cx hnt hfr => ?_
  obtain ⟨F, hF⟩ := real_ex
  refine AK.run hF tabOK hnt ?_
  conv => arg 4; cbv
  cases h1 : F .leI 97 n
  · conv => arg 4; cbv
    rw [show z = false by rw [hz, smallN, decide_eq_false (leI0 hF h1)]; rfl]
    exact AKp.doneE tabOK hfr (by rfl) (by rfl)
  · conv => arg 4; cbv
    rw [show F .leI n 122 = z by rw [hz, smallN, decide_eq_true (leI1 hF h1), l_leI hF]; rfl]
    exact AKp.doneE tabOK hfr (by rfl) (by rfl)

theorem great_spec (n : Int) : ESpec Tryd.prog 45 [.d (.s (.int .u8 n))] (fun x => x = .d (.s (.bool (greatN n)))) := by
  obtain ⟨z, hz⟩ : ∃ z, z = greatN n := ⟨_, rfl⟩
  rw [← hz]
  refine ESpec.enter Tryd.func45 (by kernel_rfl) rfl (Nat.le_of_ble_eq_true rfl) fun _ cx hnt hfr => ?_
  obtain ⟨F, hF⟩ := real_ex
  refine AK.run hF tabOK hnt ?_
  conv => arg 4; cbv
  cases h1 : F .leI 65 n
  · conv => arg 4; cbv
    rw [show z = false by rw [hz, greatN, decide_eq_false (leI0 hF h1)]; rfl]
    exact AKp.doneE tabOK hfr (by rfl) (by rfl)
  · conv => arg 4; cbv
    rw [show F .leI n 90 = z by rw [hz, greatN, decide_eq_true (leI1 hF h1), l_leI hF]; rfl]
    exact AKp.doneE tabOK hfr (by rfl) (by rfl)

theorem digit_spec (n : Int) : ESpec Tryd.prog 44 [.d (.s (.int .u8 n))] (fun x => x = .d (.s (.bool (digitN n)))) := by
  obtain ⟨z, hz⟩ : ∃ z, z = digitN n := ⟨_, rfl⟩
  rw [← hz]
  refine ESpec.enter Tryd.func44 (by kernel_rfl) rfl (Nat.le_of_ble_eq_true rfl) fun _ cx hnt hfr => ?_
  obtain ⟨F, hF⟩ := real_ex
  refine AK.run hF tabOK hnt ?_
  conv => arg 4; cbv
  cases h1 : F .leI 48 n
  · conv => arg 4; cbv
    rw [show z = false by rw [hz, digitN, decide_eq_false (leI0 hF h1)]; rfl]
    exact AKp.doneE tabOK hfr (by rfl) (by rfl)
  · conv => arg 4; cbv
    rw [show F .leI n 57 = z by rw [hz, digitN, decide_eq_true (leI1 hF h1), l_leI hF]; rfl]
    exact AKp.doneE tabOK hfr (by rfl) (by rfl)

theorem plain_spec (n : Int) : ESpec Tryd.prog 37 [.d (.s (.int .u8 n))] (fun x => x = .d (.s (.bool (plainN n)))) := by
  obtain ⟨z, hz⟩ : ∃ z, z = plainN n := ⟨_, rfl⟩
  rw [← hz]
  unfold plainN smallN digitN at hz
  refine ESpec.enter Tryd.func37 (by kernel_rfl) rfl (Nat.le_of_ble_eq_true rfl) fun _ cx hnt hfr => ?_
  obtain ⟨F, hF⟩ := real_ex
  refine AK.run hF tabOK hnt ?_
  conv => arg 4; cbv
  have second : ∀ (w : Bool), (F .leI 48 n = true → w = F .leI n 57) → (F .leI 48 n = false → w = false) → (decide (48 ≤ n) && decide (n ≤ 57)) = w := by
    intro w h1 h2
    rw [l_leI hF, l_leI hF] at *
    cases h : decide (48 ≤ n)
    · rw [h2 h]; rfl
    · rw [h1 h]; rfl
  cases h1 : F .leI 97 n
  case' true =>
    conv => arg 4; cbv
    cases h2 : F .leI n 122
    case' true =>
      conv => arg 4; cbv
      rw [show z = true by rw [hz, decide_eq_true (leI1 hF h1), decide_eq_true (leI1 hF h2)]; rfl]
      exact AKp.doneE tabOK hfr (by rfl) (by rfl)
  all_goals
    conv => arg 4; cbv
    cases h3 : F .leI 48 n
    · conv => arg 4; cbv
      first
        | rw [show z = false by rw [hz, decide_eq_false (leI0 hF h1), decide_eq_false (leI0 hF h3)]; rfl]
        | rw [show z = false by rw [hz, decide_eq_false (leI0 hF h2), decide_eq_false (leI0 hF h3), Bool.and_false]; rfl]
      exact AKp.doneE tabOK hfr (by rfl) (by rfl)
    · conv => arg 4; cbv
      first
        | rw [show F .leI n 57 = z by rw [hz, decide_eq_false (leI0 hF h1), decide_eq_true (leI1 hF h3), l_leI hF]; rfl]
        | rw [show F .leI n 57 = z by rw [hz, decide_eq_false (leI0 hF h2), decide_eq_true (leI1 hF h3), l_leI hF, Bool.and_false]; rfl]
      exact AKp.doneE tabOK hfr (by rfl) (by rfl)

theorem ib_le : ∀ (l : List UInt8) (c : UInt8), Lib.indexByte l c ≤ l.length
  | [], c => by simp [Lib.indexByte]
  | b :: l, c => by
    have := ib_le l c
    unfold Lib.indexByte
    split
    · simp; omega
    · split
      · simp; omega
      · simp; omega

theorem IndexByte_spec (s : List UInt8) (c : UInt8) : ESpec Tryd.prog 38 [.d (.s (.str s)), .d (.s (.int .u8 c.toNat))] (fun x => x = .d (.s (.int .i64 (Lib.indexByte s c)))) := by
  have base : s.length ≤ maxLen → ESpec Tryd.prog 38 [.d (.s (.str s)), .d (.s (.int .u8 c.toNat))] (fun x => x = .d (.s (.int .i64 (Lib.indexByte s c)))) := by
    intro hs
    have hok : (Sc.int .i64 (Lib.indexByte s c)).ok := by
      have h1 := Lib.indexByte_ge s c
      have h2 := ib_le s c
      have hm : maxLen = 9223372036854775807 := by decide
      exact ⟨by show (-9223372036854775808 : Int) ≤ _; omega, by show _ ≤ (9223372036854775807 : Int); omega⟩
    refine ESpec.grown (enters_of Tryd.func38 (by kernel_rfl) rfl) hok fun R ι vs w hR hG hl hr => ?_
    obtain ⟨v0, v1, rfl⟩ : ∃ v0 v1, vs = [v0, v1] := by
      match vs, hl with
      | [v0, v1], _ => exact ⟨v0, v1, rfl⟩
    obtain rfl := rep_s (hr 0 _ _ rfl rfl)
    obtain rfl := rep_s (hr 1 _ _ rfl rfl)
    refine (Tryd.strings_IndexByte ⟨s.toArray⟩ c.toNat w).mono ?_
    rintro e w' ⟨rfl, rfl⟩
    refine ⟨?_, RowKit.Below.refl _ _⟩
    simp [Sc.val]
  refine ⟨enters_of Tryd.func38 (by kernel_rfl) rfl, fun X L w ι vs h1 hg h2 h3 => (base ?_).2 X L w ι vs h1 hg h2 h3⟩
  match vs, h2 with
  | [v0, v1], _ => exact rep_ok (h3 0 _ _ rfl rfl)
end Go.Proofs.YtialapjchamkfaaDoor
