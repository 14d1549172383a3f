/- WordsCompare: the function returns true. -/
import Derived.Test.YtialapjchamkfaaDoorUaEight14
namespace Go.Proofs.YtialapjchamkfaaDoor
open Go Go.Proofs Go.Ua Go.Extern
set_option linter.unusedVariables false
set_option linter.unusedSimpArgs false

theorem bytesLess_lt : ∀ (a b : List UInt8), Op.bytesLess a b = decide (a < b)
  | [], [] => by simp [Op.bytesLess]
  | _ :: _, [] => by simp [Op.bytesLess]
  | [], _ :: _ => by simp [Op.bytesLess]
  | a :: x, b :: y => by
    have ih := bytesLess_lt x y
    unfold Op.bytesLess
    rw [ih]
    by_cases h1 : a < b
    · simp [List.cons_lt_cons_iff, h1]
    · by_cases h2 : a = b
      · subst h2; simp [List.cons_lt_cons_iff, h1]
      · have e : (a == b) = false := by simpa using h2
        rw [e]
        simp [List.cons_lt_cons_iff, h1, h2]

theorem WordsCompare_spec (n m : Int) : ESpec Tryd.prog 6 [.d (.s (.int .i64 n)), .d (.s (.int .i64 m))] (fun x => x = .d (.s (.bool true))) := by
  refine ESpec.enter Tryd.func6 (by kernel_rfl) rfl (Nat.le_of_ble_eq_true rfl) fun _ cx hnt hfr => ?_
  obtain ⟨F, hF⟩ := real_ex
  refine AK.run hF tabOK hnt ?_
  conv => arg 4; cbv
  refine AKp.call hF tabOK hnt awake_spec rfl rfl rfl rfl rfl rfl rfl (by repeat' first | exact .refl _ | constructor) ?_
  rintro _ rfl
  conv => arg 4; cbv
  rw [l_not1 hF]
  conv => arg 4; cbv
  cases h1 : F .ltI n 0
  case' true =>
    conv => arg 4; cbv
    exact AKp.doneE tabOK hfr (by rfl) (by rfl)
  case' false =>
  conv => arg 4; cbv
  cases h2 : F .ltI m 0
  case' true =>
    conv => arg 4; cbv
    exact AKp.doneE tabOK hfr (by rfl) (by rfl)
  case' false =>
  have hn := ltI0 hF h1
  have hm := ltI0 hF h2
  obtain ⟨N, hN⟩ : ∃ N : Nat, n = N := ⟨n.toNat, by omega⟩
  obtain ⟨M, hM⟩ : ∃ M : Nat, m = M := ⟨m.toNat, by omega⟩
  have s1 := Digits_spec N
  have s2 := Digits_spec M
  have hlt : ∀ z : Bool, (z = true ↔ before (Lib.decDigits N) (Lib.decDigits M)) → F .ltI n m = z := by
    intro z hz
    rw [l_ltI hF, hN, hM]
    have := before_iff N M
    cases z
    · refine decide_eq_false fun h => ?_
      have h3 : N < M := by omega
      exact absurd (hz.2 (this.1 h3)) (by decide)
    · refine decide_eq_true ?_
      have h3 := this.2 (hz.1 rfl)
      omega
  have heq : F .eqI n m = F .eqS (Lib.decDigits N) (Lib.decDigits M) := by
    rw [l_eqI hF, l_eqS hF, hN, hM]
    by_cases e : N = M
    · subst e; simp
    · have e1 : ((N : Int) == (M : Int)) = false := by simp; omega
      have e2 : (Lib.decDigits N == Lib.decDigits M) = false := by simp; exact fun h => e (dig_inj h)
      rw [e1, e2]
  rw [← hN] at s1
  rw [← hM] at s2
  obtain ⟨a, ha⟩ : ∃ a, a = Lib.decDigits N := ⟨_, rfl⟩
  obtain ⟨b, hb⟩ : ∃ b, b = Lib.decDigits M := ⟨_, rfl⟩
  rw [← ha] at s1 hlt heq
  rw [← hb] at s2 hlt heq
  unfold before at hlt
  have hself : ∀ z : Bool, F .eqB z z = true := fun z => by rw [l_eqB hF]; simp
  conv => arg 4; cbv
  refine AKp.call hF tabOK hnt s1 rfl rfl rfl rfl rfl rfl rfl (by repeat' first | exact .refl _ | constructor) ?_
  rintro _ rfl
  conv => arg 4; cbv
  refine AKp.call hF tabOK hnt s2 rfl rfl rfl rfl rfl rfl rfl (by repeat' first | exact .refl _ | constructor) ?_
  rintro _ rfl
  conv => arg 4; cbv
  cases h3 : F .ltI (F .lenS a) (F .lenS b)
  case' true =>
    have h3' := ltI1 hF h3
    rw [l_lenS hF, l_lenS hF] at h3'
    have hl := hlt true ⟨fun _ => .inl (by omega), fun _ => rfl⟩
    conv => arg 4; cbv
    rw [hl, hself]
  case' false =>
    have h3' := ltI0 hF h3
    rw [l_lenS hF, l_lenS hF] at h3'
    conv => arg 4; cbv
    cases h4 : F .eqI (F .lenS a) (F .lenS b)
    case' true =>
      have h4' := eqI1 hF h4
      rw [l_lenS hF, l_lenS hF] at h4'
      have hl := hlt (F .ltS a b) (by
        rw [show F .ltS a b = decide (a < b) by rw [hF, ← bytesLess_lt]; rfl, decide_eq_true_iff]
        constructor
        · exact fun h => .inr ⟨by omega, h⟩
        · rintro (h | ⟨_, h⟩)
          · omega
          · exact h)
      conv => arg 4; cbv
      rw [hl, hself]
    case' false =>
      have h4' := eqI0 hF h4
      rw [l_lenS hF, l_lenS hF] at h4'
      have hl := hlt false (by
        constructor
        · intro h; cases h
        · rintro (h | ⟨h, _⟩)
          · omega
          · omega)
      conv => arg 4; cbv
      rw [hl, hself]
  all_goals
    conv => arg 4; cbv
    rw [heq, hself]
    conv => arg 4; cbv
    exact AKp.doneE tabOK hfr (by rfl) (by rfl)
end Go.Proofs.YtialapjchamkfaaDoor
