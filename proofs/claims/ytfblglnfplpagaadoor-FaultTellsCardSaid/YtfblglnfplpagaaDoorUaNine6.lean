/- FaultNil, FaultEmpty: the functions return true. -/
import Derived.Test.YtfblglnfplpagaaDoorUaNine5
namespace Go.Proofs.YtfblglnfplpagaaDoor
open Go Go.Proofs Go.Ua Go.Extern
set_option linter.unusedVariables false

theorem inc_i64 {iv : Int} {i n : Nat} (hiv : iv = i) (h : i < n) (hn : n < 9223372036854775808) : IntKind.i64.wrap (iv + 1) = ((i + 1 : Nat) : Int) := by
  rw [wrap_i64 (by omega) (by omega)]
  omega

theorem IsNil_spec (n : Int) : ESpec Tryd.prog 19 [.d (.s .if0), .d (.s (.int .i64 n))] (fun x => x = .d (.s (.bool false))) := by
  refine ESpec.enter Tryd.func19 (by kernel_rfl) rfl (Nat.le_of_ble_eq_true rfl) fun _ cx hnt hfr => ?_
  obtain ⟨F, hF⟩ := real_ex
  refine AK.run hF tabOK hnt ?_
  conv => arg 4; cbv
  rw [f_not1 hF]
  conv => arg 4; cbv
  exact AKp.doneE tabOK hfr (by rfl) (by rfl)

theorem FaultNil_spec (line : Int) (what : List UInt8) (e : Int) : ESpec Tryd.prog 5 [.d (.s (.int .i64 line)), .d (.s (.str what)), .d (.s (.int .i64 e))] (fun x => x = .d (.s (.bool true))) := by
  have s1 := At_spec line .nil
  have s2 := Of_spec what .nil
  have s3 := Code_spec .nil
  have s4 := Line_spec .nil
  have s5 := What_spec .nil
  have s6 := IsNil_spec e
  simp only [atF, ofF, codeF, lineF, whatF] at s1 s2 s3 s4 s5
  refine ESpec.enter Tryd.func5 (by kernel_rfl) rfl (Nat.le_of_ble_eq_true rfl) fun _ cx hnt hfr => ?_
  obtain ⟨F, hF⟩ := real_ex
  refine AK.run hF tabOK hnt ?_
  conv => arg 4; cbv
  refine AKp.call hF tabOK hnt awake_spec rfl rfl rfl rfl rfl rfl rfl (by repeat' first | exact .refl _ | constructor) ?_
  rintro _ rfl
  conv => arg 4; cbv
  rw [f_not1 hF]
  conv => arg 4; cbv
  refine AKp.call hF tabOK hnt s1 rfl rfl rfl rfl rfl rfl rfl (by repeat' first | exact .refl _ | constructor) ?_
  rintro _ rfl
  conv => arg 4; cbv
  refine AKp.call hF tabOK hnt s2 rfl rfl rfl rfl rfl rfl rfl (by repeat' first | exact .refl _ | constructor) ?_
  rintro _ rfl
  conv => arg 4; cbv
  refine AKp.call hF tabOK hnt s3 rfl rfl rfl rfl rfl rfl rfl (by repeat' first | exact .refl _ | constructor) ?_
  rintro _ rfl
  conv => arg 4; cbv
  rw [eqI_r hF]
  conv => arg 4; cbv
  refine AKp.call hF tabOK hnt s4 rfl rfl rfl rfl rfl rfl rfl (by repeat' first | exact .refl _ | constructor) ?_
  rintro _ rfl
  conv => arg 4; cbv
  rw [eqI_r hF]
  conv => arg 4; cbv
  refine AKp.call hF tabOK hnt s5 rfl rfl rfl rfl rfl rfl rfl (by repeat' first | exact .refl _ | constructor) ?_
  rintro _ rfl
  conv => arg 4; cbv
  rw [eqS_r hF]
  conv => arg 4; cbv
  refine AKp.call hF tabOK hnt s6 rfl rfl rfl rfl rfl rfl rfl (by repeat' first | exact .refl _ | constructor) ?_
  rintro _ rfl
  conv => arg 4; cbv
  rw [f_not0 hF]
  exact AKp.doneE tabOK hfr (by rfl) (by rfl)

theorem FaultEmpty_spec (line : Int) (what : List UInt8) (es : List Dat) : ESpec Tryd.prog 3 [.d (.s (.int .i64 line)), .d (.s (.str what)), .d (.view 3 es)] (fun x => x = .d (.s (.bool true))) := by
  have s3 := Code_spec (.flt line what .nil)
  have s4 := Line_spec (.flt line what .nil)
  have s5 := What_spec (.flt line what .nil)
  have s6 := Unwrap_spec line what (.s .if0)
  rw [show codeF (.flt line what .nil) = 1 from rfl] at s3
  rw [show lineF (.flt line what .nil) = line by simp only [lineF]; split <;> simp_all] at s4
  rw [show whatF (.flt line what .nil) = what by simp only [whatF]; split <;> simp_all] at s5
  simp only [ErrF.dat] at s3 s4 s5
  refine ESpec.enter Tryd.func3 (by kernel_rfl) rfl (Nat.le_of_ble_eq_true rfl) fun _ cx hnt hfr => ?_
  obtain ⟨F, hF⟩ := real_ex
  refine AK.run hF tabOK hnt ?_
  conv => arg 4; cbv
  refine AKp.call hF tabOK hnt awake_spec rfl rfl rfl rfl rfl rfl rfl (by repeat' first | exact .refl _ | constructor) ?_
  rintro _ rfl
  conv => arg 4; cbv
  rw [f_not1 hF]
  conv => arg 4; cbv
  refine AKp.call hF tabOK hnt s3 rfl rfl rfl rfl rfl rfl rfl (by repeat' first | exact .refl _ | constructor) ?_
  rintro _ rfl
  conv => arg 4; cbv
  rw [eqI_r hF, f_not1 hF]
  conv => arg 4; cbv
  refine AKp.call hF tabOK hnt s4 rfl rfl rfl rfl rfl rfl rfl (by repeat' first | exact .refl _ | constructor) ?_
  rintro _ rfl
  conv => arg 4; cbv
  rw [eqI_r hF, f_not1 hF]
  conv => arg 4; cbv
  refine AKp.call hF tabOK hnt s5 rfl rfl rfl rfl rfl rfl rfl (by repeat' first | exact .refl _ | constructor) ?_
  rintro _ rfl
  conv => arg 4; cbv
  rw [eqS_r hF, f_not1 hF]
  conv => arg 4; cbv
  refine AKp.call hF tabOK hnt s6 rfl rfl rfl rfl rfl rfl rfl (by repeat' first | exact .refl _ | constructor) ?_
  rintro _ rfl
  conv => arg 4; cbv
  rw [f_not1 hF]
  conv => arg 4; cbv
  refine AKp.enterLoop 10 ?_
  conv => arg 7; cbv
  refine AKl.inv hF tabOK hnt hfr (fun n vs hs => ∃ (i : Nat) (iv : Int) (e : ErrF) (ed : Dat), i + n = 60 ∧ iv = i ∧ e ≠ .nil ∧ ed = e.dat ∧ codeF e = 1 ∧ lineF e = line ∧ whatF e = what ∧ vs = [(9, .d (.s (.int .i64 iv))), (7, .d ed)] ∧ hs = []) 60
    ⟨0, _, .flt line what .nil, _, by omega, rfl, by simp, rfl, rfl, by simp only [lineF]; split <;> simp_all, by simp only [whatF]; split <;> simp_all, rfl, rfl⟩ (by repeat (first | exact True.intro | refine ⟨⟨rfl, rfl⟩, ?_⟩)) (by repeat (first | exact True.intro | refine ⟨⟨rfl, rfl, rfl⟩, ?_⟩)) ?_
  rintro J n vs hs hJ ⟨i, iv, e, ed, hi, hiv, hen, hed, h1, h2, h3, rfl, rfl⟩
  conv => arg 4; cbv
  have t3 := Code_spec e
  have t4 := Line_spec e
  have t5 := What_spec e
  rw [h1, ← hed] at t3
  rw [h2, ← hed] at t4
  rw [h3, ← hed] at t5
  have fin : ∀ {b : Bool}, b = b := rfl
  cases hb : F .ltI iv (F .lenD es)
  case' true =>
    conv => arg 4; cbv
    cases hb2 : F .ltI iv 60
    case' true =>
      have hlt2 := ltI_t hF hb2
      have u1 := Of_spec [] e
      have u2 := At_spec 0 (.flt 0 [] e)
      rw [show ofF [] e = .flt 0 [] e by cases e <;> first | rfl | exact absurd rfl hen] at u1
      rw [show atF 0 (.flt 0 [] e) = .flt 0 [] (.flt 0 [] e) from rfl] at u2
      obtain ⟨ed2, hed2⟩ : ∃ d, d = (ErrF.flt 0 [] e).dat := ⟨_, rfl⟩
      obtain ⟨ed3, hed3⟩ : ∃ d, d = (ErrF.flt 0 [] (.flt 0 [] e)).dat := ⟨_, rfl⟩
      rw [← hed, ← hed2] at u1
      rw [← hed2, ← hed3] at u2
      conv => arg 4; cbv
      refine AKp.call hF tabOK hnt u1 rfl rfl rfl rfl rfl rfl rfl (by repeat' first | exact .refl _ | constructor) ?_
      rintro _ rfl
      conv => arg 4; cbv
      refine AKp.call hF tabOK hnt u2 rfl rfl rfl rfl rfl rfl rfl (by repeat' first | exact .refl _ | constructor) ?_
      rintro _ rfl
      conv => arg 4; cbv
      subst hF
      exact AKp.again _ hfr (by repeat (first | exact True.intro | refine ⟨⟨rfl, rfl⟩, ?_⟩)) (by repeat (first | exact True.intro | refine ⟨⟨rfl, rfl, rfl⟩, ?_⟩)) (hJ (n - 1) _ _ (by omega) ⟨i + 1, _, .flt 0 [] (.flt 0 [] e), ed3, by omega, inc_i64 (n := 60) hiv (by omega) (by decide), by simp, hed3, by cases e <;> first | exact absurd rfl hen | (simp only [codeF, ErrF.num?] at h1 ⊢; exact h1), by simpa [lineF] using h2, by simpa [whatF] using h3, rfl, rfl⟩)
  all_goals
    conv => arg 4; cbv
    refine AKp.call hF tabOK hnt t3 rfl rfl rfl rfl rfl rfl rfl (by repeat' first | exact .refl _ | constructor) ?_
    rintro _ rfl
    conv => arg 4; cbv
    rw [eqI_r hF]
    conv => arg 4; cbv
    refine AKp.call hF tabOK hnt t4 rfl rfl rfl rfl rfl rfl rfl (by repeat' first | exact .refl _ | constructor) ?_
    rintro _ rfl
    conv => arg 4; cbv
    rw [eqI_r hF]
    conv => arg 4; cbv
    refine AKp.call hF tabOK hnt t5 rfl rfl rfl rfl rfl rfl rfl (by repeat' first | exact .refl _ | constructor) ?_
    rintro _ rfl
    conv => arg 4; cbv
    rw [eqS_r hF]
    exact AKp.doneE tabOK hfr (by rfl) (by rfl)
end Go.Proofs.YtfblglnfplpagaaDoor
