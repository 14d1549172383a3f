/- The fixed answers; digits. -/
import Derived.Test.YtialapjchamkfaaDoorUaEight12
namespace Go.Proofs.YtialapjchamkfaaDoor
open Go Go.Proofs Go.Ua Go.Extern
set_option linter.unusedVariables false
set_option linter.unusedSimpArgs false

theorem fields_ab : fieldsF [97, 32, 98] = [[97], [98]] := by decide +kernel

theorem awake_spec : ESpec Tryd.prog 11 [] (fun x => x = .d (.s (.bool true))) := by
  have s1 := Number_spec [52, 50] 0 99
  rw [show optAV (numberF [52, 50] 0 99) = .tup [.d (.s (.int .i64 42)), .d (.s (.bool true))] by rw [show numberF [52, 50] 0 99 = some 42 by decide +kernel]; rfl] at s1
  have s2 := List_spec [97, 44, 98]
  rw [show listAV (listF [97, 44, 98]) = .tup [.d (.view 1 [.s (.str [97]), .s (.str [98])]), .d (.s (.bool true))] by rw [show listF [97, 44, 98] = some [[97], [98]] by decide +kernel]; rfl] at s2
  have s3 := Name_spec [97, 49]
  rw [show nameF [97, 49] = true by decide +kernel] at s3
  have s4 := Word_spec [65, 47, 98]
  rw [show wordF [65, 47, 98] = true by decide +kernel] at s4
  have s6 := WordsV_spec [97, 32, 98] (by decide) (by rw [fields_ab]; decide)
  rw [fields_ab, show strDs [[97], [98]] = [.s (.str [97]), .s (.str [98])] from rfl] at s6
  have s7 := Lines_spec [97] (by decide)
  rw [show linesF [97] = [[97]] by decide +kernel, show strDs [[97]] = [.s (.str [97])] from rfl] at s7
  refine ESpec.enter Tryd.func11 (by kernel_rfl) rfl (Nat.le_of_ble_eq_true rfl) fun _ cx hnt hfr => ?_
  obtain ⟨F, hF⟩ := real_ex
  refine AK.run hF tabOK hnt ?_
  conv => arg 4; cbv
  refine AKp.call hF tabOK hnt s1 rfl rfl rfl rfl rfl rfl rfl (by repeat' first | exact .refl _ | constructor) ?_
  rintro _ rfl
  conv => arg 4; cbv
  refine AKp.call hF tabOK hnt s2 rfl rfl rfl rfl rfl rfl rfl (by repeat' first | exact .refl _ | constructor) ?_
  rintro _ rfl
  conv => arg 4; cbv
  rw [show F .eqI 42 42 = true by rw [hF]; decide +kernel]
  conv => arg 4; cbv
  rw [show F .eqI (F .lenD [.s (.str [97]), .s (.str [98])]) 2 = true by rw [hF]; rfl]
  conv => arg 4; cbv
  refine AKp.call hF tabOK hnt s3 rfl rfl rfl rfl rfl rfl rfl (by repeat' first | exact .refl _ | constructor) ?_
  rintro _ rfl
  conv => arg 4; cbv
  refine AKp.call hF tabOK hnt s4 rfl rfl rfl rfl rfl rfl rfl (by repeat' first | exact .refl _ | constructor) ?_
  rintro _ rfl
  conv => arg 4; cbv
  refine AKp.call hF tabOK hnt Hex255 rfl rfl rfl rfl rfl rfl rfl (by repeat' first | exact .refl _ | constructor) ?_
  rintro _ rfl
  conv => arg 4; cbv
  rw [show F .eqS [48, 48, 48, 48, 48, 48, 48, 48, 48, 48, 48, 48, 48, 48, 102, 102] [48, 48, 48, 48, 48, 48, 48, 48, 48, 48, 48, 48, 48, 48, 102, 102] = true by rw [l_eqS hF]; decide +kernel]
  conv => arg 4; cbv
  refine AKp.call hF tabOK hnt s6 rfl rfl rfl rfl rfl rfl rfl (by repeat' first | exact .refl _ | constructor) ?_
  rintro _ rfl
  conv => arg 4; cbv
  rw [show F .eqI (F .lenD [.s (.str [97]), .s (.str [98])]) 2 = true by rw [hF]; rfl]
  conv => arg 4; cbv
  refine AKp.call hF tabOK hnt s7 rfl rfl rfl rfl rfl rfl rfl (by repeat' first | exact .refl _ | constructor) ?_
  rintro _ rfl
  conv => arg 4; cbv
  rw [show F .eqI (F .lenD [.s (.str [97])]) 1 = true by rw [hF]; rfl]
  conv => arg 4; cbv
  exact AKp.doneE tabOK hfr (by rfl) (by rfl)

theorem Itoa_spec (n : Int) : ESpec Tryd.prog 40 [.d (.s (.int .i64 n))] (fun x => x = .d (.s (.str (Lib.itoa n)))) := by
  have base : (Sc.int .i64 n).ok → ESpec Tryd.prog 40 [.d (.s (.int .i64 n))] (fun x => x = .d (.s (.str (Lib.itoa n)))) := by
    intro hok
    have h0 : -9223372036854775808 ≤ n := hok.1
    have h1 : n ≤ 9223372036854775807 := hok.2
    refine ESpec.grown (enters_of Tryd.func40 (by kernel_rfl) rfl) (Nat.le_trans (Lib.itoa_length_le n h0 h1) (by decide)) fun R ι vs w hR hG hl hr => ?_
    obtain ⟨v, rfl, hv⟩ : ∃ v, vs = [v] ∧ RepV R ι (.d (.s (.int .i64 n))) v := by
      match vs, hl with
      | [v], _ => exact ⟨v, rfl, hr 0 _ _ rfl rfl⟩
    obtain rfl := rep_s hv
    have htab : Lib.TabIs Tryd.prog w "internal/strconv.uint64pow10" .u64 Lib.pow10Tab := by
      obtain ⟨cs, t, fz, rfl, hb⟩ := hG 1 _ (Or.inl ⟨rfl, rfl⟩)
      exact var_of_block (by kernel_rfl) ⟨t, fz, hb⟩
    refine (Tryd.strconv_Itoa n h0 h1 w htab).mono ?_
    rintro e w' ⟨rfl, k, os, rfl⟩
    exact ⟨rfl, Lib.below_grow _ _ (Nat.le_refl _) _ _⟩
  refine ⟨enters_of Tryd.func40 (by kernel_rfl) rfl, fun X L w ι vs h1 hg h2 h3 => (base ?_).2 X L w ι vs h1 hg h2 h3⟩
  match vs, h2 with
  | [v], _ => exact rep_ok (h3 0 _ _ rfl rfl)

theorem max_nat (n : Nat) : Fam.real .max (n : Int) 0 = n := by
  show (if (n : Int) < 0 then (0 : Int) else n) = n
  omega

theorem Digits_spec (n : Nat) : ESpec Tryd.prog 20 [.d (.s (.int .i64 n))] (fun x => x = .d (.s (.str (Lib.decDigits n)))) := by
  have si := Itoa_spec n
  rw [itoa_nat] at si
  obtain ⟨D, hD⟩ : ∃ z, z = Lib.decDigits n := ⟨_, rfl⟩
  obtain ⟨nv, hnv⟩ : ∃ z, z = (n : Int) := ⟨_, rfl⟩
  rw [← hD] at si ⊢
  rw [← hnv] at si ⊢
  refine ESpec.enter Tryd.func20 (by kernel_rfl) rfl (Nat.le_of_ble_eq_true rfl) fun _ cx hnt hfr => ?_
  obtain ⟨F, hF⟩ := real_ex
  refine AK.run hF tabOK hnt ?_
  conv => arg 4; cbv
  rw [show F .max nv 0 = nv by rw [hF, hnv]; exact max_nat n]
  refine AKp.call hF tabOK hnt si rfl rfl rfl rfl rfl rfl rfl (by repeat' first | exact .refl _ | constructor) ?_
  rintro _ rfl
  conv => arg 4; cbv
  exact AKp.doneE tabOK hfr (by rfl) (by rfl)
end Go.Proofs.YtialapjchamkfaaDoor
