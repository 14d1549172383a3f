/- WordsLists: the function returns true. -/
import Derived.Test.YtialapjchamkfaaDoorUaEight21
namespace Go.Proofs.YtialapjchamkfaaDoor
open Go Go.Proofs Go.Ua Go.Extern
set_option linter.unusedVariables false
set_option linter.unusedSimpArgs false

theorem WordsLists_spec (l : List (List UInt8)) (w : List UInt8) : ESpec Tryd.prog 8 [.d (.view 1 (strDs l)), .d (.s (.str w))] (fun x => x = .d (.s (.bool true))) := by
  have sj := Join_spec l
  have sl : joinF l ≠ [] → ESpec Tryd.prog 18 [.d (.s (.str (joinF l)))] (fun x => x = .tup [.d (.view 1 (strDs l)), .d (.s (.bool true))]) := fun h => by
    have := List_spec (joinF l)
    rw [list_join h] at this
    exact this
  have ss : ESpec Tryd.prog 12 [.d (.view 1 (strDs l)), .d (.view 1 (strDs l))] (fun x => x = .d (.s (.bool true))) := by
    have := Same_spec l l
    rw [decide_eq_true rfl] at this
    exact this
  obtain ⟨em, ok, s2, s3⟩ : ∃ (em : List Dat) (ok : Bool), ESpec Tryd.prog 18 [.d (.s (.str w))] (fun x => x = .tup [.d (.view 1 em), .d (.s (.bool ok))]) ∧ (ok = true → ESpec Tryd.prog 22 [.d (.view 1 em)] (fun x => x = .d (.s (.str w)))) := by
    have h := List_spec w
    cases hl : listF w with
    | none => rw [hl] at h; exact ⟨[], false, h, fun h => absurd h (by decide)⟩
    | some m =>
      rw [hl] at h
      have hj := Join_spec m
      rw [join_list hl] at hj
      exact ⟨strDs m, true, h, fun _ => hj⟩
  obtain ⟨es, hes⟩ : ∃ z, z = strDs l := ⟨_, rfl⟩
  obtain ⟨J, hJ⟩ : ∃ z, z = joinF l := ⟨_, rfl⟩
  rw [← hes, ← hJ] at sj sl
  rw [← hes] at ss ⊢
  refine ESpec.enter Tryd.func8 (by kernel_rfl) rfl (Nat.le_of_ble_eq_true rfl) fun hok cx hnt hfr => ?_
  obtain ⟨F, hF⟩ := real_ex
  refine AK.run hF tabOK hnt ?_
  conv => arg 4; cbv
  refine AKp.call hF tabOK hnt awake_spec rfl rfl rfl rfl rfl rfl rfl (by repeat' first | exact .refl _ | constructor) ?_
  rintro _ rfl
  conv => arg 4; cbv
  rw [l_not1 hF]
  conv => arg 4; cbv
  cases h1 : F .ltI 16384 (F .lenS w)
  case' true =>
    conv => arg 4; cbv
    exact AKp.doneE tabOK hfr (by rfl) (by rfl)
  case' false =>
  conv => arg 4; cbv
  cases h2 : F .ltI 64 (F .lenD es)
  case' true =>
    conv => arg 4; cbv
    exact AKp.doneE tabOK hfr (by rfl) (by rfl)
  case' false =>
  conv => arg 4; cbv
  refine AKp.call hF tabOK hnt sj rfl rfl rfl rfl rfl rfl rfl (by repeat' first | exact .refl _ | constructor) ?_
  rintro _ rfl
  conv => arg 4; cbv
  cases h3 : F .eqS J []
  case' false =>
    have sl := sl (eqS0 hF h3)
    rw [l_not0 hF]
    conv => arg 4; cbv
    refine AKp.call hF tabOK hnt sl rfl rfl rfl rfl rfl rfl rfl (by repeat' first | exact .refl _ | constructor) ?_
    rintro _ rfl
    conv => arg 4; cbv
    rw [l_not1 hF]
    conv => arg 4; cbv
    refine AKp.call hF tabOK hnt ss rfl rfl rfl rfl rfl rfl rfl (by repeat' first | exact .refl _ | constructor) ?_
    rintro _ rfl
    conv => arg 4; cbv
    rw [l_not1 hF]
  case' true =>
    rw [l_not1 hF]
  all_goals
    conv => arg 4; cbv
    refine AKp.call hF tabOK hnt s2 rfl rfl rfl rfl rfl rfl rfl (by repeat' first | exact .refl _ | constructor) ?_
    rintro _ rfl
    conv => arg 4; cbv
    cases ok
    case' false =>
      rw [l_not0 hF]
      conv => arg 4; cbv
      exact AKp.doneE tabOK hfr (by rfl) (by rfl)
    case' true =>
      have s3 := s3 rfl
      rw [l_not1 hF]
      conv => arg 4; cbv
      refine AKp.call hF tabOK hnt s3 rfl rfl rfl rfl rfl rfl rfl (by repeat' first | exact .refl _ | constructor) ?_
      rintro _ rfl
      conv => arg 4; cbv
      rw [show F .eqS w w = true by rw [l_eqS hF]; simp]
      conv => arg 4; cbv
      exact AKp.doneE tabOK hfr (by rfl) (by rfl)

theorem typed_strs {f : Nat} {l : List Dat} (h : typed tab (f + 2) 24 l) : ∃ zs, l = [.view 1 (strDs zs)] := by
  obtain ⟨es, rfl, hlen, hes⟩ := h
  clear hlen
  have : ∃ zs, es = strDs zs := by
    induction es with
    | nil => exact ⟨[], rfl⟩
    | cons x es ih =>
      obtain ⟨zs, rfl⟩ := ih fun x hx => hes x (List.mem_cons_of_mem _ hx)
      obtain ⟨l', rfl, s, rfl, _⟩ := hes x (by simp)
      exact ⟨s :: zs, rfl⟩
  obtain ⟨zs, rfl⟩ := this
  exact ⟨zs, rfl⟩
end Go.Proofs.YtialapjchamkfaaDoor
