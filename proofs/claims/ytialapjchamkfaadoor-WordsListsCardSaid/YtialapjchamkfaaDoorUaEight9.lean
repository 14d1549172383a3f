/- Lists, as texts. -/
import Derived.Test.YtialapjchamkfaaDoorUaEight8
namespace Go.Proofs.YtialapjchamkfaaDoor
open Go Go.Proofs Go.Ua Go.Extern
set_option linter.unusedVariables false
set_option linter.unusedSimpArgs false

def listF (w : List UInt8) : Option (List (List UInt8)) := if w = [45] then some [] else if 520 < w.length then none else if goodF (cutF 44 w) = true then some (cutF 44 w) else none
def listAV : Option (List (List UInt8)) → AV
  | some l => .tup [.d (.view 1 (strDs l)), .d (.s (.bool true))]
  | none => .tup [.d (.view 1 []), .d (.s (.bool false))]

theorem List_spec (w : List UInt8) : ESpec Tryd.prog 18 [.d (.s (.str w))] (fun x => x = listAV (listF w)) := by
  obtain ⟨z, hz⟩ : ∃ z, z = listAV (listF w) := ⟨_, rfl⟩
  rw [← hz]
  unfold listF at hz
  refine ESpec.enter Tryd.func18 (by kernel_rfl) rfl (Nat.le_of_ble_eq_true rfl) fun hok cx hnt hfr => ?_
  obtain ⟨F, hF⟩ := real_ex
  refine AK.run hF tabOK hnt ?_
  conv => arg 4; cbv
  cases h1 : F .eqS w [45]
  case' true =>
    have h1' := eqS1 hF h1
    conv => arg 4; cbv
    refine AKp.retell 2 (.view 1 []) rfl (by repeat constructor) ?_
    conv => arg 4; arg 2; cbv
    rw [show z = .tup [.d (.view 1 []), .d (.s (.bool true))] by rw [hz, if_pos h1']; rfl]
    exact AKp.doneE tabOK hfr (by rfl) (by rfl)
  case' false =>
  have h1' := eqS0 hF h1
  rw [if_neg h1'] at hz
  conv => arg 4; cbv
  cases h2 : F .ltI 520 (F .lenS w)
  case' true =>
    have h2' := ltI1 hF h2
    rw [l_lenS hF] at h2'
    conv => arg 4; cbv
    refine AKp.retell 2 (.view 1 []) rfl (by repeat constructor) ?_
    conv => arg 4; arg 2; cbv
    rw [show z = .tup [.d (.view 1 []), .d (.s (.bool false))] by rw [hz, if_pos (by omega)]; rfl]
    exact AKp.doneE tabOK hfr (by rfl) (by rfl)
  case' false =>
  have h2' := ltI0 hF h2
  rw [l_lenS hF] at h2'
  rw [if_neg (by omega)] at hz
  have ss := ESpec.ofRow (Split_spec w 44 (by omega))
  have sg := good_spec (cutF 44 w)
  obtain ⟨es, hes⟩ : ∃ z, z = strDs (cutF 44 w) := ⟨_, rfl⟩
  obtain ⟨g, hg⟩ : ∃ z, z = goodF (cutF 44 w) := ⟨_, rfl⟩
  rw [← hes] at ss sg
  rw [← hg] at sg hz
  conv => arg 4; cbv
  refine AKp.call hF tabOK hnt ss rfl rfl rfl rfl rfl rfl rfl (by repeat' first | exact .refl _ | constructor) ?_
  rintro _ rfl
  conv => arg 4; cbv
  refine AKp.call hF tabOK hnt sg rfl rfl rfl rfl rfl rfl rfl (by repeat' first | exact .refl _ | constructor) ?_
  rintro _ rfl
  conv => arg 4; cbv
  cases g
  case' false =>
    rw [l_not0 hF]
    conv => arg 4; cbv
    refine AKp.retell 2 (.view 1 []) rfl (by repeat constructor) ?_
    conv => arg 4; arg 2; cbv
    rw [show z = .tup [.d (.view 1 []), .d (.s (.bool false))] by rw [hz]; rfl]
    exact AKp.doneE tabOK hfr (by rfl) (by rfl)
  case' true =>
  rw [l_not1 hF]
  conv => arg 4; cbv
  rw [show z = .tup [.d (.view 1 es), .d (.s (.bool true))] by rw [hz, hes]; rfl]
  exact AKp.doneE tabOK hfr (by rfl) (by rfl)

theorem space_spec (n : Int) : ESpec Tryd.prog 36 [.d (.s (.int .i32 n))] (fun x => x = .d (.s (.bool (n == 32)))) := by
  obtain ⟨z, hz⟩ : ∃ z, z = (n == 32) := ⟨_, rfl⟩
  rw [← hz]
  refine ESpec.enter Tryd.func36 (by kernel_rfl) rfl (Nat.le_of_ble_eq_true rfl) fun _ cx hnt hfr => ?_
  obtain ⟨F, hF⟩ := real_ex
  refine AK.run hF tabOK hnt ?_
  conv => arg 4; cbv
  rw [show F .eqI n 32 = z by rw [hz, l_eqI hF]]
  exact AKp.doneE tabOK hfr (by rfl) (by rfl)
end Go.Proofs.YtialapjchamkfaaDoor
