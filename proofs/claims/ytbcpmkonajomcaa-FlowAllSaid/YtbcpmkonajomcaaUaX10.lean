/- test -/
import Derived.Test.YtbcpmkonajomcaaUaX9
namespace Go.Proofs.Ytbcpmkonajomcaa
open Go Go.Proofs Go.Ua
set_option linter.unusedVariables false

def awR : RuleF := ⟨[[42]], [], [[42]], [[42]], [[42]]⟩
def awS : SchemaF := ⟨[115], [97], 0, 1, [awR]⟩
def awQ : ReqF := ⟨[117], [], [], [], [], 0⟩

theorem aw_class : classF [awS] awQ = (clD [115] [97] [117] (flowF [115] [117]), 0) := by
  have h0 : schemaF awS awQ = true := by decide
  have h : [awS].find? (fun s => schemaF s awQ) = some awS := by simp [List.find?, h0]
  unfold classF
  rw [h]
  rfl

theorem aw_ok : awS.ok := by
  refine ⟨by decide, by unfold short; decide, fun r hr => ?_⟩
  have : r = awR := by simpa [awS] using hr
  subst this
  refine ⟨?_, ?_, ?_, ?_, ?_⟩ <;> (unfold short; decide)

theorem aw_all : ∀ s, s ∈ [awS] → s.ok := by
  intro s hs
  have : s = awS := by simpa using hs
  subst this
  exact aw_ok

theorem awake_spec : ASpec Try.prog 7 [] [] 0 (fun x h' fr' => x = .d (.s (.bool true)) ∧ h' = [] ∧ fr' = 0) := by
  refine ASpec.enter Try.func7 (by kernel_rfl) rfl (Nat.le_of_ble_eq_true rfl) ?_
  intro cx hnt hfr
  obtain ⟨F, hF⟩ := real_ex
  refine AK.runN hF tabOK hnt 8 ?_
  conv => arg 4; cbv
  refine AKp.freeze 0 rfl ?_
  refine AK.runN hF tabOK hnt 12 ?_
  conv => arg 4; cbv
  refine AKp.freeze 1 rfl ?_
  refine AK.run hF tabOK hnt ?_
  conv => arg 4; cbv
  refine AKp.freeze 3 rfl ?_
  conv => arg 4; arg 2; cbv
  refine AKp.retell 17 (.agg [.s (.int .i64 0), .s (.int .i64 0), .s (.int .i64 0), .s (.int .i64 0), .view 10 [], .view 5 (schemaDs [awS]), .s (.int .u64 0)]) rfl ?_ ?_
  · exact .agg (.cons (.refl _) (.cons (.refl _) (.cons (.refl _) (.cons (.refl _) (.cons (.nil _) (.cons (.view (.cons (.agg (.cons (.refl _) (.cons (.refl _) (.cons (.refl _) (.cons (.refl _) (.cons
      (.view (.cons (.agg (.cons (.refl _) (.cons (.nil 1) (.cons (.refl _) (.cons (.refl _) (.cons (.refl _) .nil)))))) .nil)) .nil)))))) .nil)) (.cons (.refl _) .nil)))))))
  refine AKp.retell 18 awQ.dat rfl ?_ ?_
  · exact .agg (.cons (.refl _) (.cons (.nil _) (.cons (.refl _) (.cons (.refl _) (.cons (.refl _) (.cons (.refl _) .nil))))))
  have sp := Classify_spec [awS] awQ 0 0 0 0 0 [] (schemaDs [awS]) rfl (by unfold short; decide) aw_all (by unfold short; decide) (by decide) (by decide)
  rw [aw_class] at sp
  generalize flowF [115] [117] = fl at sp
  refine AK.call0 sp rfl rfl rfl (fun d hd => ?_) rfl rfl rfl ?_
  · cases hd; rw [hnt]; exact Nat.le_of_ble_eq_true rfl
  rintro x h' fr' ⟨rfl, rfl, rfl⟩
  refine AK.run hF tabOK hnt ?_
  conv => arg 4; cbv
  rw [show F .eqI 0 0 = true by rw [hF]; rfl]
  conv => arg 4; cbv
  rw [show F .eqS [97] [97] = true by rw [hF]; rfl]
  conv => arg 4; cbv
  rw [show F .eqS [117] [117] = true by rw [hF]; rfl]
  conv => arg 4; cbv
  exact AKp.done tabOK rfl rfl hfr ⟨rfl, rfl, rfl⟩
end Go.Proofs.Ytbcpmkonajomcaa
