/- test -/
import Derived.Test.YtbcpmkonajomcaaUaX10
namespace Go.Proofs.Ytbcpmkonajomcaa
open Go Go.Proofs Go.Ua
set_option linter.unusedVariables false

theorem FlowKey_spec (b : Int) (q : ReqF) : ASpec Try.prog 6 [.d (.s (.int .i64 b)), .d q.dat] [] 0 (fun x h' fr' => x = .d (.s (.bool true)) ∧ h' = [] ∧ fr' = 0) := by
  unfold ReqF.dat reqD
  generalize strs q.groups = eg
  generalize q.user = u
  generalize q.verb = v
  generalize q.resource = re
  generalize q.space = ss
  generalize q.objects = ob
  have s1 := Key_spec b u eg v re ss ob
  have s2 := refKey_spec b u eg v re ss ob
  have hk : keyF b u ss = [] ∨ keyF b u ss = u ∨ keyF b u ss = ss := by
    unfold keyF
    split
    · exact .inr (.inl rfl)
    · split
      · exact .inr (.inr rfl)
      · exact .inl rfl
  generalize keyF b u ss = ky at s1 s2 hk
  unfold reqD at s1 s2
  refine ASpec.enter Try.func6 (by kernel_rfl) rfl (Nat.le_of_ble_eq_true rfl) ?_
  intro cx hnt hfr
  obtain ⟨F, hF⟩ := real_ex
  refine AK.run hF tabOK hnt ?_
  conv => arg 4; cbv
  refine AK.call0 awake_spec rfl rfl rfl (fun d hd => ?_) rfl rfl rfl ?_
  · cases hd; rw [hnt]; exact Nat.le_of_ble_eq_true rfl
  rintro x h' fr' ⟨rfl, rfl, rfl⟩
  refine AK.run hF tabOK hnt ?_
  conv => arg 4; cbv
  rw [show F .not true = false by rw [hF]; rfl]
  conv => arg 4; cbv
  refine AK.call0 s1 rfl rfl rfl (fun d hd => ?_) rfl rfl rfl ?_
  · cases hd; rw [hnt]; exact Nat.le_of_ble_eq_true rfl
  rintro x h' fr' ⟨rfl, rfl, rfl⟩
  refine AK.run hF tabOK hnt ?_
  conv => arg 4; cbv
  refine AK.call0 s2 rfl rfl rfl (fun d hd => ?_) rfl rfl rfl ?_
  · cases hd; rw [hnt]; exact Nat.le_of_ble_eq_true rfl
  rintro x h' fr' ⟨rfl, rfl, rfl⟩
  refine AK.run hF tabOK hnt ?_
  conv => arg 4; cbv
  rw [show F .eqS ky ky = true by rw [hF]; exact beq_self_eq_true _]
  conv => arg 4; cbv
  cases h1 : F .eqS ky []
  · have h1' : ky ≠ [] := by rw [hF] at h1; exact ne_of_beq_false h1
    conv => arg 4; cbv
    cases h2 : F .eqS ky u
    · have h2' : ky ≠ u := by rw [hF] at h2; exact ne_of_beq_false h2
      conv => arg 4; cbv
      have h3 : ky = ss := by
        rcases hk with h | h | h
        · exact absurd h h1'
        · exact absurd h h2'
        · exact h
      rw [show F .eqS ky ss = true by rw [hF, h3]; exact beq_self_eq_true _]
      conv => arg 4; cbv
      exact AKp.done tabOK rfl rfl hfr ⟨rfl, rfl, rfl⟩
    · conv => arg 4; cbv
      exact AKp.done tabOK rfl rfl hfr ⟨rfl, rfl, rfl⟩
  · conv => arg 4; cbv
    exact AKp.done tabOK rfl rfl hfr ⟨rfl, rfl, rfl⟩
end Go.Proofs.Ytbcpmkonajomcaa
