/- test -/
import Derived.Test.YtbcpmkonajomcaaUaX14
namespace Go.Proofs.Ytbcpmkonajomcaa
open Go Go.Proofs Go.Ua
set_option linter.unusedVariables false

theorem f_not1 {F : Fam} (hF : F = Fam.real) : F .not true = false := by rw [hF]; rfl
theorem f_not0 {F : Fam} (hF : F = Fam.real) : F .not false = true := by rw [hF]; rfl

theorem class_shape (l : List SchemaF) (q : ReqF) : ∃ a b c f e, classF l q = (clD a b c f, e) ∧ (e = 0 → f = flowF a c) := by
  unfold classF
  split
  · exact ⟨_, _, _, _, _, rfl, fun _ => rfl⟩
  · exact ⟨_, _, _, _, _, rfl, fun h => by omega⟩

theorem FlowKeys_spec (l : List SchemaF) (p q : ReqF) : ESpec Try.prog 5 [.d (.view 5 (schemaDs l)), .d p.dat, .d q.dat] (fun x => x = .d (.s (.bool true))) := by
  have sc := confSmallE ⟨0, 0, 0, 0, [], l⟩
  have sp := reqSmallE p
  have sq := reqSmallE q
  have cp := ClassifyE l p 0 0 0 0 0 []
  have cq := ClassifyE l q 0 0 0 0 0 []
  obtain ⟨pa, pb, pc, pf, pe, hp, hpf⟩ := class_shape l p
  obtain ⟨qa, qb, qc, qf, qe, hq, hqf⟩ := class_shape l q
  rw [hp] at cp
  rw [hq] at cq
  refine ESpec.enter Try.func5 (by kernel_rfl) rfl (Nat.le_of_ble_eq_true rfl) fun _ cx hnt hfr => ?_
  obtain ⟨F, hF⟩ := real_ex
  unfold confCells at sc
  unfold ReqF.dat reqD at *
  unfold clD at *
  simp only at sc cp cq
  generalize schemaDs l = es at *
  generalize strs p.groups = pg at *
  generalize strs q.groups = qg at *
  refine AK.run hF tabOK hnt ?_
  conv => arg 4; cbv
  refine AKp.call hF tabOK hnt awakeE rfl rfl rfl rfl rfl rfl rfl (by repeat' first | exact .refl _ | constructor) ?_
  rintro _ rfl
  conv => arg 4; cbv
  rw [f_not1 hF]
  conv => arg 4; cbv
  refine AKp.call hF tabOK hnt sc rfl rfl rfl rfl rfl rfl rfl (by repeat' first | exact .refl _ | constructor) ?_
  rintro _ ⟨b, rfl, -⟩
  conv => arg 4; cbv
  cases b
  · rw [f_not0 hF]
    conv => arg 4; cbv
    exact AKp.doneE tabOK hfr (by rfl) (by rfl)
  rw [f_not1 hF]
  conv => arg 4; cbv
  refine AKp.call hF tabOK hnt sp rfl rfl rfl rfl rfl rfl rfl (by repeat' first | exact .refl _ | constructor) ?_
  rintro _ ⟨b, rfl, -⟩
  conv => arg 4; cbv
  cases b
  · rw [f_not0 hF]
    conv => arg 4; cbv
    exact AKp.doneE tabOK hfr (by rfl) (by rfl)
  rw [f_not1 hF]
  conv => arg 4; cbv
  refine AKp.call hF tabOK hnt sq rfl rfl rfl rfl rfl rfl rfl (by repeat' first | exact .refl _ | constructor) ?_
  rintro _ ⟨b, rfl, -⟩
  conv => arg 4; cbv
  cases b
  · rw [f_not0 hF]
    conv => arg 4; cbv
    exact AKp.doneE tabOK hfr (by rfl) (by rfl)
  rw [f_not1 hF]
  conv => arg 4; cbv
  refine AKp.call hF tabOK hnt cp rfl rfl rfl rfl rfl rfl rfl (by repeat' first | exact .refl _ | constructor) ?_
  rintro _ rfl
  conv => arg 4; cbv
  refine AKp.call hF tabOK hnt cq rfl rfl rfl rfl rfl rfl rfl (by repeat' first | exact .refl _ | constructor) ?_
  rintro _ rfl
  conv => arg 4; cbv
  cases e1 : F .eqI pe 0
  · rw [f_not0 hF]
    conv => arg 4; cbv
    exact AKp.doneE tabOK hfr (by rfl) (by rfl)
  rw [f_not1 hF]
  conv => arg 4; cbv
  cases e2 : F .eqI qe 0
  · rw [f_not0 hF]
    conv => arg 4; cbv
    exact AKp.doneE tabOK hfr (by rfl) (by rfl)
  rw [f_not1 hF]
  conv => arg 4; cbv
  cases e3 : F .eqS pa qa
  · rw [f_not0 hF]
    conv => arg 4; cbv
    exact AKp.doneE tabOK hfr (by rfl) (by rfl)
  rw [f_not1 hF]
  conv => arg 4; cbv
  cases e4 : F .eqS pc qc
  · rw [f_not0 hF]
    conv => arg 4; cbv
    exact AKp.doneE tabOK hfr (by rfl) (by rfl)
  rw [f_not1 hF]
  conv => arg 4; cbv
  have h1 := hpf (eqI_t hF e1)
  have h2 := hqf (eqI_t hF e2)
  have h3 : pa = qa := by rw [hF] at e3; exact eq_of_beq e3
  have h4 : pc = qc := by rw [hF] at e4; exact eq_of_beq e4
  rw [show F .eqI pf qf = true by rw [hF, h1, h2, h3, h4]; exact beq_self_eq_true _]
  exact AKp.doneE tabOK hfr (by rfl) (by rfl)
end Go.Proofs.Ytbcpmkonajomcaa
