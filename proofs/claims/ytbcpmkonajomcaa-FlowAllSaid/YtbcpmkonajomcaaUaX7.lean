/- test -/
import Derived.Test.YtbcpmkonajomcaaUaX6
namespace Go.Proofs.Ytbcpmkonajomcaa
open Go Go.Proofs Go.Ua
set_option linter.unusedVariables false

structure ReqF where
  user : List UInt8
  groups : List (List UInt8)
  verb : List UInt8
  resource : List UInt8
  space : List UInt8
  objects : Int

def ReqF.dat (q : ReqF) : Dat := reqD q.user (strs q.groups) q.verb q.resource q.space q.objects

/-- No list is greater than the machine's. -/
def short {α : Type} (l : List α) : Prop := l.length < 9223372036854775808
def RuleF.ok (r : RuleF) : Prop := short r.users ∧ short r.groups ∧ short r.verbs ∧ short r.resources ∧ short r.spaces

theorem RuleG_spec (e1 e3 e4 e5 es : List Dat) (gs : List (List UInt8)) (g : List UInt8) (he : es = strs gs) (hs : short gs) :
    ASpec Try.prog 28 [.d (.s (.str g)), .d (.vref [.view 1 e1, .view 1 es, .view 1 e3, .view 1 e4, .view 1 e5])] [] 0 (fun x h' fr' => x = .d (.s (.bool (hasF gs g))) ∧ h' = [] ∧ fr' = 0) := by
  refine ASpec.enter Try.func28 (by kernel_rfl) rfl (Nat.le_of_ble_eq_true rfl) ?_
  intro cx hnt hfr
  obtain ⟨F, hF⟩ := real_ex
  refine AK.run hF tabOK hnt ?_
  conv => arg 4; cbv
  have sp := Has_spec gs g es he hs
  generalize hasF gs g = z at sp ⊢
  refine AK.call0 sp rfl rfl rfl (fun d hd => ?_) rfl rfl rfl ?_
  · cases hd; rw [hnt]; exact Nat.le_of_ble_eq_true rfl
  rintro x h' fr' ⟨rfl, rfl, rfl⟩
  refine AK.run hF tabOK hnt ?_
  conv => arg 4; cbv
  exact AKp.done tabOK rfl rfl hfr ⟨rfl, rfl, rfl⟩

def ruleF (r : RuleF) (q : ReqF) : Bool := (hasF r.users q.user || q.groups.any fun g => hasF r.groups g) && hasF r.verbs q.verb && hasF r.resources q.resource && hasF r.spaces q.space

theorem Rule_spec (r : RuleF) (q : ReqF) (hr : r.ok) (hq : short q.groups) :
    ASpec Try.prog 20 [.d (ruleD r), .d q.dat] [] 0 (fun x h' fr' => x = .d (.s (.bool (ruleF r q))) ∧ h' = [] ∧ fr' = 0) := by
  obtain ⟨us, gs, vs, rs, ss⟩ := r
  obtain ⟨u, qg, v, re, sp, ob⟩ := q
  obtain ⟨h1, h2, h3, h4, h5⟩ := hr
  simp only at h1 h2 h3 h4 h5 hq
  unfold ruleD ReqF.dat ruleF reqD
  simp only
  obtain ⟨e1, he1⟩ : ∃ e, e = strs us := ⟨_, rfl⟩
  obtain ⟨e2, he2⟩ : ∃ e, e = strs gs := ⟨_, rfl⟩
  obtain ⟨e3, he3⟩ : ∃ e, e = strs vs := ⟨_, rfl⟩
  obtain ⟨e4, he4⟩ : ∃ e, e = strs rs := ⟨_, rfl⟩
  obtain ⟨e5, he5⟩ : ∃ e, e = strs ss := ⟨_, rfl⟩
  obtain ⟨eg, heg⟩ : ∃ e, e = strs qg := ⟨_, rfl⟩
  rw [← he1, ← he2, ← he3, ← he4, ← he5, ← heg]
  have s1 := Has_spec us u e1 he1 h1
  have s3 := Has_spec vs v e3 he3 h3
  have s4 := Has_spec rs re e4 he4 h4
  have s5 := Has_spec ss sp e5 he5 h5
  have sg := ContainsFuncS qg (fun g => hasF gs g) eg 28 (.vref [.view 1 e1, .view 1 e2, .view 1 e3, .view 1 e4, .view 1 e5]) heg hq (fun g _ => RuleG_spec e1 e3 e4 e5 e2 gs g he2 h2)
  generalize hasF us u = z1 at s1 ⊢
  generalize hasF vs v = z3 at s3 ⊢
  generalize hasF rs re = z4 at s4 ⊢
  generalize hasF ss sp = z5 at s5 ⊢
  generalize (qg.any fun g => hasF gs g) = zg at sg ⊢
  refine ASpec.enter Try.func20 (by kernel_rfl) rfl (Nat.le_of_ble_eq_true rfl) ?_
  intro cx hnt hfr
  obtain ⟨F, hF⟩ := real_ex
  refine AK.run hF tabOK hnt ?_
  conv => arg 4; cbv
  refine AKp.freezeBox 1 rfl rfl ?_
  refine AKp.freezeBox 0 rfl rfl ?_
  refine AK.call0 s1 rfl rfl rfl (fun d hd => ?_) rfl rfl rfl ?_
  · cases hd; rw [hnt]; exact Nat.le_of_ble_eq_true rfl
  rintro x h' fr' ⟨rfl, rfl, rfl⟩
  refine AK.run hF tabOK hnt ?_
  cases z1
  · conv => arg 4; cbv
    refine AK.call0 sg rfl rfl rfl (fun d hd => ?_) rfl rfl rfl ?_
    · cases hd; rw [hnt]; exact Nat.le_of_ble_eq_true rfl
    rintro x h' fr' ⟨rfl, rfl, rfl⟩
    refine AK.run hF tabOK hnt ?_
    cases zg
    · conv => arg 4; cbv
      exact AKp.done tabOK rfl rfl hfr ⟨rfl, rfl, rfl⟩
    · conv => arg 4; cbv
      refine AK.call0 s3 rfl rfl rfl (fun d hd => ?_) rfl rfl rfl ?_
      · cases hd; rw [hnt]; exact Nat.le_of_ble_eq_true rfl
      rintro x h' fr' ⟨rfl, rfl, rfl⟩
      refine AK.run hF tabOK hnt ?_
      cases z3
      · conv => arg 4; cbv
        exact AKp.done tabOK rfl rfl hfr ⟨rfl, rfl, rfl⟩
      · conv => arg 4; cbv
        refine AK.call0 s4 rfl rfl rfl (fun d hd => ?_) rfl rfl rfl ?_
        · cases hd; rw [hnt]; exact Nat.le_of_ble_eq_true rfl
        rintro x h' fr' ⟨rfl, rfl, rfl⟩
        refine AK.run hF tabOK hnt ?_
        cases z4
        · conv => arg 4; cbv
          exact AKp.done tabOK rfl rfl hfr ⟨rfl, rfl, rfl⟩
        · conv => arg 4; cbv
          refine AK.call0 s5 rfl rfl rfl (fun d hd => ?_) rfl rfl rfl ?_
          · cases hd; rw [hnt]; exact Nat.le_of_ble_eq_true rfl
          rintro x h' fr' ⟨rfl, rfl, rfl⟩
          refine AK.run hF tabOK hnt ?_
          conv => arg 4; cbv
          exact AKp.done tabOK rfl rfl hfr ⟨rfl, rfl, rfl⟩
  · conv => arg 4; cbv
    refine AK.call0 s3 rfl rfl rfl (fun d hd => ?_) rfl rfl rfl ?_
    · cases hd; rw [hnt]; exact Nat.le_of_ble_eq_true rfl
    rintro x h' fr' ⟨rfl, rfl, rfl⟩
    refine AK.run hF tabOK hnt ?_
    cases z3
    · conv => arg 4; cbv
      exact AKp.done tabOK rfl rfl hfr ⟨rfl, rfl, rfl⟩
    · conv => arg 4; cbv
      refine AK.call0 s4 rfl rfl rfl (fun d hd => ?_) rfl rfl rfl ?_
      · cases hd; rw [hnt]; exact Nat.le_of_ble_eq_true rfl
      rintro x h' fr' ⟨rfl, rfl, rfl⟩
      refine AK.run hF tabOK hnt ?_
      cases z4
      · conv => arg 4; cbv
        exact AKp.done tabOK rfl rfl hfr ⟨rfl, rfl, rfl⟩
      · conv => arg 4; cbv
        refine AK.call0 s5 rfl rfl rfl (fun d hd => ?_) rfl rfl rfl ?_
        · cases hd; rw [hnt]; exact Nat.le_of_ble_eq_true rfl
        rintro x h' fr' ⟨rfl, rfl, rfl⟩
        refine AK.run hF tabOK hnt ?_
        conv => arg 4; cbv
        exact AKp.done tabOK rfl rfl hfr ⟨rfl, rfl, rfl⟩
end Go.Proofs.Ytbcpmkonajomcaa
