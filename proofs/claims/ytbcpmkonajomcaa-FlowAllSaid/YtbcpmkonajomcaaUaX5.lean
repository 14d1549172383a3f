/- test -/
import Derived.Test.YtbcpmkonajomcaaUaX4
namespace Go.Proofs.Ytbcpmkonajomcaa
open Go Go.Proofs Go.Ua
set_option linter.unusedVariables false

theorem leI_t {F : Fam} (hF : F = Fam.real) (a b : Int) : F .leI a b = decide (a ≤ b) := by subst hF; rfl

theorem Contains_spec (l : List (List UInt8)) (w : List UInt8) (es : List Dat) (he : es = strs l) (hs : l.length < 9223372036854775808) :
    ASpec Try.prog 31 [.d (.view 1 es), .d (.s (.str w))] [] 0 (fun x h' fr' => x = .d (.s (.bool (l.any fun s => w == s))) ∧ h' = [] ∧ fr' = 0) := by
  refine ASpec.enter Try.func31 (by kernel_rfl) rfl (Nat.le_of_ble_eq_true rfl) ?_
  intro cx hnt hfr
  obtain ⟨F, hF⟩ := real_ex
  refine AK.run hF tabOK hnt ?_
  conv => arg 4; cbv
  have sp := Index_spec l w es he hs
  have hn := idx_any (fun s => w == s) l
  generalize hy : idx (fun s => w == s) l = y at sp hn
  generalize hz : (l.any fun s => w == s) = z at hn ⊢
  refine AK.call0 sp rfl rfl rfl (fun d hd => ?_) rfl rfl rfl ?_
  · cases hd; rw [hnt]; exact Nat.le_of_ble_eq_true rfl
  rintro x h' fr' ⟨rfl, rfl, rfl⟩
  refine AK.run hF tabOK hnt ?_
  conv => arg 4; cbv
  refine AKp.done tabOK rfl rfl hfr ⟨?_, rfl, rfl⟩
  rw [← hn, leI_t hF]

def hasF (l : List (List UInt8)) (w : List UInt8) : Bool := (l.length == 1 && l[0]? == some [42]) || l.any fun s => w == s

theorem Has_spec (l : List (List UInt8)) (w : List UInt8) (es : List Dat) (he : es = strs l) (hs : l.length < 9223372036854775808) :
    ASpec Try.prog 26 [.d (.view 1 es), .d (.s (.str w))] [] 0 (fun x h' fr' => x = .d (.s (.bool (hasF l w))) ∧ h' = [] ∧ fr' = 0) := by
  refine ASpec.enter Try.func26 (by kernel_rfl) rfl (Nat.le_of_ble_eq_true rfl) ?_
  intro cx hnt hfr
  obtain ⟨F, hF⟩ := real_ex
  refine AK.run hF tabOK hnt ?_
  conv => arg 4; cbv
  have hlen : F .lenD es = l.length := by rw [hF]; show ((es.length : Nat) : Int) = _; rw [he]; simp [strs]
  have call : ∀ (S : List KI × St) , True := fun _ => trivial
  generalize F .lenD es = lv at hlen ⊢
  have sp := Contains_spec l w es he hs
  cases hb : F .eqI lv 1
  · have hne := eqI_f hF hb
    conv => arg 4; cbv
    have hh : hasF l w = l.any fun s => w == s := by
      unfold hasF
      rw [show (l.length == 1) = false by simp; omega]
      rfl
    rw [← hh] at sp
    generalize hasF l w = z at sp ⊢
    refine AK.call0 sp rfl rfl rfl (fun d hd => ?_) rfl rfl rfl ?_
    · cases hd; rw [hnt]; exact Nat.le_of_ble_eq_true rfl
    rintro x h' fr' ⟨rfl, rfl, rfl⟩
    refine AK.run hF tabOK hnt ?_
    conv => arg 4; cbv
    exact AKp.done tabOK rfl rfl hfr ⟨rfl, rfl, rfl⟩
  · have hne := eqI_t hF hb
    have h1 : l.length = 1 := by omega
    obtain ⟨s0, hs0⟩ := List.length_eq_one_iff.1 h1
    have hg : F .getD es 0 = some (.s (.str s0)) := by rw [hF]; exact fr_getD (i := 0) (by rw [he, hs0]; rfl) rfl
    conv => arg 4; cbv
    rw [hg]
    conv => arg 4; cbv
    cases hc : F .eqS s0 [42]
    · have hc' : (s0 == [42]) = false := by rw [hF] at hc; exact hc
      conv => arg 4; cbv
      have hh : hasF l w = l.any fun s => w == s := by
        unfold hasF
        rw [hs0]
        simp only [List.getElem?_cons_zero]
        rw [show (some s0 == some [42]) = false from hc']
        rfl
      rw [← hh] at sp
      generalize hasF l w = z at sp ⊢
      refine AK.call0 sp rfl rfl rfl (fun d hd => ?_) rfl rfl rfl ?_
      · cases hd; rw [hnt]; exact Nat.le_of_ble_eq_true rfl
      rintro x h' fr' ⟨rfl, rfl, rfl⟩
      refine AK.run hF tabOK hnt ?_
      conv => arg 4; cbv
      exact AKp.done tabOK rfl rfl hfr ⟨rfl, rfl, rfl⟩
    · have hc' : (s0 == [42]) = true := by rw [hF] at hc; exact hc
      conv => arg 4; cbv
      have hh : hasF l w = true := by
        unfold hasF
        rw [hs0]
        simp only [List.getElem?_cons_zero]
        rw [show (some s0 == some [42]) = true from hc']
        rfl
      exact AKp.done tabOK rfl rfl hfr ⟨by rw [hh], rfl, rfl⟩
end Go.Proofs.Ytbcpmkonajomcaa
