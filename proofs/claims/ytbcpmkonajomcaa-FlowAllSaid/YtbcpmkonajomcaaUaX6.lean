/- test -/
import Derived.Test.YtbcpmkonajomcaaUaX5
namespace Go.Proofs.Ytbcpmkonajomcaa
open Go Go.Proofs Go.Ua
set_option linter.unusedVariables false

structure RuleF where
  users : List (List UInt8)
  groups : List (List UInt8)
  verbs : List (List UInt8)
  resources : List (List UInt8)
  spaces : List (List UInt8)

def ruleD (r : RuleF) : Dat := .agg [.view 1 (strs r.users), .view 1 (strs r.groups), .view 1 (strs r.verbs), .view 1 (strs r.resources), .view 1 (strs r.spaces)]
def ruleDs (l : List RuleF) : List Dat := l.map ruleD

theorem IndexFuncS (l : List (List UInt8)) (p : (List UInt8) → Bool) (es : List Dat) (g : Nat) (c : Dat) (he : es = strs l) (hs : l.length < 9223372036854775808)
    (hp : ∀ s, s ∈ l → ASpec Try.prog g [.d (.s (.str s)), .d c] [] 0 (fun x h' fr' => x = .d (.s (.bool (p s))) ∧ h' = [] ∧ fr' = 0)) :
    ASpec Try.prog 32 [.d (.view 1 es), .fn (.func g) [] [.d c]] [] 0 (fun x h' fr' => x = .d (.s (.int .i64 (idx p l))) ∧ h' = [] ∧ fr' = 0) := by
  refine ASpec.enter Try.func32 (by kernel_rfl) rfl (Nat.le_of_ble_eq_true rfl) ?_
  intro cx hnt hfr
  obtain ⟨F, hF⟩ := real_ex
  refine AK.run hF tabOK hnt ?_
  conv => arg 4; cbv
  subst hF
  refine AKp.loop ⟨[(8, _), (7, _), (0, _), (1, _)], [], 0⟩ hfr ⟨⟨rfl, rfl⟩, ⟨rfl, rfl⟩, ⟨rfl, rfl⟩, ⟨rfl, rfl⟩, trivial⟩ trivial
    (fun n S => ∃ (i : Nat) (iv lv : Int), i + n = l.length ∧ iv = i ∧ lv = l.length ∧ (∀ j (hj : j < l.length), j < i → p l[j] = false) ∧ S = ⟨[(8, .d (.s (.int .i64 iv))), (7, .d (.s (.int .i64 lv))), (0, .d (.view 1 es)), (1, .fn (.func g) [] [.d c])], [], 0⟩)
    l.length ⟨0, _, _, by omega, rfl, ?_, fun j _ hj => absurd hj (by omega), rfl⟩ ?_
  · show ((es.length : Nat) : Int) = _
    rw [he]; simp [strs]
  rintro n S ⟨i, iv, lv, hi, hiv, hlv, hno, rfl⟩
  obtain ⟨F, hF⟩ := real_ex
  refine AK.run hF tabOK hnt ?_
  conv => arg 4; cbv
  cases hb : F .ltI iv lv
  · have hlt := ltI_f hF hb
    conv => arg 4; cbv
    refine AKp.done tabOK rfl rfl hfr ⟨?_, rfl, rfl⟩
    rw [idx_none fun j hj => hno j hj (by omega)]
  · have hlt := ltI_t hF hb
    have hil : i < l.length := by omega
    obtain ⟨y, hy⟩ : ∃ y, y = l[i] := ⟨_, rfl⟩
    have sp := hp l[i] (List.getElem_mem hil)
    rw [← hy] at sp
    have hg : F .getD es iv = some (.s (.str y)) := by rw [hF]; exact fr_getD (by rw [he]; simp [strs, hy, hil]) hiv
    conv => arg 4; cbv
    rw [hg]
    conv => arg 4; cbv
    rw [hy] at sp
    rw [hy]
    generalize hpb : p l[i] = pb at sp
    refine AK.call0 sp rfl rfl rfl (fun d hd => ?_) rfl rfl rfl ?_
    · cases hd; rw [hnt]; exact Nat.le_of_ble_eq_true rfl
    rintro x h' fr' ⟨rfl, rfl, rfl⟩
    refine AK.run hF tabOK hnt ?_
    cases pb
    · conv => arg 4; cbv
      subst hF
      refine AKp.again ⟨[(8, _), (7, _), (0, _), (1, _)], [], 0⟩ hfr ⟨⟨rfl, rfl⟩, ⟨rfl, rfl⟩, ⟨rfl, rfl⟩, ⟨rfl, rfl⟩, trivial⟩ trivial ⟨n - 1, by omega, i + 1, _, _, by omega, ?_, hlv, ?_, rfl⟩
      · show IntKind.i64.wrap (iv + 1) = _
        rw [wrap_i64 (by omega) (by omega)]
        show iv + 1 = ((i + 1 : Nat) : Int)
        omega
      · intro j hj hji
        rcases Nat.lt_or_ge j i with h | h
        · exact hno j hj h
        · obtain rfl : j = i := by omega
          exact hpb
    · conv => arg 4; cbv
      refine AKp.done tabOK rfl rfl hfr ⟨?_, rfl, rfl⟩
      rw [hiv, idx_some hil hpb fun j hj hji => hno j hj hji]


theorem ContainsFuncS (l : List (List UInt8)) (p : (List UInt8) → Bool) (es : List Dat) (g : Nat) (c : Dat) (he : es = strs l) (hs : l.length < 9223372036854775808)
    (hp : ∀ s, s ∈ l → ASpec Try.prog g [.d (.s (.str s)), .d c] [] 0 (fun x h' fr' => x = .d (.s (.bool (p s))) ∧ h' = [] ∧ fr' = 0)) :
    ASpec Try.prog 27 [.d (.view 1 es), .fn (.func g) [] [.d c]] [] 0 (fun x h' fr' => x = .d (.s (.bool (l.any p))) ∧ h' = [] ∧ fr' = 0) := by
  refine ASpec.enter Try.func27 (by kernel_rfl) rfl (Nat.le_of_ble_eq_true rfl) ?_
  intro cx hnt hfr
  obtain ⟨F, hF⟩ := real_ex
  refine AK.run hF tabOK hnt ?_
  conv => arg 4; cbv
  have sp := IndexFuncS l p es g c he hs hp
  have hn := idx_any p l
  generalize hy : idx p l = y at sp hn
  generalize hz : l.any p = z at hn ⊢
  refine AK.call0 sp rfl rfl rfl (fun d hd => ?_) rfl rfl rfl ?_
  · cases hd; rw [hnt]; exact Nat.le_of_ble_eq_true rfl
  rintro x h' fr' ⟨rfl, rfl, rfl⟩
  refine AK.run hF tabOK hnt ?_
  conv => arg 4; cbv
  refine AKp.done tabOK rfl rfl hfr ⟨?_, rfl, rfl⟩
  rw [← hn, leI_t hF]


theorem IndexFuncR (l : List RuleF) (p : RuleF → Bool) (es : List Dat) (g : Nat) (c : Dat) (he : es = ruleDs l) (hs : l.length < 9223372036854775808)
    (hp : ∀ s, s ∈ l → ASpec Try.prog g [.d (ruleD s), .d c] [] 0 (fun x h' fr' => x = .d (.s (.bool (p s))) ∧ h' = [] ∧ fr' = 0)) :
    ASpec Try.prog 25 [.d (.view 5 es), .fn (.func g) [] [.d c]] [] 0 (fun x h' fr' => x = .d (.s (.int .i64 (idx p l))) ∧ h' = [] ∧ fr' = 0) := by
  refine ASpec.enter Try.func25 (by kernel_rfl) rfl (Nat.le_of_ble_eq_true rfl) ?_
  intro cx hnt hfr
  obtain ⟨F, hF⟩ := real_ex
  refine AK.run hF tabOK hnt ?_
  conv => arg 4; cbv
  subst hF
  refine AKp.loop ⟨[(8, _), (7, _), (0, _), (1, _)], [], 0⟩ hfr ⟨⟨rfl, rfl⟩, ⟨rfl, rfl⟩, ⟨rfl, rfl⟩, ⟨rfl, rfl⟩, trivial⟩ trivial
    (fun n S => ∃ (i : Nat) (iv lv : Int), i + n = l.length ∧ iv = i ∧ lv = l.length ∧ (∀ j (hj : j < l.length), j < i → p l[j] = false) ∧ S = ⟨[(8, .d (.s (.int .i64 iv))), (7, .d (.s (.int .i64 lv))), (0, .d (.view 5 es)), (1, .fn (.func g) [] [.d c])], [], 0⟩)
    l.length ⟨0, _, _, by omega, rfl, ?_, fun j _ hj => absurd hj (by omega), rfl⟩ ?_
  · show ((es.length : Nat) : Int) = _
    rw [he]; simp [ruleDs]
  rintro n S ⟨i, iv, lv, hi, hiv, hlv, hno, rfl⟩
  obtain ⟨F, hF⟩ := real_ex
  refine AK.run hF tabOK hnt ?_
  conv => arg 4; cbv
  cases hb : F .ltI iv lv
  · have hlt := ltI_f hF hb
    conv => arg 4; cbv
    refine AKp.done tabOK rfl rfl hfr ⟨?_, rfl, rfl⟩
    rw [idx_none fun j hj => hno j hj (by omega)]
  · have hlt := ltI_t hF hb
    have hil : i < l.length := by omega
    have sp := hp l[i] (List.getElem_mem hil)
    have hg : F .getD es iv = some (ruleD l[i]) := by rw [hF]; exact fr_getD (by rw [he]; simp [ruleDs, hil]) hiv
    unfold ruleD at sp hg
    generalize strs l[i].users = e1 at sp hg
    generalize strs l[i].groups = e2 at sp hg
    generalize strs l[i].verbs = e3 at sp hg
    generalize strs l[i].resources = e4 at sp hg
    generalize strs l[i].spaces = e5 at sp hg
    conv => arg 4; cbv
    rw [hg]
    conv => arg 4; cbv
    generalize hpb : p l[i] = pb at sp
    refine AK.call0 sp rfl rfl rfl (fun d hd => ?_) rfl rfl rfl ?_
    · cases hd; rw [hnt]; exact Nat.le_of_ble_eq_true rfl
    rintro x h' fr' ⟨rfl, rfl, rfl⟩
    refine AK.run hF tabOK hnt ?_
    cases pb
    · conv => arg 4; cbv
      subst hF
      refine AKp.again ⟨[(8, _), (7, _), (0, _), (1, _)], [], 0⟩ hfr ⟨⟨rfl, rfl⟩, ⟨rfl, rfl⟩, ⟨rfl, rfl⟩, ⟨rfl, rfl⟩, trivial⟩ trivial ⟨n - 1, by omega, i + 1, _, _, by omega, ?_, hlv, ?_, rfl⟩
      · show IntKind.i64.wrap (iv + 1) = _
        rw [wrap_i64 (by omega) (by omega)]
        show iv + 1 = ((i + 1 : Nat) : Int)
        omega
      · intro j hj hji
        rcases Nat.lt_or_ge j i with h | h
        · exact hno j hj h
        · obtain rfl : j = i := by omega
          exact hpb
    · conv => arg 4; cbv
      refine AKp.done tabOK rfl rfl hfr ⟨?_, rfl, rfl⟩
      rw [hiv, idx_some hil hpb fun j hj hji => hno j hj hji]


theorem ContainsFuncR (l : List RuleF) (p : RuleF → Bool) (es : List Dat) (g : Nat) (c : Dat) (he : es = ruleDs l) (hs : l.length < 9223372036854775808)
    (hp : ∀ s, s ∈ l → ASpec Try.prog g [.d (ruleD s), .d c] [] 0 (fun x h' fr' => x = .d (.s (.bool (p s))) ∧ h' = [] ∧ fr' = 0)) :
    ASpec Try.prog 18 [.d (.view 5 es), .fn (.func g) [] [.d c]] [] 0 (fun x h' fr' => x = .d (.s (.bool (l.any p))) ∧ h' = [] ∧ fr' = 0) := by
  refine ASpec.enter Try.func18 (by kernel_rfl) rfl (Nat.le_of_ble_eq_true rfl) ?_
  intro cx hnt hfr
  obtain ⟨F, hF⟩ := real_ex
  refine AK.run hF tabOK hnt ?_
  conv => arg 4; cbv
  have sp := IndexFuncR l p es g c he hs hp
  have hn := idx_any p l
  generalize hy : idx p l = y at sp hn
  generalize hz : l.any p = z at hn ⊢
  refine AK.call0 sp rfl rfl rfl (fun d hd => ?_) rfl rfl rfl ?_
  · cases hd; rw [hnt]; exact Nat.le_of_ble_eq_true rfl
  rintro x h' fr' ⟨rfl, rfl, rfl⟩
  refine AK.run hF tabOK hnt ?_
  conv => arg 4; cbv
  refine AKp.done tabOK rfl rfl hfr ⟨?_, rfl, rfl⟩
  rw [← hn, leI_t hF]

end Go.Proofs.Ytbcpmkonajomcaa
