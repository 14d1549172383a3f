/- The library of this claim and its walks, part 22, joined out of smaller texts. No statement stands in it. -/
import Derived.Test.YtflpgbkdjelaaaaDoorUaM21
/- Numbers. -/
namespace Go.Proofs.YtflpgbkdjelaaaaDoor
open Go Go.Proofs Go.Ua Go.Extern
set_option linter.unusedVariables false
set_option linter.unusedSimpArgs false

def digB (c : UInt8) : Bool := digitN c.toNat
def valN (w : List UInt8) : Nat := w.foldl (fun n c => 10 * n + (c.toNat - 48)) 0
/-- It has a number's form. -/
def numForm (w : List UInt8) : Bool := decide (1 ≤ w.length) && decide (w.length ≤ 9) && !(decide (1 < w.length) && decide (w[0]? = some 48)) && w.all digB
def numberF (w : List UInt8) (least most : Int) : Option Int := if numForm w = true ∧ least ≤ (valN w : Int) ∧ (valN w : Int) ≤ most then some (valN w : Int) else none
def optAV : Option Int → AV
  | some n => .tup [.d (.s (.int .i64 n)), .d (.s (.bool true))]
  | none => .tup [.d (.s (.int .i64 0)), .d (.s (.bool false))]

theorem valN_take {w : List UInt8} {i : Nat} {c : UInt8} (h : w[i]? = some c) : valN (w.take (i + 1)) = 10 * valN (w.take i) + (c.toNat - 48) := by
  rw [List.take_add_one, h]
  simp [valN, List.foldl_append]
theorem digB_le {c : UInt8} (h : digB c = true) : 48 ≤ c.toNat ∧ c.toNat ≤ 57 := by
  unfold digB digitN at h
  simp only [Bool.and_eq_true, decide_eq_true_eq] at h
  omega
theorem valN_lt {w : List UInt8} : ∀ (i : Nat), i ≤ w.length → (w.take i).all digB = true → valN (w.take i) < 10 ^ i := by
  intro i
  induction i with
  | zero => intro _ _; simp [valN]
  | succ i ih =>
    intro hi hall
    obtain ⟨c, hc⟩ : ∃ c, w[i]? = some c := ⟨_, List.getElem?_eq_getElem (by omega)⟩
    rw [List.take_add_one, hc] at hall
    simp only [Option.toList_some, List.all_append, Bool.and_eq_true, List.all_cons, List.all_nil, Bool.and_true] at hall
    have := ih (by omega) hall.1
    have h2 := digB_le hall.2
    rw [valN_take hc, Nat.pow_succ]
    omega

theorem Number_spec (w : List UInt8) (least most : Int) : ESpec Tryd.prog 73 [.d (.s (.str w)), .d (.s (.int .i64 least)), .d (.s (.int .i64 most))] (fun x => x = optAV (numberF w least most)) := by
  obtain ⟨z, hz⟩ : ∃ z, z = optAV (numberF w least most) := ⟨_, rfl⟩
  rw [← hz]
  refine ESpec.enter Tryd.func73 (by kernel_rfl) rfl (Nat.le_of_ble_eq_true rfl) fun hok cx hnt hfr => ?_
  have hwl : w.length ≤ maxLen := hok.1
  have hm : maxLen = 9223372036854775807 := by decide
  have bad : numForm w = false → z = .tup [.d (.s (.int .i64 0)), .d (.s (.bool false))] := fun h => by rw [hz, numberF, if_neg (by rw [h]; simp)]; rfl
  obtain ⟨F, hF⟩ := real_ex
  refine AK.run hF tabOK hnt ?_
  conv => arg 4; cbv
  cases h1 : F .ltI (F .lenS w) 1
  case' true =>
    have h1' := ltI1 hF h1
    rw [l_lenS hF] at h1'
    conv => arg 4; cbv
    rw [bad (by unfold numForm; rw [decide_eq_false (show ¬ 1 ≤ w.length by omega)]; rfl)]
    exact AKp.doneE tabOK hfr (by rfl) (by rfl)
  case' false =>
  have h1' := ltI0 hF h1
  rw [l_lenS hF] at h1'
  conv => arg 4; cbv
  cases h2 : F .ltI 9 (F .lenS w)
  case' true =>
    have h2' := ltI1 hF h2
    rw [l_lenS hF] at h2'
    conv => arg 4; cbv
    rw [bad (by unfold numForm; rw [decide_eq_false (show ¬ w.length ≤ 9 by omega)]; simp)]
    exact AKp.doneE tabOK hfr (by rfl) (by rfl)
  case' false =>
  have h2' := ltI0 hF h2
  rw [l_lenS hF] at h2'
  obtain ⟨c0, hc0⟩ : ∃ c, w[0]? = some c := ⟨_, List.getElem?_eq_getElem (by omega)⟩
  have hg0 := l_getS hF (iv := 0) hc0 rfl
  obtain ⟨c0v, hc0v⟩ : ∃ z : Int, z = c0.toNat := ⟨_, rfl⟩
  rw [← hc0v] at hg0
  conv => arg 4; cbv
  -- the first byte
  have lead : ¬ (1 < w.length ∧ w[0]? = some 48) → numForm w = w.all digB := by
    intro h
    unfold numForm
    rw [decide_eq_true (show 1 ≤ w.length by omega), decide_eq_true (show w.length ≤ 9 by omega)]
    have : (decide (1 < w.length) && decide (w[0]? = some 48)) = false := by
      rw [← Bool.decide_and]; exact decide_eq_false h
    rw [this]; simp
  cases h3 : F .ltI 1 (F .lenS w)
  case' true =>
    have h3' := ltI1 hF h3
    rw [l_lenS hF] at h3'
    conv => arg 4; cbv
    rw [hg0]
    conv => arg 4; cbv
    cases h4 : F .eqI c0v 48
    case' true =>
      have h4' := eqI1 hF h4
      conv => arg 4; cbv
      rw [bad (by
        unfold numForm
        have e : c0 = 48 := UInt8.toNat_inj.1 (by rw [hc0v] at h4'; simp; omega)
        rw [hc0, e, decide_eq_true (show 1 < w.length by omega)]; simp)]
      exact AKp.doneE tabOK hfr (by rfl) (by rfl)
    case' false =>
    have h4' := eqI0 hF h4
    have hlead := lead (by
      rintro ⟨_, h⟩
      rw [hc0] at h
      cases h
      exact h4' (by rw [hc0v]; rfl))
  case' false =>
    have h3' := ltI0 hF h3
    rw [l_lenS hF] at h3'
    have hlead := lead (by rintro ⟨h, _⟩; omega)
  all_goals
    conv => arg 4; cbv
    refine AKp.enterLoop 30 ?_
    conv => arg 7; cbv
    refine AKl.inv hF tabOK hnt hfr (fun n vs hs => ∃ (i : Nat) (iv nv : Int), i + n = w.length ∧ iv = i ∧ nv = (valN (w.take i) : Nat) ∧ (w.take i).all digB = true ∧ vs = [(30, .d (.s (.int .i64 iv))), (8, .d (.s (.int .i64 nv)))] ∧ hs = []) w.length
      ⟨0, _, 0, by omega, rfl, by simp [valN], by simp, rfl, rfl⟩ (by repeat (first | exact True.intro | refine ⟨⟨rfl, rfl⟩, ?_⟩)) (by repeat (first | exact True.intro | refine ⟨⟨rfl, rfl, rfl⟩, ?_⟩)) ?_
    rintro J n vs hs hJ ⟨i, iv, nv, hi, hiv, hnv, hall, rfl, rfl⟩
    have hvl := valN_lt i (by omega) hall
    have hp9 : 10 ^ i ≤ 10 ^ 9 := Nat.pow_le_pow_right (by decide) (by omega)
    conv => arg 4; cbv
    cases hb : F .ltI iv (F .lenS w)
    case' false =>
      have hlt := ltI0 hF hb
      rw [l_lenS hF] at hlt
      have htk : w.take i = w := List.take_of_length_le (by omega)
      rw [htk] at hnv hall
      rw [hall] at hlead
      conv => arg 4; cbv
      cases h5 : F .ltI nv least
      case' true =>
        have h5' := ltI1 hF h5
        conv => arg 4; cbv
        rw [show z = .tup [.d (.s (.int .i64 0)), .d (.s (.bool false))] by rw [hz, numberF, if_neg (by rintro ⟨_, h, _⟩; omega)]; rfl]
        exact AKp.doneE tabOK hfr (by rfl) (by rfl)
      case' false =>
      have h5' := ltI0 hF h5
      conv => arg 4; cbv
      cases h6 : F .ltI most nv
      case' true =>
        have h6' := ltI1 hF h6
        conv => arg 4; cbv
        rw [show z = .tup [.d (.s (.int .i64 0)), .d (.s (.bool false))] by rw [hz, numberF, if_neg (by rintro ⟨_, _, h⟩; omega)]; rfl]
        exact AKp.doneE tabOK hfr (by rfl) (by rfl)
      case' false =>
      have h6' := ltI0 hF h6
      conv => arg 4; cbv
      rw [show z = .tup [.d (.s (.int .i64 nv)), .d (.s (.bool true))] by rw [hz, numberF, if_pos ⟨hlead, by omega, by omega⟩, ← hnv]; rfl]
      exact AKp.doneE tabOK hfr (by rfl) (by rfl)
    case' true =>
      have hlt := ltI1 hF hb
      rw [l_lenS hF] at hlt
      have hil : i < w.length := by omega
      obtain ⟨c, hc⟩ : ∃ c, w[i]? = some c := ⟨_, List.getElem?_eq_getElem hil⟩
      have hg := l_getS hF hc hiv
      have hvt := valN_take hc
      have hend : digB c = false → numForm w = false := fun h => by rw [hlead]; exact all_false hc h
      have hnext : digB c = true → (w.take (i + 1)).all digB = true := fun h => all_take_succ hc hall h
      unfold digB digitN at hend hnext
      obtain ⟨cv, hcv⟩ : ∃ z : Int, z = c.toNat := ⟨_, rfl⟩
      rw [← hcv] at hg hend hnext
      conv => arg 4; cbv
      rw [hg]
      conv => arg 4; cbv
      cases h5 : F .ltI cv 48
      case' true =>
        have h5' := ltI1 hF h5
        conv => arg 4; cbv
        rw [bad (hend (by rw [decide_eq_false (show ¬ 48 ≤ cv by omega)]; rfl))]
        exact AKp.doneE tabOK hfr (by rfl) (by rfl)
      case' false =>
      have h5' := ltI0 hF h5
      conv => arg 4; cbv
      rw [hg]
      conv => arg 4; cbv
      cases h6 : F .ltI 57 cv
      case' true =>
        have h6' := ltI1 hF h6
        conv => arg 4; cbv
        rw [bad (hend (by rw [decide_eq_false (show ¬ cv ≤ 57 by omega)]; simp))]
        exact AKp.doneE tabOK hfr (by rfl) (by rfl)
      case' false =>
      have h6' := ltI0 hF h6
      conv => arg 4; cbv
      rw [hg]
      conv => arg 4; cbv
      refine AKp.again _ hfr (by repeat (first | exact True.intro | refine ⟨⟨rfl, rfl⟩, ?_⟩)) (by repeat (first | exact True.intro | refine ⟨⟨rfl, rfl, rfl⟩, ?_⟩)) (hJ (n - 1) _ _ (by omega) ⟨i + 1, _, _, by omega, inc_i hF hiv (by omega), ?_, hnext (by rw [decide_eq_true (show 48 ≤ cv by omega), decide_eq_true (show cv ≤ 57 by omega)]; rfl), rfl, rfl⟩)
      rw [hvt, hF]
      show IntKind.i64.wrap (IntKind.i64.wrap (10 * nv) + IntKind.i64.wrap (IntKind.u8.wrap (cv - 48))) = _
      have hcv2 : cv ≤ 57 := by omega
      rw [w_u8 (by omega) (by omega), w_i64 (n := cv - 48) (by omega) (by omega), w_i64 (n := 10 * nv) (by omega) (by omega), w_i64 (by omega) (by omega)]
      omega
end Go.Proofs.YtflpgbkdjelaaaaDoor

