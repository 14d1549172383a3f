/- WordsNames: the function returns true. -/
import Derived.Test.YtialapjchamkfaaDoorUaEight17
namespace Go.Proofs.YtialapjchamkfaaDoor
open Go Go.Proofs Go.Ua Go.Extern
set_option linter.unusedVariables false
set_option linter.unusedSimpArgs false

/-- Neither a blank nor a newline. -/
def okB (c : UInt8) : Bool := !((c.toNat : Int) == 32) && !((c.toNat : Int) == 10)
theorem okB_no {w : List UInt8} (h : w.all okB = false) : ∃ c, c ∈ w ∧ (c = 32 ∨ c = 10) := by
  rw [List.all_eq_false] at h
  obtain ⟨c, hc, h⟩ := h
  refine ⟨c, hc, ?_⟩
  unfold okB at h
  by_cases h1 : (c.toNat : Int) = 32
  · exact .inl (UInt8.toNat_inj.1 (by simp; omega))
  · by_cases h2 : (c.toNat : Int) = 10
    · exact .inr (UInt8.toNat_inj.1 (by simp; omega))
    · exact absurd (by simp [h1, h2]) h

theorem WordsNames_spec (w : List UInt8) : ESpec Tryd.prog 5 [.d (.s (.str w))] (fun x => x = .d (.s (.bool true))) := by
  have sl := List_spec w
  have sn := Name_spec w
  have sw := Word_spec w
  obtain ⟨es, ok, he, h1, h2⟩ : ∃ (es : List Dat) (ok : Bool), listAV (listF w) = .tup [.d (.view 1 es), .d (.s (.bool ok))] ∧ (wordF w = true → ok = true ∧ es = [.s (.str w)]) ∧ (listF w = none → ok = false) := by
    cases hl : listF w with
    | none => exact ⟨[], false, rfl, (fun h => by rw [list_of_word h] at hl; exact absurd hl (by simp)), fun _ => rfl⟩
    | some l => exact ⟨strDs l, true, rfl, (fun h => ⟨rfl, by rw [list_of_word h] at hl; obtain rfl := Option.some.inj hl; rfl⟩), fun h => absurd h (by simp)⟩
  rw [he] at sl
  have hA : w.all okB = false → ok = false ∧ wordF w = false ∧ nameF w = false := fun h => by
    obtain ⟨c, hc, hcc⟩ := okB_no h
    have hw := wordF_no hc (.inr hcc)
    refine ⟨h2 (list_no hc hcc), hw, ?_⟩
    cases hn : nameF w
    · rfl
    · rw [word_of_name hn] at hw; cases hw
  have hN : nameF w = true → wordF w = true := word_of_name
  clear he h2
  obtain ⟨wd, hwd⟩ : ∃ z, z = wordF w := ⟨_, rfl⟩
  obtain ⟨nm, hnm⟩ : ∃ z, z = nameF w := ⟨_, rfl⟩
  rw [← hwd] at sw h1 hA hN
  rw [← hnm] at sn hA hN
  clear hwd hnm
  refine ESpec.enter Tryd.func5 (by kernel_rfl) rfl (Nat.le_of_ble_eq_true rfl) fun hok cx hnt hfr => ?_
  have hwl : w.length ≤ maxLen := hok.1
  have hm : maxLen = 9223372036854775807 := by decide
  obtain ⟨F, hF⟩ := real_ex
  refine AK.run hF tabOK hnt ?_
  conv => arg 4; cbv
  refine AKp.call hF tabOK hnt awake_spec rfl rfl rfl rfl rfl rfl rfl (by repeat' first | exact .refl _ | constructor) ?_
  rintro _ rfl
  conv => arg 4; cbv
  rw [l_not1 hF]
  conv => arg 4; cbv
  cases hb0 : F .ltI 16384 (F .lenS w)
  case' true =>
    conv => arg 4; cbv
    exact AKp.doneE tabOK hfr (by rfl) (by rfl)
  case' false =>
  conv => arg 4; cbv
  refine AKp.call hF tabOK hnt sl rfl rfl rfl rfl rfl rfl rfl (by repeat' first | exact .refl _ | constructor) ?_
  rintro _ rfl
  conv => arg 4; cbv
  refine AKp.call hF tabOK hnt sn rfl rfl rfl rfl rfl rfl rfl (by repeat' first | exact .refl _ | constructor) ?_
  rintro _ rfl
  conv => arg 4; cbv
  cases wd
  case' false =>
    cases nm
    case' true => exact absurd (hN rfl) (by decide)
    case' false =>
      conv => arg 4; cbv
      refine AKp.call hF tabOK hnt sw rfl rfl rfl rfl rfl rfl rfl (by repeat' first | exact .refl _ | constructor) ?_
      rintro _ rfl
      conv => arg 4; cbv
  case' true =>
    obtain ⟨rfl, rfl⟩ := h1 rfl
    cases nm
    case' true =>
      conv => arg 4; cbv
      refine AKp.call hF tabOK hnt sw rfl rfl rfl rfl rfl rfl rfl (by repeat' first | exact .refl _ | constructor) ?_
      rintro _ rfl
      conv => arg 4; cbv
      rw [l_not1 hF]
    all_goals
      conv => arg 4; cbv
      refine AKp.call hF tabOK hnt sw rfl rfl rfl rfl rfl rfl rfl (by repeat' first | exact .refl _ | constructor) ?_
      rintro _ rfl
      conv => arg 4; cbv
      rw [l_not1 hF]
      conv => arg 4; cbv
      rw [show F .eqI (F .lenD [.s (.str w)]) 1 = true by rw [hF]; rfl, l_not1 hF]
      conv => arg 4; cbv
      rw [show F .getD [.s (.str w)] 0 = some (.s (.str w)) from l_getD hF (i := 0) rfl rfl]
      conv => arg 4; cbv
      rw [show F .eqS w w = true by rw [l_eqS hF]; simp, l_not1 hF]
  all_goals
    conv => arg 4; cbv
    refine AKp.enterLoop 5 ?_
    conv => arg 7; cbv
    refine AKl.inv hF tabOK hnt hfr (fun n vs hs => ∃ (i : Nat) (iv : Int) (pb : Bool), i + n = w.length ∧ iv = i ∧ pb = (w.take i).all okB ∧ vs = [(6, .d (.s (.int .i64 iv))), (5, .d (.s (.bool pb)))] ∧ hs = []) w.length
      ⟨0, _, true, by omega, rfl, by simp, rfl, rfl⟩ (by repeat (first | exact True.intro | refine ⟨⟨rfl, rfl⟩, ?_⟩)) (by repeat (first | exact True.intro | refine ⟨⟨rfl, rfl, rfl⟩, ?_⟩)) ?_
    rintro J n vs hs hJ ⟨i, iv, pb, hi, hiv, hpb, rfl, rfl⟩
    conv => arg 4; cbv
    cases hb : F .ltI iv (F .lenS w)
    case' false =>
      have hlt := ltI0 hF hb
      rw [l_lenS hF] at hlt
      rw [List.take_of_length_le (by omega)] at hpb
      rw [← hpb] at hA
      conv => arg 4; cbv
      cases pb
      case' true =>
        conv => arg 4; cbv
        exact AKp.doneE tabOK hfr (by rfl) (by rfl)
      case' false =>
        first
          | exact absurd (hA rfl).2.1 (by decide)
          | (obtain ⟨rfl, _, _⟩ := hA rfl
             conv => arg 4; cbv
             rw [l_not0 hF]
             conv => arg 4; cbv
             refine AKp.call hF tabOK hnt sw rfl rfl rfl rfl rfl rfl rfl (by repeat' first | exact .refl _ | constructor) ?_
             rintro _ rfl
             conv => arg 4; cbv
             rw [l_not0 hF]
             conv => arg 4; cbv
             refine AKp.call hF tabOK hnt sn rfl rfl rfl rfl rfl rfl rfl (by repeat' first | exact .refl _ | constructor) ?_
             rintro _ rfl
             conv => arg 4; cbv
             rw [l_not0 hF]
             conv => arg 4; cbv
             exact AKp.doneE tabOK hfr (by rfl) (by rfl))
    case' true =>
      have hlt := ltI1 hF hb
      rw [l_lenS hF] at hlt
      have hil : i < w.length := by omega
      obtain ⟨c, hc⟩ : ∃ c, w[i]? = some c := ⟨_, List.getElem?_eq_getElem hil⟩
      have hg := l_getS hF hc hiv
      have htk : (w.take (i + 1)).all okB = (pb && okB c) := by rw [List.take_add_one, hc, hpb]; simp
      rw [show okB c = (!((c.toNat : Int) == 32) && !((c.toNat : Int) == 10)) from rfl] at htk
      obtain ⟨cv, hcv⟩ : ∃ z : Int, z = c.toNat := ⟨_, rfl⟩
      rw [← hcv] at hg htk
      have fin : ∀ q : Bool, q = (w.take (i + 1)).all okB → ∃ (i' : Nat) (iv' : Int) (pb' : Bool), i' + (n - 1) = w.length ∧ iv' = i' ∧ pb' = (w.take i').all okB ∧ [(6, AV.d (.s (.int .i64 (F .wrap .i64 (F .add iv 1))))), (5, .d (.s (.bool q)))] = [(6, AV.d (.s (.int .i64 iv'))), (5, .d (.s (.bool pb')))] ∧ ([] : List (Nat × Blk)) = [] :=
        fun q hq => ⟨i + 1, _, q, by omega, inc_i hF hiv (by omega), hq, rfl, rfl⟩
      conv => arg 4; cbv
      cases pb
      case' false =>
        conv => arg 4; cbv
        exact AKp.again _ hfr (by repeat (first | exact True.intro | refine ⟨⟨rfl, rfl⟩, ?_⟩)) (by repeat (first | exact True.intro | refine ⟨⟨rfl, rfl, rfl⟩, ?_⟩)) (hJ (n - 1) _ _ (by omega) (fin false (by rw [htk]; rfl)))
      case' true =>
        conv => arg 4; cbv
        rw [hg]
        conv => arg 4; cbv
        cases h5 : F .eqI cv 32
        case' true =>
          rw [l_not1 hF]
          conv => arg 4; cbv
          exact AKp.again _ hfr (by repeat (first | exact True.intro | refine ⟨⟨rfl, rfl⟩, ?_⟩)) (by repeat (first | exact True.intro | refine ⟨⟨rfl, rfl, rfl⟩, ?_⟩)) (hJ (n - 1) _ _ (by omega) (fin false (by rw [htk, eqI1 hF h5]; rfl)))
        case' false =>
          rw [l_not0 hF]
          conv => arg 4; cbv
          rw [hg]
          conv => arg 4; cbv
          exact AKp.again _ hfr (by repeat (first | exact True.intro | refine ⟨⟨rfl, rfl⟩, ?_⟩)) (by repeat (first | exact True.intro | refine ⟨⟨rfl, rfl, rfl⟩, ?_⟩)) (hJ (n - 1) _ _ (by omega) (fin (F .not (F .eqI cv 10)) (by
            have e5 := eqI0 hF h5
            rw [htk, l_not hF, l_eqI hF]
            simp [e5])))
theorem typed_str {f : Nat} {l : List Dat} (h : typed tab (f + 1) 9 l) : ∃ s, l = [.s (.str s)] := by
  obtain ⟨s, rfl, _⟩ := h
  exact ⟨s, rfl⟩
end Go.Proofs.YtialapjchamkfaaDoor
