/- The library of this claim and its walks, part 40, joined out of smaller texts. No statement stands in it. -/
import Derived.Test.YtflpgbkdjelaaaaDoorUaM30
import Derived.Test.YtflpgbkdjelaaaaDoorUaM37
import Derived.Test.YtflpgbkdjelaaaaDoorUaM38
import Derived.Test.YtflpgbkdjelaaaaDoorUaM39
/- Are two configurations the same? (the whole) -/
namespace Go.Proofs.YtflpgbkdjelaaaaDoor
open Go Go.Proofs Go.Ua Go.Extern
set_option linter.unusedVariables false
set_option linter.unusedSimpArgs false
set_option maxRecDepth 10000

set_option maxHeartbeats 4000000 in
set_option cbv.maxSteps 10000000 in
theorem SameC_spec (a b : Cf) : ESpec Tryd.prog 14 [.d (.agg [.s (.int .i64 a.tt), .s (.int .i64 a.pe), .s (.int .i64 a.pr), .s (.int .i64 a.mo), .view 10 (lvDs a.ls), .view 5 (smDs a.ss)]), .d (.agg [.s (.int .i64 b.tt), .s (.int .i64 b.pe), .s (.int .i64 b.pr), .s (.int .i64 b.mo), .view 10 (lvDs b.ls), .view 5 (smDs b.ss)])] (fun x => x = .d (.s (.bool (sameC a b)))) := by
  obtain ⟨uSameRules, huSameRules⟩ : ∃ u : List Dat → List Dat → Bool, u = fun a b => isRl a && isRl b := ⟨_, rfl⟩
  obtain ⟨uSameRules1, huSameRules1⟩ : ∃ u : List Dat → List Dat → Bool, u = fun a b => decide (unRl a = unRl b) := ⟨_, rfl⟩
  have hG : TblOK Tryd.prog [(31, .p (φSameRules uSameRules uSameRules1))] := ⟨(by rw [huSameRules, huSameRules1]; exact φSameRules_ok), trivial⟩
  obtain ⟨Z, hZ⟩ : ∃ z, z = sameC a b := ⟨_, rfl⟩
  rw [← hZ]
  obtain ⟨a1, a2, a3, a4, ls, ss⟩ := a
  obtain ⟨b1, b2, b3, b4, ks, ts⟩ := b
  simp only
  obtain ⟨ld, hld⟩ : ∃ z, z = lvDs ls := ⟨_, rfl⟩
  obtain ⟨sd, hsd⟩ : ∃ z, z = smDs ss := ⟨_, rfl⟩
  obtain ⟨ke, hke⟩ : ∃ z, z = lvDs ks := ⟨_, rfl⟩
  obtain ⟨te, hte⟩ : ∃ z, z = smDs ts := ⟨_, rfl⟩
  rw [← hld, ← hsd, ← hke, ← hte]
  have hll : ld.length = ls.length := by rw [hld, lvDs_len]
  have hsl : sd.length = ss.length := by rw [hsd, smDs_len]
  have hkl : ke.length = ks.length := by rw [hke, lvDs_len]
  have htl : te.length = ts.length := by rw [hte, smDs_len]
  refine ESpec.enter Tryd.func14 (by kernel_rfl) rfl (Nat.le_of_ble_eq_true rfl) fun hok cx hnt hfr => ?_
  obtain ⟨F, hF⟩ := real_ex
  refine AK.runT hF tabOK hmix hnt hfr true _ hG ?_
  conv => arg 4; cbv
  repeat' (first | with_reducible (first | refine AKt.have ?_ | refine AKt.tt ?_ | refine AKt.ff ?_ | refine AKt.yes (by assumption) ?_ | refine AKt.no (by assumption) ?_ | refine AKt.node (fun hb => ?_) (fun hb => ?_) | refine AKt.need ?_ (fun hb => ?_) | refine AKt.leaf ?_) | ((with_reducible show _ = true); assumption))
  iterate 6
    · clear hok hG
      refine AKp.doneE tabOK hfr (by rfl) ?_
      show _ = _
      simp only [tupAV]
      rw [hZ]
      clear hZ
      simp only [hF, f_ltI, f_leI, f_eqI, f_eqS, f_eqB, f_not, f_andB, f_orB, f_lenS, f_lenD, f_hasS, f_atS, f_hasC, f_subS, f_hasCat, f_app, f_wrap, f_add, f_sub, f_mul, f_appD, f_fits, f_hasV, f_subV, decide_eq_true_eq, decide_eq_false_iff_not, beq_iff_eq, beq_eq_false_iff_ne, Bool.and_eq_true, Bool.and_eq_false_iff, Bool.not_eq_true, Bool.not_eq_false, Bool.not_eq_eq_eq_not, Bool.not_true, Bool.not_false] at *
      rw [hll, hkl, hsl, htl] at *
      refine congrArg (fun b => AV.d (.s (.bool b))) ?_
      show false = decide (_ = _)
      refine (decide_eq_false fun e => ?_).symm
      simp only [Cf.mk.injEq] at e
      obtain ⟨e1, e2, e3, e4, e5, e6⟩ := e
      simp_all
  have hZ2 : Z = (decide (ls = ks) && decide (ss = ts)) := by
    clear hok hG
    simp only [hF, f_ltI, f_leI, f_eqI, f_eqS, f_eqB, f_not, f_andB, f_orB, f_lenS, f_lenD, f_hasS, f_atS, f_hasC, f_subS, f_hasCat, f_app, f_wrap, f_add, f_sub, f_mul, f_appD, f_fits, f_hasV, f_subV, decide_eq_true_eq, decide_eq_false_iff_not, beq_iff_eq, beq_eq_false_iff_ne, Bool.and_eq_true, Bool.and_eq_false_iff, Bool.not_eq_true, Bool.not_eq_false, Bool.not_eq_eq_eq_not, Bool.not_true, Bool.not_false] at *
    rw [hZ, sameC, ← Bool.decide_and]
    refine decide_eq_decide.2 ?_
    simp only [Cf.mk.injEq]
    simp_all
  have el : ls.length = ks.length := by
    have h : F .not (F .eqI (F .lenD ld) (F .lenD ke)) = false := by assumption
    rw [hF, f_not, f_eqI, f_lenD, f_lenD, hll, hkl] at h
    simp at h
    omega
  have es : ss.length = ts.length := by
    have h : F .not (F .eqI (F .lenD sd) (F .lenD te)) = false := by assumption
    rw [hF, f_not, f_eqI, f_lenD, f_lenD, hsl, htl] at h
    simp at h
    omega
  have big1 : ls.length ≤ 9223372036854775807 := by
    have : ld.length ≤ maxLen := hok.1.2.2.2.2.1.1
    have e : maxLen = 9223372036854775807 := rfl
    omega
  have big2 : ss.length ≤ 9223372036854775807 := by
    have : sd.length ≤ maxLen := hok.1.2.2.2.2.2.1.1
    have e : maxLen = 9223372036854775807 := rfl
    omega
  clear hZ
  refine AKp.enterLoop 53 ?_
  conv => arg 7; cbv
  refine AKl.invT hF tabOK hmix hnt hfr true _ hG (fun n vs hs => ∃ (i : Nat) (iv : Int), i + n = ls.length ∧ iv = i ∧ ls.take i = ks.take i ∧ vs = [(5, .d (.s (.int .i64 iv)))] ∧ hs = [(0, .cs 25 [.d (.s (.int .i64 a1)), .d (.s (.int .i64 a2)), .d (.s (.int .i64 a3)), .d (.s (.int .i64 a4)), .d (.view 10 ld), .d (.view 5 sd)]), (1, .cs 25 [.d (.s (.int .i64 b1)), .d (.s (.int .i64 b2)), .d (.s (.int .i64 b3)), .d (.s (.int .i64 b4)), .d (.view 10 ke), .d (.view 5 te)])]) ls.length ⟨0, _, by omega, rfl, by rfl, rfl, rfl⟩ (by repeat (first | exact True.intro | refine ⟨⟨rfl, rfl⟩, ?_⟩)) (by repeat (first | exact True.intro | refine ⟨⟨rfl, rfl, rfl⟩, ?_⟩)) ?_
  rintro J n vs hs hJ ⟨i, iv, hi, hiv, hall, rfl, rfl⟩
  conv => arg 4; cbv
  refine AKt.node (fun hb => ?_) (fun hb => ?_)
  · have hlt : i < ls.length := by rw [hF, f_ltI, f_lenD, hll, hiv] at hb; have := of_decide_eq_true hb; omega
    obtain ⟨x, hx⟩ : ∃ x, ls[i]? = some x := ⟨_, List.getElem?_eq_getElem hlt⟩
    obtain ⟨y, hy⟩ : ∃ y, ks[i]? = some y := ⟨_, List.getElem?_eq_getElem (by omega)⟩
    have hdx : ld[i]? = some x.dat := by rw [hld]; exact lvDs_get hx
    have hdy : ke[i]? = some y.dat := by rw [hke]; exact lvDs_get hy
    have hx_ : F .hasD ld iv [.str, .int .i64, .int .i64, .int .i64, .int .i64, .int .i64, .int .i64, .int .i64, .int .i64, .int .i64] = true := t_hasD hF hdx hiv rfl
    obtain ⟨x0, hx0⟩ : ∃ z, z = x.nm := ⟨_, rfl⟩
    try rw [show F .strA ld iv 0 = x0 by rw [hx0]; exact t_strA hF hdx hiv rfl]
    obtain ⟨x1, hx1⟩ : ∃ z, z = x.kd := ⟨_, rfl⟩
    try rw [show F .intA ld iv 1 = x1 by rw [hx1]; exact t_intA hF hdx hiv rfl]
    obtain ⟨x2, hx2⟩ : ∃ z, z = x.sh := ⟨_, rfl⟩
    try rw [show F .intA ld iv 2 = x2 by rw [hx2]; exact t_intA hF hdx hiv rfl]
    obtain ⟨x3, hx3⟩ : ∃ z, z = x.ld := ⟨_, rfl⟩
    try rw [show F .intA ld iv 3 = x3 by rw [hx3]; exact t_intA hF hdx hiv rfl]
    obtain ⟨x4, hx4⟩ : ∃ z, z = x.bo := ⟨_, rfl⟩
    try rw [show F .intA ld iv 4 = x4 by rw [hx4]; exact t_intA hF hdx hiv rfl]
    obtain ⟨x5, hx5⟩ : ∃ z, z = x.qu := ⟨_, rfl⟩
    try rw [show F .intA ld iv 5 = x5 by rw [hx5]; exact t_intA hF hdx hiv rfl]
    obtain ⟨x6, hx6⟩ : ∃ z, z = x.ha := ⟨_, rfl⟩
    try rw [show F .intA ld iv 6 = x6 by rw [hx6]; exact t_intA hF hdx hiv rfl]
    obtain ⟨x7, hx7⟩ : ∃ z, z = x.le := ⟨_, rfl⟩
    try rw [show F .intA ld iv 7 = x7 by rw [hx7]; exact t_intA hF hdx hiv rfl]
    obtain ⟨x8, hx8⟩ : ∃ z, z = x.wa := ⟨_, rfl⟩
    try rw [show F .intA ld iv 8 = x8 by rw [hx8]; exact t_intA hF hdx hiv rfl]
    obtain ⟨x9, hx9⟩ : ∃ z, z = x.gu := ⟨_, rfl⟩
    try rw [show F .intA ld iv 9 = x9 by rw [hx9]; exact t_intA hF hdx hiv rfl]
    have hy_ : F .hasD ke iv [.str, .int .i64, .int .i64, .int .i64, .int .i64, .int .i64, .int .i64, .int .i64, .int .i64, .int .i64] = true := t_hasD hF hdy hiv rfl
    obtain ⟨y0, hy0⟩ : ∃ z, z = y.nm := ⟨_, rfl⟩
    try rw [show F .strA ke iv 0 = y0 by rw [hy0]; exact t_strA hF hdy hiv rfl]
    obtain ⟨y1, hy1⟩ : ∃ z, z = y.kd := ⟨_, rfl⟩
    try rw [show F .intA ke iv 1 = y1 by rw [hy1]; exact t_intA hF hdy hiv rfl]
    obtain ⟨y2, hy2⟩ : ∃ z, z = y.sh := ⟨_, rfl⟩
    try rw [show F .intA ke iv 2 = y2 by rw [hy2]; exact t_intA hF hdy hiv rfl]
    obtain ⟨y3, hy3⟩ : ∃ z, z = y.ld := ⟨_, rfl⟩
    try rw [show F .intA ke iv 3 = y3 by rw [hy3]; exact t_intA hF hdy hiv rfl]
    obtain ⟨y4, hy4⟩ : ∃ z, z = y.bo := ⟨_, rfl⟩
    try rw [show F .intA ke iv 4 = y4 by rw [hy4]; exact t_intA hF hdy hiv rfl]
    obtain ⟨y5, hy5⟩ : ∃ z, z = y.qu := ⟨_, rfl⟩
    try rw [show F .intA ke iv 5 = y5 by rw [hy5]; exact t_intA hF hdy hiv rfl]
    obtain ⟨y6, hy6⟩ : ∃ z, z = y.ha := ⟨_, rfl⟩
    try rw [show F .intA ke iv 6 = y6 by rw [hy6]; exact t_intA hF hdy hiv rfl]
    obtain ⟨y7, hy7⟩ : ∃ z, z = y.le := ⟨_, rfl⟩
    try rw [show F .intA ke iv 7 = y7 by rw [hy7]; exact t_intA hF hdy hiv rfl]
    obtain ⟨y8, hy8⟩ : ∃ z, z = y.wa := ⟨_, rfl⟩
    try rw [show F .intA ke iv 8 = y8 by rw [hy8]; exact t_intA hF hdy hiv rfl]
    obtain ⟨y9, hy9⟩ : ∃ z, z = y.gu := ⟨_, rfl⟩
    try rw [show F .intA ke iv 9 = y9 by rw [hy9]; exact t_intA hF hdy hiv rfl]
    refine AKt.need hx_ fun _ => AKt.need hy_ fun _ => ?_
    have key : F .not (F .andB (F .eqS x0 y0) (F .andB (F .eqI x1 y1) (F .andB (F .eqI x2 y2) (F .andB (F .eqI x3 y3) (F .andB (F .eqI x4 y4) (F .andB (F .eqI x5 y5) (F .andB (F .eqI x6 y6) (F .andB (F .eqI x7 y7) (F .andB (F .eqI x8 y8) (F .andB (F .eqI x9 y9) true)))))))))) = !(sameL x y) := by
      rw [hx0, hx1, hx2, hx3, hx4, hx5, hx6, hx7, hx8, hx9, hy0, hy1, hy2, hy3, hy4, hy5, hy6, hy7, hy8, hy9]
      simp only [hF, f_not, f_andB, f_eqS, f_eqI, sameL, Bool.and_true]
      refine congrArg (fun b => !b) (Bool.eq_iff_iff.2 ?_)
      simp only [Bool.and_eq_true, beq_iff_eq, decide_eq_true_eq]
    refine AKt.node (fun hc => ?_) (fun hc => ?_)
    · have : x ≠ y := fun e => by
        have h := key.symm.trans hc
        rw [sameL_iff.2 e] at h
        cases h
      repeat' (first | with_reducible (first | refine AKt.have ?_ | refine AKt.tt ?_ | refine AKt.ff ?_ | refine AKt.yes (by assumption) ?_ | refine AKt.no (by assumption) ?_ | refine AKt.node (fun hb => ?_) (fun hb => ?_) | refine AKt.need ?_ (fun hb => ?_) | refine AKt.leaf ?_) | ((with_reducible show _ = true); assumption))
      refine AKp.doneE tabOK hfr (by rfl) ?_
      show _ = _
      simp only [tupAV]
      rw [hZ2, decide_eq_false (ne_at hx hy this)]
      rfl
    · have : x = y := by
        have h := key.symm.trans hc
        refine sameL_iff.1 ?_
        cases hh : sameL x y with
        | true => rfl
        | false => rw [hh] at h; cases h
      repeat' (first | with_reducible (first | refine AKt.have ?_ | refine AKt.tt ?_ | refine AKt.ff ?_ | refine AKt.yes (by assumption) ?_ | refine AKt.no (by assumption) ?_ | refine AKt.node (fun hb => ?_) (fun hb => ?_) | refine AKt.need ?_ (fun hb => ?_) | refine AKt.leaf ?_) | ((with_reducible show _ = true); assumption))
      refine AKp.again _ hfr (by repeat (first | exact True.intro | refine ⟨⟨rfl, rfl⟩, ?_⟩)) (by repeat (first | exact True.intro | refine ⟨⟨rfl, rfl, rfl⟩, ?_⟩)) (hJ (n - 1) _ _ (by omega) ⟨i + 1, _, by omega, inc_i hF hiv (by omega), take_eq_succ hall hx hy this, rfl, rfl⟩)
  have hge : ¬ i < ls.length := by rw [hF, f_ltI, f_lenD, hll, hiv] at hb; have := of_decide_eq_false hb; omega
  rw [List.take_of_length_le (by omega), List.take_of_length_le (by omega)] at hall
  have hZ3 : Z = decide (ss = ts) := by rw [hZ2, decide_eq_true hall]; rfl
  clear hZ2 hJ J
  repeat' (first | with_reducible (first | refine AKt.have ?_ | refine AKt.tt ?_ | refine AKt.ff ?_ | refine AKt.yes (by assumption) ?_ | refine AKt.no (by assumption) ?_ | refine AKt.node (fun hb => ?_) (fun hb => ?_) | refine AKt.need ?_ (fun hb => ?_) | refine AKt.leaf ?_) | ((with_reducible show _ = true); assumption))
  refine AKp.enterLoop 71 ?_
  conv => arg 7; cbv
  refine AKl.invT hF tabOK hmix hnt hfr true _ hG (fun n vs hs => ∃ (i : Nat) (iv : Int), i + n = ss.length ∧ iv = i ∧ ss.take i = ts.take i ∧ vs = [(6, .d (.s (.int .i64 iv)))] ∧ hs = [(0, .cs 25 [.d (.s (.int .i64 a1)), .d (.s (.int .i64 a2)), .d (.s (.int .i64 a3)), .d (.s (.int .i64 a4)), .d (.view 10 ld), .d (.view 5 sd)]), (1, .cs 25 [.d (.s (.int .i64 b1)), .d (.s (.int .i64 b2)), .d (.s (.int .i64 b3)), .d (.s (.int .i64 b4)), .d (.view 10 ke), .d (.view 5 te)])]) ss.length ⟨0, _, by omega, rfl, by rfl, rfl, rfl⟩ (by repeat (first | exact True.intro | refine ⟨⟨rfl, rfl⟩, ?_⟩)) (by repeat (first | exact True.intro | refine ⟨⟨rfl, rfl, rfl⟩, ?_⟩)) ?_
  rintro J n vs hs hJ ⟨i, iv, hi, hiv, hall, rfl, rfl⟩
  conv => arg 4; cbv
  refine AKt.node (fun hb => ?_) (fun hb => ?_)
  rotate_left
  · have hge : ¬ i < ss.length := by rw [hF, f_ltI, f_lenD, hsl, hiv] at hb; have := of_decide_eq_false hb; omega
    rw [List.take_of_length_le (by omega), List.take_of_length_le (by omega)] at hall
    repeat' (first | with_reducible (first | refine AKt.have ?_ | refine AKt.tt ?_ | refine AKt.ff ?_ | refine AKt.yes (by assumption) ?_ | refine AKt.no (by assumption) ?_ | refine AKt.node (fun hb => ?_) (fun hb => ?_) | refine AKt.need ?_ (fun hb => ?_) | refine AKt.leaf ?_) | ((with_reducible show _ = true); assumption))
    refine AKp.doneE tabOK hfr (by rfl) ?_
    show _ = _
    simp only [tupAV]
    rw [hZ3, decide_eq_true hall]
  have hlt : i < ss.length := by rw [hF, f_ltI, f_lenD, hsl, hiv] at hb; have := of_decide_eq_true hb; omega
  obtain ⟨x, hx⟩ : ∃ x, ss[i]? = some x := ⟨_, List.getElem?_eq_getElem hlt⟩
  obtain ⟨y, hy⟩ : ∃ y, ts[i]? = some y := ⟨_, List.getElem?_eq_getElem (by omega)⟩
  have hdx : sd[i]? = some x.dat := by rw [hsd]; exact smDs_get hx
  have hdy : te[i]? = some y.dat := by rw [hte]; exact smDs_get hy
  have hx_ : F .hasD sd iv [.str, .str, .int .i64, .int .i64, .view 5] = true := t_hasD hF hdx hiv rfl
  obtain ⟨x0, hx0⟩ : ∃ z, z = x.nm := ⟨_, rfl⟩
  try rw [show F .strA sd iv 0 = x0 by rw [hx0]; exact t_strA hF hdx hiv rfl]
  obtain ⟨x1, hx1⟩ : ∃ z, z = x.lv := ⟨_, rfl⟩
  try rw [show F .strA sd iv 1 = x1 by rw [hx1]; exact t_strA hF hdx hiv rfl]
  obtain ⟨x2, hx2⟩ : ∃ z, z = x.rk := ⟨_, rfl⟩
  try rw [show F .intA sd iv 2 = x2 by rw [hx2]; exact t_intA hF hdx hiv rfl]
  obtain ⟨x3, hx3⟩ : ∃ z, z = x.bb := ⟨_, rfl⟩
  try rw [show F .intA sd iv 3 = x3 by rw [hx3]; exact t_intA hF hdx hiv rfl]
  obtain ⟨x4, hx4⟩ : ∃ z, z = rlDs x.rl := ⟨_, rfl⟩
  try rw [show F .viewA sd iv 4 = x4 by rw [hx4]; exact t_viewA hF hdx hiv rfl]
  have hy_ : F .hasD te iv [.str, .str, .int .i64, .int .i64, .view 5] = true := t_hasD hF hdy hiv rfl
  obtain ⟨y0, hy0⟩ : ∃ z, z = y.nm := ⟨_, rfl⟩
  try rw [show F .strA te iv 0 = y0 by rw [hy0]; exact t_strA hF hdy hiv rfl]
  obtain ⟨y1, hy1⟩ : ∃ z, z = y.lv := ⟨_, rfl⟩
  try rw [show F .strA te iv 1 = y1 by rw [hy1]; exact t_strA hF hdy hiv rfl]
  obtain ⟨y2, hy2⟩ : ∃ z, z = y.rk := ⟨_, rfl⟩
  try rw [show F .intA te iv 2 = y2 by rw [hy2]; exact t_intA hF hdy hiv rfl]
  obtain ⟨y3, hy3⟩ : ∃ z, z = y.bb := ⟨_, rfl⟩
  try rw [show F .intA te iv 3 = y3 by rw [hy3]; exact t_intA hF hdy hiv rfl]
  obtain ⟨y4, hy4⟩ : ∃ z, z = rlDs y.rl := ⟨_, rfl⟩
  try rw [show F .viewA te iv 4 = y4 by rw [hy4]; exact t_viewA hF hdy hiv rfl]
  have q0 : uSameRules x4 y4 = true := by
    rw [hx4, hy4]
    subst huSameRules huSameRules1
    show (isRl _ && isRl _) = true
    rw [is_rl, is_rl]; rfl
  have e0 : uSameRules1 x4 y4 = decide (x.rl = y.rl) := by
    rw [hx4, hy4]
    subst huSameRules huSameRules1
    show decide (unRl _ = unRl _) = _
    rw [un_rl, un_rl]
  rw [e0]
  have bad : x ≠ y → Z = false := fun h => by rw [hZ3, decide_eq_false (ne_at hx hy h)]
  refine AKt.need hx_ fun _ => AKt.need hy_ fun _ => ?_
  obtain ⟨xr, hxr⟩ : ∃ z, z = x.rl := ⟨_, rfl⟩
  obtain ⟨yr, hyr⟩ : ∃ z, z = y.rl := ⟨_, rfl⟩
  rw [← hxr, ← hyr]
  repeat' (first | with_reducible (first | refine AKt.have ?_ | refine AKt.tt ?_ | refine AKt.ff ?_ | refine AKt.yes (by assumption) ?_ | refine AKt.no (by assumption) ?_ | refine AKt.node (fun hb => ?_) (fun hb => ?_) | refine AKt.need ?_ (fun hb => ?_) | refine AKt.leaf ?_) | ((with_reducible show _ = true); assumption))
  iterate 5
    · clear hok hG hJ
      have hz : Z = false := bad fun e => by
        have k0 : x0 = y0 := by rw [hx0, hy0, e]
        have k1 : x1 = y1 := by rw [hx1, hy1, e]
        have k2 : x2 = y2 := by rw [hx2, hy2, e]
        have k3 : x3 = y3 := by rw [hx3, hy3, e]
        have k4 : xr = yr := by rw [hxr, hyr, e]
        clear hx_ hy_ hdx hdy hx hy bad
        simp only [k0, k1, k2, k3, k4] at *
        simp only [hF, f_ltI, f_leI, f_eqI, f_eqS, f_eqB, f_not, f_andB, f_orB, f_lenS, f_lenD, f_hasS, f_atS, f_hasC, f_subS, f_hasCat, f_app, f_wrap, f_add, f_sub, f_mul, f_appD, f_fits, f_hasV, f_subV, decide_eq_true_eq, decide_eq_false_iff_not, beq_iff_eq, beq_eq_false_iff_ne, Bool.and_eq_true, Bool.and_eq_false_iff, Bool.not_eq_true, Bool.not_eq_false, Bool.not_eq_eq_eq_not, Bool.not_true, Bool.not_false] at *
        simp_all
      refine AKp.doneE tabOK hfr (by rfl) ?_
      show _ = _
      simp only [tupAV]
      rw [hz]
  have heq : x = y := by
    clear hok hG hJ bad
    simp only [hF, f_ltI, f_leI, f_eqI, f_eqS, f_eqB, f_not, f_andB, f_orB, f_lenS, f_lenD, f_hasS, f_atS, f_hasC, f_subS, f_hasCat, f_app, f_wrap, f_add, f_sub, f_mul, f_appD, f_fits, f_hasV, f_subV, decide_eq_true_eq, decide_eq_false_iff_not, beq_iff_eq, beq_eq_false_iff_ne, Bool.and_eq_true, Bool.and_eq_false_iff, Bool.not_eq_true, Bool.not_eq_false, Bool.not_eq_eq_eq_not, Bool.not_true, Bool.not_false] at *
    obtain ⟨x1, x2, x3, x4, x5⟩ := x
    obtain ⟨y1, y2, y3, y4, y5⟩ := y
    simp_all
  refine AKp.again _ hfr (by repeat (first | exact True.intro | refine ⟨⟨rfl, rfl⟩, ?_⟩)) (by repeat (first | exact True.intro | refine ⟨⟨rfl, rfl, rfl⟩, ?_⟩)) (hJ (n - 1) _ _ (by omega) ⟨i + 1, _, by omega, inc_i hF hiv (by omega), take_eq_succ hall hx hy heq, rfl, rfl⟩)
theorem SameCD_spec (a b c d a2 b2 c2 d2 : Int) (ls ss ks ts : List Dat) (h : (isCf0 ls ss && isCf0 ks ts) = true) : ESpec Tryd.prog 14 [.d (.agg [.s (.int .i64 a), .s (.int .i64 b), .s (.int .i64 c), .s (.int .i64 d), .view 10 ls, .view 5 ss]), .d (.agg [.s (.int .i64 a2), .s (.int .i64 b2), .s (.int .i64 c2), .s (.int .i64 d2), .view 10 ks, .view 5 ts])] (fun x => x = .d (.s (.bool (sameC ⟨a, b, c, d, unLv ls, unSm ss⟩ ⟨a2, b2, c2, d2, unLv ks, unSm ts⟩)))) := by
  simp only [isCf0, Bool.and_eq_true] at h
  have := SameC_spec ⟨a, b, c, d, unLv ls, unSm ss⟩ ⟨a2, b2, c2, d2, unLv ks, unSm ts⟩
  simp only [lv_un h.1.1, lv_un h.2.1, sm_un h.1.2, sm_un h.2.2] at this
  exact this
def φSameCf (p : List Dat → List Dat → List Dat → List Dat → Bool) (u : Int → Int → Int → Int → List Dat → List Dat → Int → Int → Int → Int → List Dat → List Dat → Bool) : List AV → Option (Bool × AV)
  | [.d (.agg [.s (.int .i64 a), .s (.int .i64 b), .s (.int .i64 c), .s (.int .i64 d), .view 10 ls, .view 5 ss]), .d (.agg [.s (.int .i64 a2), .s (.int .i64 b2), .s (.int .i64 c2), .s (.int .i64 d2), .view 10 ks, .view 5 ts])] => some (p ls ss ks ts, .d (.s (.bool (u a b c d ls ss a2 b2 c2 d2 ks ts))))
  | _ => none
theorem φSameCf_ok : SpOK Tryd.prog 14 (φSameCf (fun ls ss ks ts => isCf0 ls ss && isCf0 ks ts) (fun a b c d ls ss a2 b2 c2 d2 ks ts => sameC ⟨a, b, c, d, unLv ls, unSm ss⟩ ⟨a2, b2, c2, d2, unLv ks, unSm ts⟩)) := by
  intro xs b x h hb
  unfold φSameCf at h
  split at h
  · simp only [Option.some.injEq, Prod.mk.injEq] at h
    obtain ⟨rfl, rfl⟩ := h
    exact SameCD_spec _ _ _ _ _ _ _ _ _ _ _ _ hb
  · cases h
end Go.Proofs.YtflpgbkdjelaaaaDoor

/- What the document calls formed, and its text: the walk. -/
namespace Go.Proofs.YtflpgbkdjelaaaaDoor
open Go Go.Proofs Go.Ua Go.Extern
set_option linter.unusedVariables false
set_option linter.unusedSimpArgs false

theorem lnB_small {c : Cf} (h : smallF c = true) : lnB c = true := by
  simp only [smallF, Bool.and_eq_true, decide_eq_true_eq] at h
  obtain ⟨h1, h2, h3, h4, h5⟩ := h
  simp only [lnB, Bool.and_eq_true, decide_eq_true_eq]
  refine ⟨by omega, by omega, ?_, ?_⟩
  · rw [List.all_eq_true] at h3 ⊢
    intro x hx
    have := of_decide_eq_true (h3 x hx)
    exact decide_eq_true (by omega)
  · rw [List.all_eq_true] at h4 ⊢
    intro x hx
    have := h4 x hx
    simp only [smB, Bool.and_eq_true, decide_eq_true_eq] at this
    simp only [Bool.and_eq_true, decide_eq_true_eq]
    omega
/-- What is read of lines has as few levels and schemas as a text may have. -/
theorem run_len : ∀ {l : List (List Wd)} {c d : Cf}, runL c l = some d → c.ls.length ≤ 16 → c.ss.length ≤ 32 → d.ls.length ≤ 16 ∧ d.ss.length ≤ 32
  | [], c, d, h, h1, h2 => by obtain rfl := Option.some.inj h; exact ⟨h1, h2⟩
  | w :: r, c, d, h, h1, h2 => by
    simp only [runL] at h
    split at h
    · rename_i he
      have hc : (linA c w).ls.length ≤ 16 ∧ (linA c w).ss.length ≤ 32 := by
        unfold linE at he
        unfold linA
        split at he
        · rename_i e; rw [if_pos e]; exact ⟨h1, h2⟩
        split at he
        · rename_i e0 e; rw [if_neg e0, if_pos e]; exact ⟨h1, h2⟩
        split at he
        · rename_i e0 e1 e; rw [if_neg e0, if_neg e1, if_pos e]; exact ⟨h1, h2⟩
        split at he
        · rename_i e0 e1 e2 e
          rw [if_neg e0, if_neg e1, if_neg e2, if_pos e]
          have := (lev_ok he).2.2
          exact ⟨by simp; omega, h2⟩
        split at he
        · rename_i e0 e1 e2 e3 e
          rw [if_neg e0, if_neg e1, if_neg e2, if_neg e3, if_pos e]
          have := (sch_ok he).2.2
          exact ⟨h1, by simp; omega⟩
        split at he
        · rename_i e0 e1 e2 e3 e4 e
          rw [if_neg e0, if_neg e1, if_neg e2, if_neg e3, if_neg e4]
          unfold rulE at he
          split at he; · cases he
          rename_i h0
          have hne : c.ss ≠ [] := fun e => h0 (.inr e)
          have hl := congrArg List.length (last_split hne)
          refine ⟨h1, ?_⟩
          simp only [addR, List.length_append, List.length_cons, List.length_nil] at hl ⊢
          omega
        · cases he
      exact run_len h hc.1 hc.2
    · cases h
theorem runL_snoc (a : List (List Wd)) (c : Cf) (w : List Wd) : runL c (a ++ [w]) = (runL c a).bind fun d => if linE d w = 0 then some (linA d w) else none := by
  rw [runL_app]
  cases runL c a with
  | none => rfl
  | some d => show runL d [w] = _; simp only [runL]; rfl
theorem runL_bad {a : List (List Wd)} {c : Cf} {w : List Wd} {b : List (List Wd)} {d : Cf} (h : runL c a = some d) (he : linE d w ≠ 0) : runL c (a ++ w :: b) = none := by
  rw [runL_app, h]
  show runL d (w :: b) = none
  rw [runL, if_neg he]
/-- A line begins with a word. -/
theorem words_ne {a : UInt8} {r : Wd} (h : a ≠ 32) : 0 < (wordsF (a :: r)).length := by
  unfold wordsF cutF
  rw [if_neg h]
  cases hc : cutF 32 r with
  | nil => simp
  | cons p ps => simp
theorem lines_ne (c : Cf) : ∀ w, w ∈ linesR c → 0 < (wordsF w).length := by
  intro w hw
  unfold linesR headR at hw
  simp only [List.mem_append, List.mem_flatten, List.mem_map] at hw
  rcases hw with (h | h | h) | ⟨x, _, rfl⟩ | ⟨l, ⟨x, _, rfl⟩, h⟩
  · split at h
    · cases h
    · obtain rfl := List.mem_singleton.1 h; exact words_ne (by decide)
  · split at h
    · cases h
    · obtain rfl := List.mem_singleton.1 h; exact words_ne (by decide)
  · split at h
    · cases h
    · obtain rfl := List.mem_singleton.1 h; exact words_ne (by decide)
  · exact words_ne (by decide)
  · rcases List.mem_cons.1 h with rfl | h
    · exact words_ne (by decide)
    · obtain ⟨r, _, rfl⟩ := List.mem_map.1 h; exact words_ne (by decide)
theorem lines_len {c : Cf} (h : smallF c = true) (hi : ∀ l, l ∈ c.ls → (l.sh ≤ 9223372036854775807 ∧ l.ld ≤ 9223372036854775807 ∧ l.bo ≤ 9223372036854775807 ∧ l.qu ≤ 9223372036854775807 ∧ l.ha ≤ 9223372036854775807 ∧ l.le ≤ 9223372036854775807 ∧ l.wa ≤ 9223372036854775807 ∧ l.gu ≤ 9223372036854775807))
    (hs : ∀ s, s ∈ c.ss → s.rk ≤ 9223372036854775807) (h1 : c.tt ≤ 9223372036854775807) (h2 : c.pe ≤ 9223372036854775807) (h3 : c.pr ≤ 9223372036854775807) (h4 : c.mo ≤ 9223372036854775807) : ∀ w, w ∈ linesR c → w.length ≤ 10000 := by
  simp only [smallF, Bool.and_eq_true, decide_eq_true_eq] at h
  obtain ⟨g1, g2, g3, g4, g5⟩ := h
  have d1 := digR_len h1
  have d2 := digR_len h2
  have d3 := digR_len h3
  have d4 := digR_len h4
  intro w hw
  unfold linesR headR at hw
  simp only [List.mem_append, List.mem_flatten, List.mem_map] at hw
  rcases hw with (h | h | h) | ⟨x, hx, rfl⟩ | ⟨l, ⟨x, hx, rfl⟩, h⟩
  · split at h
    · cases h
    · obtain rfl := List.mem_singleton.1 h; simp; omega
  · split at h
    · cases h
    · obtain rfl := List.mem_singleton.1 h; simp; omega
  · split at h
    · cases h
    · obtain rfl := List.mem_singleton.1 h; simp; omega
  · obtain ⟨a1, a2, a3, a4, a5, a6, a7, a8⟩ := hi x hx
    have b1 := digR_len a1
    have b2 := digR_len a2
    have b3 := digR_len a3
    have b4 := digR_len a4
    have b5 := digR_len a5
    have b6 := digR_len a6
    have b7 := digR_len a7
    have b8 := digR_len a8
    have bb : (borR x.bo).length ≤ 21 := by
      unfold borR
      split
      · decide
      · exact b3
    have hn := of_decide_eq_true (List.all_eq_true.1 g3 x hx)
    unfold levR limR queR
    simp only [List.length_append, List.length_cons, List.length_nil]
    split
    · simp; omega
    · split
      · simp; omega
      · split
        · simp; omega
        · simp; omega
  · have hx' := List.all_eq_true.1 g4 x hx
    simp only [smB, Bool.and_eq_true, decide_eq_true_eq] at hx'
    have b1 := digR_len (hs x hx)
    have bb : (byR x.bb).length ≤ 5 := by
      unfold byR
      split
      · decide
      · split
        · decide
        · split <;> decide
    rcases List.mem_cons.1 h with rfl | h
    · unfold schR
      simp only [List.length_append, List.length_cons, List.length_nil]
      omega
    · obtain ⟨r, _, rfl⟩ := List.mem_map.1 h
      have q1 := lisR_len r.us
      have q2 := lisR_len r.gs
      have q3 := lisR_len r.vs
      have q4 := lisR_len r.rs
      have q5 := lisR_len r.ps
      unfold rulR
      simp only [List.length_append, List.length_cons, List.length_nil]
      omega
end Go.Proofs.YtflpgbkdjelaaaaDoor

/- What print.Print tells: how long it is. -/
namespace Go.Proofs.YtflpgbkdjelaaaaDoor
open Go Go.Proofs Go.Ua Go.Extern
set_option linter.unusedVariables false
set_option linter.unusedSimpArgs false
def txtW (l : List (List Wd)) : Wd := (l.map lineT).flatten
theorem txtW_app (a b : List (List Wd)) : txtW (a ++ b) = txtW a ++ txtW b := by simp [txtW]
theorem txtW_len {N : Nat} : ∀ {l : List (List Wd)}, (∀ ws, ws ∈ l → (J32 ws).length ≤ N) → (txtW l).length ≤ l.length * (N + 1)
  | [], _ => by simp [txtW]
  | w :: r, h => by
    have ih := txtW_len (l := r) fun ws hw => h ws (List.mem_cons_of_mem _ hw)
    have h0 := h w (by simp)
    rw [show txtW (w :: r) = lineT w ++ txtW r from rfl, List.length_append, List.length_cons, Nat.add_mul, lineT, List.length_append]
    simp only [List.length_singleton]
    omega
theorem told_len {c : Cf} (h : formC c = true) {N : Nat} (hN : ∀ w, w ∈ linesR c → w.length ≤ N) : ∀ ws, ws ∈ cfW c → (J32 ws).length ≤ N := by
  intro ws hw
  refine hN _ ?_
  rw [(lines_told h).1]
  exact List.mem_map.2 ⟨ws, hw, rfl⟩
theorem told_count {c : Cf} (h : formC c = true) : (cfW c).length ≤ 307 := by
  simp only [formC, Bool.and_eq_true, decide_eq_true_eq] at h
  obtain ⟨_, _, _, _, _, z6, z7, _, z9⟩ := h
  have h1 : (headW c).length ≤ 3 := by
    unfold headW
    simp only [List.length_append]
    have : ∀ (p : Prop) [Decidable p] (x : List Wd), (if p then ([] : List (List Wd)) else [x]).length ≤ 1 := fun p _ x => by split <;> simp
    have a := this (c.tt = 0) [TOTAL, digI c.tt]
    have b := this (c.pe = 0) [PERIOD, digI c.pe]
    have d := this (c.pr = 0) [SEATS, digI c.pr, digI c.mo]
    omega
  have h2 : ∀ {l p : List Sm}, allM p l = true → ((l.map schW).flatten).length ≤ l.length * 9 := by
    intro l
    induction l with
    | nil => intro p _; simp
    | cons x r ih =>
      intro p hp
      simp only [allM, Bool.and_eq_true] at hp
      have := ih hp.2.2
      have hx := hp.1
      simp only [smOK, Bool.and_eq_true, decide_eq_true_eq] at hx
      have := hx.2.2.2.2.1
      simp only [List.map_cons, List.flatten_cons, List.length_append, List.length_cons, schW, List.length_map]
      omega
  have h3 := h2 z9
  unfold cfW
  simp only [List.length_append, List.length_map]
  omega
end Go.Proofs.YtflpgbkdjelaaaaDoor

