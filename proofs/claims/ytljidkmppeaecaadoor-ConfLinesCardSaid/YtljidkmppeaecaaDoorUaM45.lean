/- The library of this claim and its walks, part 45, joined out of smaller texts. No statement stands in it. -/
import Derived.Test.YtljidkmppeaecaaDoorUaM39
import Derived.Test.YtljidkmppeaecaaDoorUaM44
/- Are two configurations the same? (the whole) -/
namespace Go.Proofs.YtljidkmppeaecaaDoor
open Go Go.Proofs Go.Ua Go.Extern
set_option linter.unusedVariables false
set_option linter.unusedSimpArgs false
set_option maxRecDepth 10000

set_option maxHeartbeats 4000000 in
set_option cbv.maxSteps 10000000 in
theorem SameC_spec (a b : Cf) : ESpec Tryd.prog 10 [.d (.agg [.s (.int .i64 a.tt), .s (.int .i64 a.pe), .s (.int .i64 a.pr), .s (.int .i64 a.mo), .view 10 (lvDs a.ls), .view 5 (smDs a.ss)]), .d (.agg [.s (.int .i64 b.tt), .s (.int .i64 b.pe), .s (.int .i64 b.pr), .s (.int .i64 b.mo), .view 10 (lvDs b.ls), .view 5 (smDs b.ss)])] (fun x => x = .d (.s (.bool (sameC a b)))) := by
  obtain ⟨uSameRules, huSameRules⟩ : ∃ u : List Dat → List Dat → Bool, u = fun a b => isRl a && isRl b := ⟨_, rfl⟩
  obtain ⟨uSameRules1, huSameRules1⟩ : ∃ u : List Dat → List Dat → Bool, u = fun a b => decide (unRl a = unRl b) := ⟨_, rfl⟩
  have hG : TblOK Tryd.prog [(22, .p (φSameRules uSameRules uSameRules1))] := ⟨(by rw [huSameRules, huSameRules1]; exact φSameRules_ok), trivial⟩
  obtain ⟨Z, hZ⟩ : ∃ z, z = sameC a b := ⟨_, rfl⟩
  rw [← hZ]
  obtain ⟨a1, a2, a3, a4, ls, ss⟩ := a
  obtain ⟨b1, b2, b3, b4, ks, ts⟩ := b
  simp only
  obtain ⟨ld, hld⟩ : ∃ z, z = lvDs ls := ⟨_, rfl⟩
  obtain ⟨sd, hsd⟩ : ∃ z, z = smDs ss := ⟨_, rfl⟩
  obtain ⟨ke, hke⟩ : ∃ z, z = lvDs ks := ⟨_, rfl⟩
  obtain ⟨te, hte⟩ : ∃ z, z = smDs ts := ⟨_, rfl⟩
  rw [← hld, ← hsd, ← hke, ← hte]
  have hll : ld.length = ls.length := by rw [hld, lvDs_len]
  have hsl : sd.length = ss.length := by rw [hsd, smDs_len]
  have hkl : ke.length = ks.length := by rw [hke, lvDs_len]
  have htl : te.length = ts.length := by rw [hte, smDs_len]
  refine ESpec.enter Tryd.func10 (by kernel_rfl) rfl (Nat.le_of_ble_eq_true rfl) fun hok cx hnt hfr => ?_
  obtain ⟨F, hF⟩ := real_ex
  refine AK.runT hF tabOK hmix hnt hfr true _ hG ?_
  conv => arg 4; cbv
  repeat' (first | with_reducible (first | refine AKt.have ?_ | refine AKt.tt ?_ | refine AKt.ff ?_ | refine AKt.yes (by assumption) ?_ | refine AKt.no (by assumption) ?_ | refine AKt.node (fun hb => ?_) (fun hb => ?_) | refine AKt.need ?_ (fun hb => ?_) | refine AKt.leaf ?_) | ((with_reducible show _ = true); assumption))
  iterate 6
    · clear hok hG
      refine AKp.doneE tabOK hfr (by rfl) ?_
      show _ = _
      simp only [tupAV]
      rw [hZ]
      clear hZ
      simp only [hF, f_ltI, f_leI, f_eqI, f_eqS, f_eqB, f_not, f_andB, f_orB, f_lenS, f_lenD, f_hasS, f_atS, f_hasC, f_subS, f_hasCat, f_app, f_wrap, f_add, f_sub, f_mul, f_appD, f_fits, f_hasV, f_subV, decide_eq_true_eq, decide_eq_false_iff_not, beq_iff_eq, beq_eq_false_iff_ne, Bool.and_eq_true, Bool.and_eq_false_iff, Bool.not_eq_true, Bool.not_eq_false, Bool.not_eq_eq_eq_not, Bool.not_true, Bool.not_false] at *
      rw [hll, hkl, hsl, htl] at *
      refine congrArg (fun b => AV.d (.s (.bool b))) ?_
      show false = decide (_ = _)
      refine (decide_eq_false fun e => ?_).symm
      simp only [Cf.mk.injEq] at e
      obtain ⟨e1, e2, e3, e4, e5, e6⟩ := e
      simp_all
  have hZ2 : Z = (decide (ls = ks) && decide (ss = ts)) := by
    clear hok hG
    simp only [hF, f_ltI, f_leI, f_eqI, f_eqS, f_eqB, f_not, f_andB, f_orB, f_lenS, f_lenD, f_hasS, f_atS, f_hasC, f_subS, f_hasCat, f_app, f_wrap, f_add, f_sub, f_mul, f_appD, f_fits, f_hasV, f_subV, decide_eq_true_eq, decide_eq_false_iff_not, beq_iff_eq, beq_eq_false_iff_ne, Bool.and_eq_true, Bool.and_eq_false_iff, Bool.not_eq_true, Bool.not_eq_false, Bool.not_eq_eq_eq_not, Bool.not_true, Bool.not_false] at *
    rw [hZ, sameC, ← Bool.decide_and]
    refine decide_eq_decide.2 ?_
    simp only [Cf.mk.injEq]
    simp_all
  have el : ls.length = ks.length := by
    have h : F .not (F .eqI (F .lenD ld) (F .lenD ke)) = false := by assumption
    rw [hF, f_not, f_eqI, f_lenD, f_lenD, hll, hkl] at h
    simp at h
    omega
  have es : ss.length = ts.length := by
    have h : F .not (F .eqI (F .lenD sd) (F .lenD te)) = false := by assumption
    rw [hF, f_not, f_eqI, f_lenD, f_lenD, hsl, htl] at h
    simp at h
    omega
  have big1 : ls.length ≤ 9223372036854775807 := by
    have : ld.length ≤ maxLen := hok.1.2.2.2.2.1.1
    have e : maxLen = 9223372036854775807 := rfl
    omega
  have big2 : ss.length ≤ 9223372036854775807 := by
    have : sd.length ≤ maxLen := hok.1.2.2.2.2.2.1.1
    have e : maxLen = 9223372036854775807 := rfl
    omega
  clear hZ
  refine AKp.enterLoop 53 ?_
  conv => arg 7; cbv
  refine AKl.invT hF tabOK hmix hnt hfr true _ hG (fun n vs hs => ∃ (i : Nat) (iv : Int), i + n = ls.length ∧ iv = i ∧ ls.take i = ks.take i ∧ vs = [(5, .d (.s (.int .i64 iv)))] ∧ hs = [(0, .cs 26 [.d (.s (.int .i64 a1)), .d (.s (.int .i64 a2)), .d (.s (.int .i64 a3)), .d (.s (.int .i64 a4)), .d (.view 10 ld), .d (.view 5 sd)]), (1, .cs 26 [.d (.s (.int .i64 b1)), .d (.s (.int .i64 b2)), .d (.s (.int .i64 b3)), .d (.s (.int .i64 b4)), .d (.view 10 ke), .d (.view 5 te)])]) ls.length ⟨0, _, by omega, rfl, by rfl, rfl, rfl⟩ (by repeat (first | exact True.intro | refine ⟨⟨rfl, rfl⟩, ?_⟩)) (by repeat (first | exact True.intro | refine ⟨⟨rfl, rfl, rfl⟩, ?_⟩)) ?_
  rintro J n vs hs hJ ⟨i, iv, hi, hiv, hall, rfl, rfl⟩
  conv => arg 4; cbv
  refine AKt.node (fun hb => ?_) (fun hb => ?_)
  · have hlt : i < ls.length := by rw [hF, f_ltI, f_lenD, hll, hiv] at hb; have := of_decide_eq_true hb; omega
    obtain ⟨x, hx⟩ : ∃ x, ls[i]? = some x := ⟨_, List.getElem?_eq_getElem hlt⟩
    obtain ⟨y, hy⟩ : ∃ y, ks[i]? = some y := ⟨_, List.getElem?_eq_getElem (by omega)⟩
    have hdx : ld[i]? = some x.dat := by rw [hld]; exact lvDs_get hx
    have hdy : ke[i]? = some y.dat := by rw [hke]; exact lvDs_get hy
    have hx_ : F .hasD ld iv [.str, .int .i64, .int .i64, .int .i64, .int .i64, .int .i64, .int .i64, .int .i64, .int .i64, .int .i64] = true := t_hasD hF hdx hiv rfl
    obtain ⟨x0, hx0⟩ : ∃ z, z = x.nm := ⟨_, rfl⟩
    try rw [show F .strA ld iv 0 = x0 by rw [hx0]; exact t_strA hF hdx hiv rfl]
    obtain ⟨x1, hx1⟩ : ∃ z, z = x.kd := ⟨_, rfl⟩
    try rw [show F .intA ld iv 1 = x1 by rw [hx1]; exact t_intA hF hdx hiv rfl]
    obtain ⟨x2, hx2⟩ : ∃ z, z = x.sh := ⟨_, rfl⟩
    try rw [show F .intA ld iv 2 = x2 by rw [hx2]; exact t_intA hF hdx hiv rfl]
    obtain ⟨x3, hx3⟩ : ∃ z, z = x.ld := ⟨_, rfl⟩
    try rw [show F .intA ld iv 3 = x3 by rw [hx3]; exact t_intA hF hdx hiv rfl]
    obtain ⟨x4, hx4⟩ : ∃ z, z = x.bo := ⟨_, rfl⟩
    try rw [show F .intA ld iv 4 = x4 by rw [hx4]; exact t_intA hF hdx hiv rfl]
    obtain ⟨x5, hx5⟩ : ∃ z, z = x.qu := ⟨_, rfl⟩
    try rw [show F .intA ld iv 5 = x5 by rw [hx5]; exact t_intA hF hdx hiv rfl]
    obtain ⟨x6, hx6⟩ : ∃ z, z = x.ha := ⟨_, rfl⟩
    try rw [show F .intA ld iv 6 = x6 by rw [hx6]; exact t_intA hF hdx hiv rfl]
    obtain ⟨x7, hx7⟩ : ∃ z, z = x.le := ⟨_, rfl⟩
    try rw [show F .intA ld iv 7 = x7 by rw [hx7]; exact t_intA hF hdx hiv rfl]
    obtain ⟨x8, hx8⟩ : ∃ z, z = x.wa := ⟨_, rfl⟩
    try rw [show F .intA ld iv 8 = x8 by rw [hx8]; exact t_intA hF hdx hiv rfl]
    obtain ⟨x9, hx9⟩ : ∃ z, z = x.gu := ⟨_, rfl⟩
    try rw [show F .intA ld iv 9 = x9 by rw [hx9]; exact t_intA hF hdx hiv rfl]
    have hy_ : F .hasD ke iv [.str, .int .i64, .int .i64, .int .i64, .int .i64, .int .i64, .int .i64, .int .i64, .int .i64, .int .i64] = true := t_hasD hF hdy hiv rfl
    obtain ⟨y0, hy0⟩ : ∃ z, z = y.nm := ⟨_, rfl⟩
    try rw [show F .strA ke iv 0 = y0 by rw [hy0]; exact t_strA hF hdy hiv rfl]
    obtain ⟨y1, hy1⟩ : ∃ z, z = y.kd := ⟨_, rfl⟩
    try rw [show F .intA ke iv 1 = y1 by rw [hy1]; exact t_intA hF hdy hiv rfl]
    obtain ⟨y2, hy2⟩ : ∃ z, z = y.sh := ⟨_, rfl⟩
    try rw [show F .intA ke iv 2 = y2 by rw [hy2]; exact t_intA hF hdy hiv rfl]
    obtain ⟨y3, hy3⟩ : ∃ z, z = y.ld := ⟨_, rfl⟩
    try rw [show F .intA ke iv 3 = y3 by rw [hy3]; exact t_intA hF hdy hiv rfl]
    obtain ⟨y4, hy4⟩ : ∃ z, z = y.bo := ⟨_, rfl⟩
    try rw [show F .intA ke iv 4 = y4 by rw [hy4]; exact t_intA hF hdy hiv rfl]
    obtain ⟨y5, hy5⟩ : ∃ z, z = y.qu := ⟨_, rfl⟩
    try rw [show F .intA ke iv 5 = y5 by rw [hy5]; exact t_intA hF hdy hiv rfl]
    obtain ⟨y6, hy6⟩ : ∃ z, z = y.ha := ⟨_, rfl⟩
    try rw [show F .intA ke iv 6 = y6 by rw [hy6]; exact t_intA hF hdy hiv rfl]
    obtain ⟨y7, hy7⟩ : ∃ z, z = y.le := ⟨_, rfl⟩
    try rw [show F .intA ke iv 7 = y7 by rw [hy7]; exact t_intA hF hdy hiv rfl]
    obtain ⟨y8, hy8⟩ : ∃ z, z = y.wa := ⟨_, rfl⟩
    try rw [show F .intA ke iv 8 = y8 by rw [hy8]; exact t_intA hF hdy hiv rfl]
    obtain ⟨y9, hy9⟩ : ∃ z, z = y.gu := ⟨_, rfl⟩
    try rw [show F .intA ke iv 9 = y9 by rw [hy9]; exact t_intA hF hdy hiv rfl]
    refine AKt.need hx_ fun _ => AKt.need hy_ fun _ => ?_
    have key : F .not (F .andB (F .eqS x0 y0) (F .andB (F .eqI x1 y1) (F .andB (F .eqI x2 y2) (F .andB (F .eqI x3 y3) (F .andB (F .eqI x4 y4) (F .andB (F .eqI x5 y5) (F .andB (F .eqI x6 y6) (F .andB (F .eqI x7 y7) (F .andB (F .eqI x8 y8) (F .andB (F .eqI x9 y9) true)))))))))) = !(sameL x y) := by
      rw [hx0, hx1, hx2, hx3, hx4, hx5, hx6, hx7, hx8, hx9, hy0, hy1, hy2, hy3, hy4, hy5, hy6, hy7, hy8, hy9]
      simp only [hF, f_not, f_andB, f_eqS, f_eqI, sameL, Bool.and_true]
      refine congrArg (fun b => !b) (Bool.eq_iff_iff.2 ?_)
      simp only [Bool.and_eq_true, beq_iff_eq, decide_eq_true_eq]
    refine AKt.node (fun hc => ?_) (fun hc => ?_)
    · have : x ≠ y := fun e => by
        have h := key.symm.trans hc
        rw [sameL_iff.2 e] at h
        cases h
      repeat' (first | with_reducible (first | refine AKt.have ?_ | refine AKt.tt ?_ | refine AKt.ff ?_ | refine AKt.yes (by assumption) ?_ | refine AKt.no (by assumption) ?_ | refine AKt.node (fun hb => ?_) (fun hb => ?_) | refine AKt.need ?_ (fun hb => ?_) | refine AKt.leaf ?_) | ((with_reducible show _ = true); assumption))
      refine AKp.doneE tabOK hfr (by rfl) ?_
      show _ = _
      simp only [tupAV]
      rw [hZ2, decide_eq_false (ne_at hx hy this)]
      rfl
    · have : x = y := by
        have h := key.symm.trans hc
        refine sameL_iff.1 ?_
        cases hh : sameL x y with
        | true => rfl
        | false => rw [hh] at h; cases h
      repeat' (first | with_reducible (first | refine AKt.have ?_ | refine AKt.tt ?_ | refine AKt.ff ?_ | refine AKt.yes (by assumption) ?_ | refine AKt.no (by assumption) ?_ | refine AKt.node (fun hb => ?_) (fun hb => ?_) | refine AKt.need ?_ (fun hb => ?_) | refine AKt.leaf ?_) | ((with_reducible show _ = true); assumption))
      refine AKp.again _ hfr (by repeat (first | exact True.intro | refine ⟨⟨rfl, rfl⟩, ?_⟩)) (by repeat (first | exact True.intro | refine ⟨⟨rfl, rfl, rfl⟩, ?_⟩)) (hJ (n - 1) _ _ (by omega) ⟨i + 1, _, by omega, inc_i hF hiv (by omega), take_eq_succ hall hx hy this, rfl, rfl⟩)
  have hge : ¬ i < ls.length := by rw [hF, f_ltI, f_lenD, hll, hiv] at hb; have := of_decide_eq_false hb; omega
  rw [List.take_of_length_le (by omega), List.take_of_length_le (by omega)] at hall
  have hZ3 : Z = decide (ss = ts) := by rw [hZ2, decide_eq_true hall]; rfl
  clear hZ2 hJ J
  repeat' (first | with_reducible (first | refine AKt.have ?_ | refine AKt.tt ?_ | refine AKt.ff ?_ | refine AKt.yes (by assumption) ?_ | refine AKt.no (by assumption) ?_ | refine AKt.node (fun hb => ?_) (fun hb => ?_) | refine AKt.need ?_ (fun hb => ?_) | refine AKt.leaf ?_) | ((with_reducible show _ = true); assumption))
  refine AKp.enterLoop 71 ?_
  conv => arg 7; cbv
  refine AKl.invT hF tabOK hmix hnt hfr true _ hG (fun n vs hs => ∃ (i : Nat) (iv : Int), i + n = ss.length ∧ iv = i ∧ ss.take i = ts.take i ∧ vs = [(6, .d (.s (.int .i64 iv)))] ∧ hs = [(0, .cs 26 [.d (.s (.int .i64 a1)), .d (.s (.int .i64 a2)), .d (.s (.int .i64 a3)), .d (.s (.int .i64 a4)), .d (.view 10 ld), .d (.view 5 sd)]), (1, .cs 26 [.d (.s (.int .i64 b1)), .d (.s (.int .i64 b2)), .d (.s (.int .i64 b3)), .d (.s (.int .i64 b4)), .d (.view 10 ke), .d (.view 5 te)])]) ss.length ⟨0, _, by omega, rfl, by rfl, rfl, rfl⟩ (by repeat (first | exact True.intro | refine ⟨⟨rfl, rfl⟩, ?_⟩)) (by repeat (first | exact True.intro | refine ⟨⟨rfl, rfl, rfl⟩, ?_⟩)) ?_
  rintro J n vs hs hJ ⟨i, iv, hi, hiv, hall, rfl, rfl⟩
  conv => arg 4; cbv
  refine AKt.node (fun hb => ?_) (fun hb => ?_)
  rotate_left
  · have hge : ¬ i < ss.length := by rw [hF, f_ltI, f_lenD, hsl, hiv] at hb; have := of_decide_eq_false hb; omega
    rw [List.take_of_length_le (by omega), List.take_of_length_le (by omega)] at hall
    repeat' (first | with_reducible (first | refine AKt.have ?_ | refine AKt.tt ?_ | refine AKt.ff ?_ | refine AKt.yes (by assumption) ?_ | refine AKt.no (by assumption) ?_ | refine AKt.node (fun hb => ?_) (fun hb => ?_) | refine AKt.need ?_ (fun hb => ?_) | refine AKt.leaf ?_) | ((with_reducible show _ = true); assumption))
    refine AKp.doneE tabOK hfr (by rfl) ?_
    show _ = _
    simp only [tupAV]
    rw [hZ3, decide_eq_true hall]
  have hlt : i < ss.length := by rw [hF, f_ltI, f_lenD, hsl, hiv] at hb; have := of_decide_eq_true hb; omega
  obtain ⟨x, hx⟩ : ∃ x, ss[i]? = some x := ⟨_, List.getElem?_eq_getElem hlt⟩
  obtain ⟨y, hy⟩ : ∃ y, ts[i]? = some y := ⟨_, List.getElem?_eq_getElem (by omega)⟩
  have hdx : sd[i]? = some x.dat := by rw [hsd]; exact smDs_get hx
  have hdy : te[i]? = some y.dat := by rw [hte]; exact smDs_get hy
  have hx_ : F .hasD sd iv [.str, .str, .int .i64, .int .i64, .view 5] = true := t_hasD hF hdx hiv rfl
  obtain ⟨x0, hx0⟩ : ∃ z, z = x.nm := ⟨_, rfl⟩
  try rw [show F .strA sd iv 0 = x0 by rw [hx0]; exact t_strA hF hdx hiv rfl]
  obtain ⟨x1, hx1⟩ : ∃ z, z = x.lv := ⟨_, rfl⟩
  try rw [show F .strA sd iv 1 = x1 by rw [hx1]; exact t_strA hF hdx hiv rfl]
  obtain ⟨x2, hx2⟩ : ∃ z, z = x.rk := ⟨_, rfl⟩
  try rw [show F .intA sd iv 2 = x2 by rw [hx2]; exact t_intA hF hdx hiv rfl]
  obtain ⟨x3, hx3⟩ : ∃ z, z = x.bb := ⟨_, rfl⟩
  try rw [show F .intA sd iv 3 = x3 by rw [hx3]; exact t_intA hF hdx hiv rfl]
  obtain ⟨x4, hx4⟩ : ∃ z, z = rlDs x.rl := ⟨_, rfl⟩
  try rw [show F .viewA sd iv 4 = x4 by rw [hx4]; exact t_viewA hF hdx hiv rfl]
  have hy_ : F .hasD te iv [.str, .str, .int .i64, .int .i64, .view 5] = true := t_hasD hF hdy hiv rfl
  obtain ⟨y0, hy0⟩ : ∃ z, z = y.nm := ⟨_, rfl⟩
  try rw [show F .strA te iv 0 = y0 by rw [hy0]; exact t_strA hF hdy hiv rfl]
  obtain ⟨y1, hy1⟩ : ∃ z, z = y.lv := ⟨_, rfl⟩
  try rw [show F .strA te iv 1 = y1 by rw [hy1]; exact t_strA hF hdy hiv rfl]
  obtain ⟨y2, hy2⟩ : ∃ z, z = y.rk := ⟨_, rfl⟩
  try rw [show F .intA te iv 2 = y2 by rw [hy2]; exact t_intA hF hdy hiv rfl]
  obtain ⟨y3, hy3⟩ : ∃ z, z = y.bb := ⟨_, rfl⟩
  try rw [show F .intA te iv 3 = y3 by rw [hy3]; exact t_intA hF hdy hiv rfl]
  obtain ⟨y4, hy4⟩ : ∃ z, z = rlDs y.rl := ⟨_, rfl⟩
  try rw [show F .viewA te iv 4 = y4 by rw [hy4]; exact t_viewA hF hdy hiv rfl]
  have q0 : uSameRules x4 y4 = true := by
    rw [hx4, hy4]
    subst huSameRules huSameRules1
    show (isRl _ && isRl _) = true
    rw [is_rl, is_rl]; rfl
  have e0 : uSameRules1 x4 y4 = decide (x.rl = y.rl) := by
    rw [hx4, hy4]
    subst huSameRules huSameRules1
    show decide (unRl _ = unRl _) = _
    rw [un_rl, un_rl]
  rw [e0]
  have bad : x ≠ y → Z = false := fun h => by rw [hZ3, decide_eq_false (ne_at hx hy h)]
  refine AKt.need hx_ fun _ => AKt.need hy_ fun _ => ?_
  obtain ⟨xr, hxr⟩ : ∃ z, z = x.rl := ⟨_, rfl⟩
  obtain ⟨yr, hyr⟩ : ∃ z, z = y.rl := ⟨_, rfl⟩
  rw [← hxr, ← hyr]
  repeat' (first | with_reducible (first | refine AKt.have ?_ | refine AKt.tt ?_ | refine AKt.ff ?_ | refine AKt.yes (by assumption) ?_ | refine AKt.no (by assumption) ?_ | refine AKt.node (fun hb => ?_) (fun hb => ?_) | refine AKt.need ?_ (fun hb => ?_) | refine AKt.leaf ?_) | ((with_reducible show _ = true); assumption))
  iterate 5
    · clear hok hG hJ
      have hz : Z = false := bad fun e => by
        have k0 : x0 = y0 := by rw [hx0, hy0, e]
        have k1 : x1 = y1 := by rw [hx1, hy1, e]
        have k2 : x2 = y2 := by rw [hx2, hy2, e]
        have k3 : x3 = y3 := by rw [hx3, hy3, e]
        have k4 : xr = yr := by rw [hxr, hyr, e]
        clear hx_ hy_ hdx hdy hx hy bad
        simp only [k0, k1, k2, k3, k4] at *
        simp only [hF, f_ltI, f_leI, f_eqI, f_eqS, f_eqB, f_not, f_andB, f_orB, f_lenS, f_lenD, f_hasS, f_atS, f_hasC, f_subS, f_hasCat, f_app, f_wrap, f_add, f_sub, f_mul, f_appD, f_fits, f_hasV, f_subV, decide_eq_true_eq, decide_eq_false_iff_not, beq_iff_eq, beq_eq_false_iff_ne, Bool.and_eq_true, Bool.and_eq_false_iff, Bool.not_eq_true, Bool.not_eq_false, Bool.not_eq_eq_eq_not, Bool.not_true, Bool.not_false] at *
        simp_all
      refine AKp.doneE tabOK hfr (by rfl) ?_
      show _ = _
      simp only [tupAV]
      rw [hz]
  have heq : x = y := by
    clear hok hG hJ bad
    simp only [hF, f_ltI, f_leI, f_eqI, f_eqS, f_eqB, f_not, f_andB, f_orB, f_lenS, f_lenD, f_hasS, f_atS, f_hasC, f_subS, f_hasCat, f_app, f_wrap, f_add, f_sub, f_mul, f_appD, f_fits, f_hasV, f_subV, decide_eq_true_eq, decide_eq_false_iff_not, beq_iff_eq, beq_eq_false_iff_ne, Bool.and_eq_true, Bool.and_eq_false_iff, Bool.not_eq_true, Bool.not_eq_false, Bool.not_eq_eq_eq_not, Bool.not_true, Bool.not_false] at *
    obtain ⟨x1, x2, x3, x4, x5⟩ := x
    obtain ⟨y1, y2, y3, y4, y5⟩ := y
    simp_all
  refine AKp.again _ hfr (by repeat (first | exact True.intro | refine ⟨⟨rfl, rfl⟩, ?_⟩)) (by repeat (first | exact True.intro | refine ⟨⟨rfl, rfl, rfl⟩, ?_⟩)) (hJ (n - 1) _ _ (by omega) ⟨i + 1, _, by omega, inc_i hF hiv (by omega), take_eq_succ hall hx hy heq, rfl, rfl⟩)
theorem SameCD_spec (a b c d a2 b2 c2 d2 : Int) (ls ss ks ts : List Dat) (h : (isCf0 ls ss && isCf0 ks ts) = true) : ESpec Tryd.prog 10 [.d (.agg [.s (.int .i64 a), .s (.int .i64 b), .s (.int .i64 c), .s (.int .i64 d), .view 10 ls, .view 5 ss]), .d (.agg [.s (.int .i64 a2), .s (.int .i64 b2), .s (.int .i64 c2), .s (.int .i64 d2), .view 10 ks, .view 5 ts])] (fun x => x = .d (.s (.bool (sameC ⟨a, b, c, d, unLv ls, unSm ss⟩ ⟨a2, b2, c2, d2, unLv ks, unSm ts⟩)))) := by
  simp only [isCf0, Bool.and_eq_true] at h
  have := SameC_spec ⟨a, b, c, d, unLv ls, unSm ss⟩ ⟨a2, b2, c2, d2, unLv ks, unSm ts⟩
  simp only [lv_un h.1.1, lv_un h.2.1, sm_un h.1.2, sm_un h.2.2] at this
  exact this
def φSameCf (p : List Dat → List Dat → List Dat → List Dat → Bool) (u : Int → Int → Int → Int → List Dat → List Dat → Int → Int → Int → Int → List Dat → List Dat → Bool) : List AV → Option (Bool × AV)
  | [.d (.agg [.s (.int .i64 a), .s (.int .i64 b), .s (.int .i64 c), .s (.int .i64 d), .view 10 ls, .view 5 ss]), .d (.agg [.s (.int .i64 a2), .s (.int .i64 b2), .s (.int .i64 c2), .s (.int .i64 d2), .view 10 ks, .view 5 ts])] => some (p ls ss ks ts, .d (.s (.bool (u a b c d ls ss a2 b2 c2 d2 ks ts))))
  | _ => none
theorem φSameCf_ok : SpOK Tryd.prog 10 (φSameCf (fun ls ss ks ts => isCf0 ls ss && isCf0 ks ts) (fun a b c d ls ss a2 b2 c2 d2 ks ts => sameC ⟨a, b, c, d, unLv ls, unSm ss⟩ ⟨a2, b2, c2, d2, unLv ks, unSm ts⟩)) := by
  intro xs b x h hb
  unfold φSameCf at h
  split at h
  · simp only [Option.some.injEq, Prod.mk.injEq] at h
    obtain ⟨rfl, rfl⟩ := h
    exact SameCD_spec _ _ _ _ _ _ _ _ _ _ _ _ hb
  · cases h
end Go.Proofs.YtljidkmppeaecaaDoor

/- Chapter 10: the document's reading, and any text is read as the document says. -/
namespace Go.Proofs.YtljidkmppeaecaaDoor
open Go Go.Proofs Go.Ua Go.Extern
set_option linter.unusedVariables false
set_option linter.unusedSimpArgs false
set_option maxRecDepth 10000
theorem word_ne {s w : Wd} (h : w ∈ wordsF s) : w ≠ [] := by
  unfold wordsF at h
  have := (List.mem_filter.1 h).2
  intro e
  rw [e] at this
  cases this
theorem hp_one (b : UInt8) (r : Wd) : hpF (b :: r) [35] = decide ((b.toNat : Int) = 35) := by
  have h : hpF (b :: r) [35] = decide ([b] = [(35 : UInt8)]) := by
    unfold hpF
    rw [decide_eq_true (show [(35 : UInt8)].length ≤ (b :: r).length by simp), Bool.true_and]
    rfl
  rw [h]
  by_cases e : b = 35
  · rw [e]
    rfl
  · have h2 : ¬ (b.toNat : Int) = 35 := fun e2 => e (by
      have : b.toNat = 35 := by omega
      exact UInt8.toNat_inj.1 this)
    rw [decide_eq_false h2, decide_eq_false fun e2 => e (List.cons.inj e2).1]
set_option maxHeartbeats 4000000 in
set_option cbv.maxSteps 10000000 in
set_option maxRecDepth 100000 in
theorem refparse_spec (s : Wd) : ESpec Tryd.prog 12 [.d (.s (.str s))] (fun x => x = .tup [.d (parF s).1.dat, .d (.s (.int .i64 (parF s).2.1)), .d (.s (.int .i64 (parF s).2.2))]) := by
  obtain ⟨uRefLines, huRefLines⟩ : ∃ u : List UInt8 → Bool, u = le32 := ⟨_, rfl⟩
  obtain ⟨uRefLines1, huRefLines1⟩ : ∃ u : List UInt8 → List Dat, u = fun w => strDs (linesF w) := ⟨_, rfl⟩
  obtain ⟨uRefWords, huRefWords⟩ : ∃ u : List UInt8 → Bool, u = le32 := ⟨_, rfl⟩
  obtain ⟨uRefWords1, huRefWords1⟩ : ∃ u : List UInt8 → List Dat, u = fun w => strDs (wordsF w) := ⟨_, rfl⟩
  obtain ⟨uRLine, huRLine⟩ : ∃ u : Int → Int → Int → Int → List Dat → List Dat → List Dat → Bool, u = lnP := ⟨_, rfl⟩
  obtain ⟨uRLine1, huRLine1⟩ : ∃ u : Int → Int → Int → Int → List Dat → List Dat → List Dat → Int, u = fun a b c d ls ss w => (linC (cfU a b c d ls ss) (unStr w)).tt := ⟨_, rfl⟩
  obtain ⟨uRLine2, huRLine2⟩ : ∃ u : Int → Int → Int → Int → List Dat → List Dat → List Dat → Int, u = fun a b c d ls ss w => (linC (cfU a b c d ls ss) (unStr w)).pe := ⟨_, rfl⟩
  obtain ⟨uRLine3, huRLine3⟩ : ∃ u : Int → Int → Int → Int → List Dat → List Dat → List Dat → Int, u = fun a b c d ls ss w => (linC (cfU a b c d ls ss) (unStr w)).pr := ⟨_, rfl⟩
  obtain ⟨uRLine4, huRLine4⟩ : ∃ u : Int → Int → Int → Int → List Dat → List Dat → List Dat → Int, u = fun a b c d ls ss w => (linC (cfU a b c d ls ss) (unStr w)).mo := ⟨_, rfl⟩
  obtain ⟨uRLine5, huRLine5⟩ : ∃ u : Int → Int → Int → Int → List Dat → List Dat → List Dat → List Dat, u = fun a b c d ls ss w => lvDs (linC (cfU a b c d ls ss) (unStr w)).ls := ⟨_, rfl⟩
  obtain ⟨uRLine6, huRLine6⟩ : ∃ u : Int → Int → Int → Int → List Dat → List Dat → List Dat → List Dat, u = fun a b c d ls ss w => smDs (linC (cfU a b c d ls ss) (unStr w)).ss := ⟨_, rfl⟩
  obtain ⟨uRLine7, huRLine7⟩ : ∃ u : Int → Int → Int → Int → List Dat → List Dat → List Dat → Int, u = fun a b c d ls ss w => linE (cfU a b c d ls ss) (unStr w) := ⟨_, rfl⟩
  have hG : TblOK Tryd.prog [(15, .p (φRefLines uRefLines uRefLines1)), (24, .p (φRefWords uRefWords uRefWords1)), (25, .p (φRLine uRLine uRLine1 uRLine2 uRLine3 uRLine4 uRLine5 uRLine6 uRLine7))] := ⟨(by rw [huRefLines, huRefLines1]; exact φRefLines_ok), (by rw [huRefWords, huRefWords1]; exact φRefWords_ok), (by rw [huRLine, huRLine1, huRLine2, huRLine3, huRLine4, huRLine5, huRLine6, huRLine7]; exact φRLine_ok), trivial⟩
  obtain ⟨R, hR⟩ : ∃ z, z = parF s := ⟨_, rfl⟩
  rw [← hR]
  obtain ⟨c1, e1, n1⟩ := R
  obtain ⟨a1, a2, a3, a4, al, am⟩ := c1
  obtain ⟨vl, hvl⟩ : ∃ z, z = lvDs al := ⟨_, rfl⟩
  obtain ⟨vs1, hvs⟩ : ∃ z, z = smDs am := ⟨_, rfl⟩
  simp only [Cf.dat, Cf.cells]
  rw [← hvl, ← hvs]
  refine ESpec.enter Tryd.func12 (by kernel_rfl) rfl (Nat.le_of_ble_eq_true rfl) fun hok cx hnt hfr => ?_
  obtain ⟨F, hF⟩ := real_ex
  refine AK.runTs hF tabOK hmix hnt hfr [6] false _ hG ?_
  conv => arg 4; cbv
  refine AKt.node (fun c1 => ?_) (fun c1 => ?_)
  · have h1 : 65536 < s.length := by rw [hF, f_ltI, f_lenS] at c1; have := of_decide_eq_true c1; omega
    rw [parF, if_pos h1] at hR
    simp only [zeroC, Prod.mk.injEq, Cf.mk.injEq] at hR
    obtain ⟨⟨rfl, rfl, rfl, rfl, rfl, rfl⟩, rfl, rfl⟩ := hR
    refine AKt.leaf ?_
    refine AKp.asRowB 0 4 34 10 (by decide) rfl rfl (Nat.le_of_ble_eq_true rfl) ?_
    conv => arg 4; arg 2; cbv
    refine AKp.freeze 1 rfl ?_
    conv => arg 4; arg 2; cbv
    refine AKp.asRowB 0 5 37 5 (by decide) rfl rfl (Nat.le_of_ble_eq_true rfl) ?_
    conv => arg 4; arg 2; cbv
    refine AKp.freeze 2 rfl ?_
    conv => arg 4; arg 2; cbv
    refine AKp.doneE tabOK hfr (by rfl) ?_
    show _ = _
    simp only [tupAV]
    rw [hvl, hvs]
    rfl
  have h1 : ¬ 65536 < s.length := by rw [hF, f_ltI, f_lenS] at c1; have := of_decide_eq_false c1; omega
  rw [parF, if_neg h1] at hR
  obtain ⟨l, hl⟩ : ∃ z, z = linesF s := ⟨_, rfl⟩
  rw [← hl] at hR
  obtain ⟨es, hes⟩ : ∃ z, z = uRefLines1 s := ⟨_, rfl⟩
  have hsd : es = strDs l := by rw [hes, hl, huRefLines1]
  have hel : es.length = l.length := by rw [hsd, strDs_length]
  have hll : l.length ≤ s.length + 1 := by rw [hl]; exact lines_num s
  rw [← hes]
  refine AKt.need (by rw [huRefLines]; exact decide_eq_true (by omega)) fun _ => AKt.leaf ?_
  refine AKp.asRowB 1 4 34 10 (by decide) rfl rfl (Nat.le_of_ble_eq_true rfl) ?_
  conv => arg 4; arg 2; cbv
  refine AKp.freeze 2 rfl ?_
  conv => arg 4; arg 2; cbv
  refine AKp.asRowB 1 5 37 5 (by decide) rfl rfl (Nat.le_of_ble_eq_true rfl) ?_
  conv => arg 4; arg 2; cbv
  refine AKp.freeze 3 rfl ?_
  conv => arg 4; arg 2; cbv
  refine AKp.enterLoop 7 ?_
  conv => arg 7; cbv
  refine AKl.invTs hF tabOK hmix hnt (Nat.le_trans (Nat.le_of_eq hfr) (Nat.le_of_ble_eq_true rfl)) [14] false _ hG (fun n vs hs => ∃ (i : Nat) (iv tt pe pr mo : Int) (L : List Lv) (S : List Sm) (ld sd : List Dat), i + n = l.length ∧ iv = i ∧ ld = lvDs L ∧ sd = smDs S ∧ formC ⟨tt, pe, pr, mo, L, S⟩ = true ∧ parL ⟨tt, pe, pr, mo, L, S⟩ (l.drop i) i = (⟨a1, a2, a3, a4, al, am⟩, e1, n1) ∧ vs = [(7, .d (.s (.int .i64 iv)))] ∧ hs = [(1, .cs 26 [.d (.s (.int .i64 tt)), .d (.s (.int .i64 pe)), .d (.s (.int .i64 pr)), .d (.s (.int .i64 mo)), .d (.view 10 ld), .d (.view 5 sd)]), (0, .cs 26 [.d (.s (.int .i64 0)), .d (.s (.int .i64 0)), .d (.s (.int .i64 0)), .d (.s (.int .i64 0)), .d (.s .sl0), .d (.s .sl0)])]) l.length ⟨0, _, 0, 0, 0, 0, [], [], [], [], by omega, rfl, rfl, rfl, zero_formed, hR.symm, rfl, rfl⟩ (by repeat (first | exact True.intro | refine ⟨⟨rfl, rfl⟩, ?_⟩)) (by repeat (first | exact True.intro | refine ⟨⟨rfl, rfl, rfl⟩, ?_⟩)) ?_
  rintro J n vs hs hJ ⟨i, iv, tt, pe, pr, mo, L, S, ld, sd, hi, hiv, hld, hsdm, hfm, hP, rfl, rfl⟩
  conv => arg 4; cbv
  have lenE : F .lenD es = (l.length : Int) := by rw [hF, f_lenD, hel]
  refine AKt.node (fun hb1 => ?_) (fun hb1 => ?_)
  rotate_left
  · have hge : ¬ i < l.length := by rw [lenE, hiv, hF, f_ltI] at hb1; have := of_decide_eq_false hb1; omega
    rw [List.drop_eq_nil_of_le (by omega), parL] at hP
    simp only [Prod.mk.injEq, Cf.mk.injEq] at hP
    obtain ⟨⟨k1, k2, k3, k4, k5, k6⟩, he, hn⟩ := hP
    repeat' (first | with_reducible (first | refine AKt.have ?_ | refine AKt.tt ?_ | refine AKt.ff ?_ | refine AKt.yes (by assumption) ?_ | refine AKt.no (by assumption) ?_ | refine AKt.node (fun hb => ?_) (fun hb => ?_) | refine AKt.need ?_ (fun hb => ?_) | refine AKt.leaf ?_) | ((with_reducible show _ = true); assumption))
    refine AK.runT hF tabOK hmix hnt hfr false _ hG ?_
    conv => arg 4; cbv
    repeat' (first | with_reducible (first | refine AKt.have ?_ | refine AKt.tt ?_ | refine AKt.ff ?_ | refine AKt.yes (by assumption) ?_ | refine AKt.no (by assumption) ?_ | refine AKt.node (fun hb => ?_) (fun hb => ?_) | refine AKt.need ?_ (fun hb => ?_) | refine AKt.leaf ?_) | ((with_reducible show _ = true); assumption))
    refine AKp.doneE tabOK hfr (by rfl) ?_
    show _ = _
    simp only [tupAV]
    rw [k1, k2, k3, k4, hld, hsdm, k5, k6, hvl, hvs, ← he, ← hn]
    rfl
  have hlt : i < l.length := by rw [lenE, hiv, hF, f_ltI] at hb1; have := of_decide_eq_true hb1; omega
  obtain ⟨x, hx⟩ : ∃ x, l[i]? = some x := ⟨_, List.getElem?_eq_getElem hlt⟩
  have hxl : x.length ≤ s.length := lines_le (by rw [← hl]; exact List.mem_of_getElem? hx)
  have hx1 : F .strA es iv 0 = x := by rw [hsd, hiv, t_strG hF, List.getD_eq_getElem?_getD, hx]; rfl
  have hx2 : F .hasD es iv [.str] = true := by rw [hsd, hiv]; exact t_hasG hF hlt
  rw [List.drop_eq_getElem_cons hlt, parL, (List.getElem?_eq_some_iff.1 hx).2] at hP
  rw [hx1]
  obtain ⟨W, hW⟩ : ∃ z, z = wordsF x := ⟨_, rfl⟩
  rw [← hW] at hP
  obtain ⟨wd, hwd⟩ : ∃ z, z = uRefWords1 x := ⟨_, rfl⟩
  have hwd2 : wd = strDs W := by rw [hwd, huRefWords1, hW]
  have hwu : unStr wd = W := by rw [hwd2, unStr_strDs]
  have hwl : wd.length = W.length := by rw [hwd2, strDs_length]
  rw [← hwd]
  obtain ⟨w0, hw0⟩ : ∃ z, z = wAt W 0 := ⟨_, rfl⟩
  have hs0 : F .strA wd 0 0 = w0 := by rw [hwd2, hw0]; exact t_strG hF W 0
  rw [hs0]
  refine AKt.need hx2 fun _ => AKt.need (by rw [huRefWords]; exact decide_eq_true (by omega)) fun _ => ?_
  refine AKt.node (fun hb2 => ?_) (fun hb2 => ?_)
  · have hz : W.length = 0 := by rw [hF, f_eqI, f_lenD, hwl] at hb2; have := of_decide_eq_true hb2; omega
    rw [if_pos (by rw [skipB, decide_eq_true hz]; rfl)] at hP
    repeat' (first | with_reducible (first | refine AKt.have ?_ | refine AKt.tt ?_ | refine AKt.ff ?_ | refine AKt.yes (by assumption) ?_ | refine AKt.no (by assumption) ?_ | refine AKt.node (fun hb => ?_) (fun hb => ?_) | refine AKt.need ?_ (fun hb => ?_) | refine AKt.leaf ?_) | ((with_reducible show _ = true); assumption))
    refine AK.runT hF tabOK hmix hnt hfr false _ hG ?_
    conv => arg 4; cbv
    repeat' (first | with_reducible (first | refine AKt.have ?_ | refine AKt.tt ?_ | refine AKt.ff ?_ | refine AKt.yes (by assumption) ?_ | refine AKt.no (by assumption) ?_ | refine AKt.node (fun hb => ?_) (fun hb => ?_) | refine AKt.need ?_ (fun hb => ?_) | refine AKt.leaf ?_) | ((with_reducible show _ = true); assumption))
    refine AKp.again _ hfr (by repeat (first | exact True.intro | refine ⟨⟨rfl, rfl⟩, ?_⟩)) (by repeat (first | exact True.intro | refine ⟨⟨rfl, rfl, rfl⟩, ?_⟩)) (hJ (n - 1) _ _ (by omega) ⟨i + 1, _, tt, pe, pr, mo, L, S, ld, sd, by omega, inc_i hF hiv (by omega), hld, hsdm, hfm, hP, rfl, rfl⟩)
  have hz : ¬ W.length = 0 := by rw [hF, f_eqI, f_lenD, hwl] at hb2; have := of_decide_eq_false hb2; omega
  have hmem : w0 ∈ W := by
    rw [hw0, wAt, List.getD_eq_getElem?_getD, List.getElem?_eq_getElem (by omega)]
    exact List.getElem_mem _
  have hne : w0 ≠ [] := word_ne (by rw [← hW]; exact hmem)
  obtain ⟨b, r, hbr⟩ : ∃ b r, w0 = b :: r := by
    cases hh : w0 with
    | nil => exact absurd hh hne
    | cons b r => exact ⟨b, r, rfl⟩
  have hat : F .atS w0 0 = (b.toNat : Int) := by rw [hbr]; exact t_atS hF (i := 0) rfl rfl
  rw [hat]
  refine AKt.need (by rw [hwd2]; exact t_hasG hF (n := 0) (by omega)) fun _ => AKt.need (t_hasS hF (i := 0) (by rw [hbr]; exact Nat.zero_lt_succ _) rfl) fun _ => ?_
  refine AKt.node (fun hb3 => ?_) (fun hb3 => ?_)
  · have hp : hpF (wAt W 0) [35] = true := by rw [← hw0, hbr, hp_one]; rw [hF, f_eqI] at hb3; exact hb3
    rw [if_pos (by rw [skipB, hp, Bool.or_true])] at hP
    repeat' (first | with_reducible (first | refine AKt.have ?_ | refine AKt.tt ?_ | refine AKt.ff ?_ | refine AKt.yes (by assumption) ?_ | refine AKt.no (by assumption) ?_ | refine AKt.node (fun hb => ?_) (fun hb => ?_) | refine AKt.need ?_ (fun hb => ?_) | refine AKt.leaf ?_) | ((with_reducible show _ = true); assumption))
    refine AK.runT hF tabOK hmix hnt hfr false _ hG ?_
    conv => arg 4; cbv
    repeat' (first | with_reducible (first | refine AKt.have ?_ | refine AKt.tt ?_ | refine AKt.ff ?_ | refine AKt.yes (by assumption) ?_ | refine AKt.no (by assumption) ?_ | refine AKt.node (fun hb => ?_) (fun hb => ?_) | refine AKt.need ?_ (fun hb => ?_) | refine AKt.leaf ?_) | ((with_reducible show _ = true); assumption))
    refine AKp.again _ hfr (by repeat (first | exact True.intro | refine ⟨⟨rfl, rfl⟩, ?_⟩)) (by repeat (first | exact True.intro | refine ⟨⟨rfl, rfl, rfl⟩, ?_⟩)) (hJ (n - 1) _ _ (by omega) ⟨i + 1, _, tt, pe, pr, mo, L, S, ld, sd, by omega, inc_i hF hiv (by omega), hld, hsdm, hfm, hP, rfl, rfl⟩)
  have hp : hpF (wAt W 0) [35] = false := by rw [← hw0, hbr, hp_one]; rw [hF, f_eqI] at hb3; exact hb3
  rw [if_neg (by rw [skipB, hp, decide_eq_false hz]; decide)] at hP
  obtain ⟨C, hC⟩ : ∃ z : Cf, z = ⟨tt, pe, pr, mo, L, S⟩ := ⟨_, rfl⟩
  rw [← hC] at hP hfm
  have hcu : cfU tt pe pr mo ld sd = C := by rw [cfU, hC, hld, hsdm, un_lv, un_sm]
  have u1 : uRLine1 tt pe pr mo ld sd wd = (linC C W).tt := by rw [huRLine1]; show (linC (cfU tt pe pr mo ld sd) (unStr wd)).tt = _; rw [hcu, hwu]
  have u2 : uRLine2 tt pe pr mo ld sd wd = (linC C W).pe := by rw [huRLine2]; show (linC (cfU tt pe pr mo ld sd) (unStr wd)).pe = _; rw [hcu, hwu]
  have u3 : uRLine3 tt pe pr mo ld sd wd = (linC C W).pr := by rw [huRLine3]; show (linC (cfU tt pe pr mo ld sd) (unStr wd)).pr = _; rw [hcu, hwu]
  have u4 : uRLine4 tt pe pr mo ld sd wd = (linC C W).mo := by rw [huRLine4]; show (linC (cfU tt pe pr mo ld sd) (unStr wd)).mo = _; rw [hcu, hwu]
  have u5 : uRLine5 tt pe pr mo ld sd wd = lvDs (linC C W).ls := by rw [huRLine5]; show lvDs (linC (cfU tt pe pr mo ld sd) (unStr wd)).ls = _; rw [hcu, hwu]
  have u6 : uRLine6 tt pe pr mo ld sd wd = smDs (linC C W).ss := by rw [huRLine6]; show smDs (linC (cfU tt pe pr mo ld sd) (unStr wd)).ss = _; rw [hcu, hwu]
  have u7 : uRLine7 tt pe pr mo ld sd wd = linE C W := by rw [huRLine7]; show linE (cfU tt pe pr mo ld sd) (unStr wd) = _; rw [hcu, hwu]
  have q4 : uRLine tt pe pr mo ld sd wd = true := by
    rw [huRLine]
    have hf2 := hfm
    rw [hC] at hf2
    simp only [formC, Bool.and_eq_true, decide_eq_true_eq] at hf2
    obtain ⟨_, _, _, _, _, z6, z7, _, _⟩ := hf2
    have h5 : linP C W = true := by
      rw [hC]
      simp only [linP, Bool.and_eq_true, decide_eq_true_eq]
      refine ⟨by omega, by omega, ?_, by omega⟩
      rw [List.all_eq_true]
      intro p hpx
      have : p.length ≤ x.length := by
        rw [hW] at hpx
        unfold wordsF at hpx
        exact cutF_all (List.mem_filter.1 hpx).1
      exact decide_eq_true (by omega)
    rw [lnP, hcu, hwu, h5, hld, hsdm, hwd2, is_lv, is_sm, isStrs_strDs]
    rfl
  refine AKt.need q4 fun _ => ?_
  obtain ⟨er, her⟩ : ∃ z, z = linE C W := ⟨_, rfl⟩
  rw [u7, ← her]
  refine AKt.node (fun hb4 => ?_) (fun hb4 => ?_)
  · have h0 : ¬ linE C W = 0 := by rw [hF, f_not, f_eqI, her] at hb4; simpa using hb4
    rw [if_neg h0] at hP
    simp only [zeroC, Prod.mk.injEq, Cf.mk.injEq] at hP
    obtain ⟨⟨k1, k2, k3, k4, k5, k6⟩, he, hn⟩ := hP
    repeat' (first | with_reducible (first | refine AKt.have ?_ | refine AKt.tt ?_ | refine AKt.ff ?_ | refine AKt.yes (by assumption) ?_ | refine AKt.no (by assumption) ?_ | refine AKt.node (fun hb => ?_) (fun hb => ?_) | refine AKt.need ?_ (fun hb => ?_) | refine AKt.leaf ?_) | ((with_reducible show _ = true); assumption))
    refine AKp.asRowB 0 4 34 10 (by decide) rfl rfl (Nat.le_of_ble_eq_true rfl) ?_
    conv => arg 4; arg 2; cbv
    refine AKp.freeze 5 rfl ?_
    conv => arg 4; arg 2; cbv
    refine AKp.asRowB 0 5 37 5 (by decide) rfl rfl (Nat.le_of_ble_eq_true rfl) ?_
    conv => arg 4; arg 2; cbv
    refine AKp.freeze 6 rfl ?_
    conv => arg 4; arg 2; cbv
    refine AKp.doneE tabOK hfr (by rfl) ?_
    show _ = _
    simp only [tupAV]
    rw [← k1, ← k2, ← k3, ← k4, hvl, ← k5, hvs, ← k6, her, ← he, ← hn, inc_i hF hiv (by omega)]
    rfl
  · have h0 : linE C W = 0 := by rw [hF, f_not, f_eqI, her] at hb4; simpa using hb4
    rw [if_pos h0] at hP
    have hlc : linC C W = linA C W := by rw [linC, if_pos h0]
    rw [hlc] at u1 u2 u3 u4 u5 u6
    obtain ⟨y1, hy1⟩ : ∃ z, z = uRLine1 tt pe pr mo ld sd wd := ⟨_, rfl⟩
    obtain ⟨y2, hy2⟩ : ∃ z, z = uRLine2 tt pe pr mo ld sd wd := ⟨_, rfl⟩
    obtain ⟨y3, hy3⟩ : ∃ z, z = uRLine3 tt pe pr mo ld sd wd := ⟨_, rfl⟩
    obtain ⟨y4, hy4⟩ : ∃ z, z = uRLine4 tt pe pr mo ld sd wd := ⟨_, rfl⟩
    obtain ⟨y5, hy5⟩ : ∃ z, z = uRLine5 tt pe pr mo ld sd wd := ⟨_, rfl⟩
    obtain ⟨y6, hy6⟩ : ∃ z, z = uRLine6 tt pe pr mo ld sd wd := ⟨_, rfl⟩
    rw [← hy1, ← hy2, ← hy3, ← hy4, ← hy5, ← hy6]
    have hA : (⟨y1, y2, y3, y4, (linA C W).ls, (linA C W).ss⟩ : Cf) = linA C W := by rw [hy1, hy2, hy3, hy4, u1, u2, u3, u4]
    repeat' (first | with_reducible (first | refine AKt.have ?_ | refine AKt.tt ?_ | refine AKt.ff ?_ | refine AKt.yes (by assumption) ?_ | refine AKt.no (by assumption) ?_ | refine AKt.node (fun hb => ?_) (fun hb => ?_) | refine AKt.need ?_ (fun hb => ?_) | refine AKt.leaf ?_) | ((with_reducible show _ = true); assumption))
    refine AK.runT hF tabOK hmix hnt hfr false _ hG ?_
    conv => arg 4; cbv
    repeat' (first | with_reducible (first | refine AKt.have ?_ | refine AKt.tt ?_ | refine AKt.ff ?_ | refine AKt.yes (by assumption) ?_ | refine AKt.no (by assumption) ?_ | refine AKt.node (fun hb => ?_) (fun hb => ?_) | refine AKt.need ?_ (fun hb => ?_) | refine AKt.leaf ?_) | ((with_reducible show _ = true); assumption))
    refine AKp.again _ hfr (by repeat (first | exact True.intro | refine ⟨⟨rfl, rfl⟩, ?_⟩)) (by repeat (first | exact True.intro | refine ⟨⟨rfl, rfl, rfl⟩, ?_⟩)) (hJ (n - 1) _ _ (by omega) ⟨i + 1, _, y1, y2, y3, y4, (linA C W).ls, (linA C W).ss, y5, y6, by omega, inc_i hF hiv (by omega), by rw [hy5, u5], by rw [hy6, u6], by rw [hA]; exact line_formed hfm h0, by rw [hA]; exact hP, rfl, rfl⟩)
end Go.Proofs.YtljidkmppeaecaaDoor

