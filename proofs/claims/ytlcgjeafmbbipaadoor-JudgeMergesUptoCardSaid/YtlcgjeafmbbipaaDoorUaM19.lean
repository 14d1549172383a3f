/- The library of this claim and its walks, part 19, joined out of smaller texts. No statement stands in it. -/
import Derived.Test.YtlcgjeafmbbipaaDoorUaM18
/- What is told of other requests does not matter. -/
namespace Go.Proofs.YtlcgjeafmbbipaaDoor
open Go Go.Proofs Go.Ua Go.Extern
set_option linter.unusedVariables false
set_option linter.unusedSimpArgs false
set_option maxRecDepth 10000

set_option maxRecDepth 10000 in
theorem JudgeApart_spec (ts : List Tl) (id : Int) (hts : ∀ t, t ∈ ts → t.lv.length ≤ 1200000) : ESpec Tryd.prog 6 [.d (.view 7 (tlDs ts)), .d (.s (.int .i64 id))] (fun x => x = .d (.s (.bool true))) := by
  obtain ⟨uLines29, huLines29⟩ : ∃ u : List Dat → Bool, u = tsP := ⟨_, rfl⟩
  obtain ⟨uLines291, huLines291⟩ : ∃ u : List Dat → List UInt8, u = fun es => linesS (unTs es) := ⟨_, rfl⟩
  obtain ⟨uLines292, huLines292⟩ : ∃ u : List Dat → Bool, u = fun es => wOK (unTs es) := ⟨_, rfl⟩
  obtain ⟨uLook, huLook⟩ : ∃ u : List UInt8 → Bool, u = leL := ⟨_, rfl⟩
  obtain ⟨uLook1, huLook1⟩ : ∃ u : List UInt8 → Int, u = fun s => (lookF s).1 := ⟨_, rfl⟩
  obtain ⟨uLook2, huLook2⟩ : ∃ u : List UInt8 → Int, u = fun s => (lookF s).2 := ⟨_, rfl⟩
  have hG : TblOK Tryd.prog [(8, .p (φAwake29 )), (12, .p (φLines29 uLines29 uLines291 uLines292)), (9, .p (φLook uLook uLook1 uLook2))] := ⟨φAwake29_ok, (by rw [huLines29, huLines291, huLines292]; exact φLines29_ok), (by rw [huLook, huLook1, huLook2]; exact φLook_ok), trivial⟩
  obtain ⟨es, hes⟩ : ∃ z, z = tlDs ts := ⟨_, rfl⟩
  rw [← hes]
  refine ESpec.enter Tryd.func6 (by kernel_rfl) rfl (Nat.le_of_ble_eq_true rfl) fun hok cx hnt hfr => ?_
  obtain ⟨F, hF⟩ := real_ex
  refine AK.runT hF tabOK hmix hnt hfr false _ hG ?_
  conv => arg 4; cbv
  have hlen : es.length ≤ 9223372036854775807 := hok.1.1
  have hel0 : es.length = ts.length := by rw [hes, tlDs_len]
  obtain ⟨l, hl⟩ : ∃ z, z = ts.take 100 := ⟨_, rfl⟩
  obtain ⟨ed, hed⟩ : ∃ z, z = tlDs l := ⟨_, rfl⟩
  have hel : ed.length = l.length := by rw [hed, tlDs_len]
  have hl100 : l.length ≤ 100 ∧ l.length ≤ ts.length := by rw [hl, List.length_take]; omega
  have hmin : F .min (F .lenD es) 100 = (l.length : Int) := by rw [hF, hl, List.length_take]; show (if (100 : Int) < (es.length : Int) then (100 : Int) else (es.length : Int)) = _; split <;> omega
  have hsub : F .subV es 0 (F .min (F .lenD es) 100) = ed := by
    rw [t_subV hF (i := 0) (j := l.length) (iv := 0) (jv := F .min (F .lenD es) 100) rfl hmin, hed, hes, hl, List.drop_zero, tlDs, tlDs, ← List.map_take, List.length_take]
    congr 1
    rw [Nat.min_comm]
    by_cases c : ts.length ≤ 100
    · rw [Nat.min_eq_left c, List.take_length, List.take_of_length_le c]
    · rw [Nat.min_eq_right (by omega)]
  have hhas : F .hasV es 0 (F .min (F .lenD es) 100) = true := t_hasV hF (i := 0) (j := l.length) rfl hmin (by omega) (by omega)
  have htsP : ∀ m : List Tl, m.length ≤ 1000 → (∀ t, t ∈ m → t ∈ ts) → tsP (tlDs m) = true := fun m hm hmt => by
    rw [tsP, tlDs_len, decide_eq_true hm, Bool.and_true, List.all_eq_true]
    intro d hd
    obtain ⟨t, ht, rfl⟩ := List.mem_map.1 hd
    exact decide_eq_true (hts t (hmt t ht))
  rw [hsub]
  have q1 : uLines29 ed = true := by subst huLines29 huLines291 huLines292 huLook huLook1 huLook2; rw [hed]; exact htsP l (by omega) fun t ht => List.mem_of_mem_take (by rw [← hl]; exact ht)
  obtain ⟨s, hs⟩ : ∃ z, z = linesS l := ⟨_, rfl⟩
  obtain ⟨w, hw⟩ : ∃ z, z = wOK l := ⟨_, rfl⟩
  have f1 : uLines291 ed = s := by rw [hs, hed]; subst huLines29 huLines291 huLines292 huLook huLook1 huLook2; show linesS (unTs (tlDs l)) = _; rw [un_tl]
  have f2 : uLines292 ed = w := by rw [hw, hed]; subst huLines29 huLines291 huLines292 huLook huLook1 huLook2; show wOK (unTs (tlDs l)) = _; rw [un_tl]
  obtain ⟨e, he⟩ : ∃ z, z = (lookF s).2 := ⟨_, rfl⟩
  have f3 : uLook2 s = e := by rw [he]; subst huLines29 huLines291 huLines292 huLook huLook1 huLook2; rfl
  rw [f1, f2, f3]
  refine AKt.need rfl fun _ => ?_
  rw [l_not1 hF]
  refine AKt.ff ?_
  refine AKt.need hhas fun _ => ?_
  refine AKt.need q1 fun _ => ?_
  refine AKt.node (fun hb1 => ?_) (fun hb1 => ?_)
  · repeat' (first | with_reducible refine AKt.have ?_ | with_reducible refine AKt.tt ?_ | with_reducible refine AKt.ff ?_ | with_reducible refine AKt.yes (by assumption) ?_ | with_reducible refine AKt.no (by assumption) ?_ | with_reducible refine AKt.node (fun hb => ?_) (fun hb => ?_) | with_reducible refine AKt.need ?_ (fun hb => ?_) | with_reducible refine AKt.leaf ?_ | ((with_reducible show _ = true); assumption))
    exact AKp.doneE tabOK hfr (by rfl) (by rfl)
  have hwt : wOK l = true := by rw [← hw]; simp only [hF, f_ltI, f_leI, f_eqI, f_eqS, f_eqB, f_not, f_andB, f_orB, f_lenS, f_lenD, f_hasS, f_atS, f_hasC, f_subS, f_hasCat, f_app, f_wrap, f_add, f_sub, f_mul, f_appD, f_fits, f_hasV, f_subV, decide_eq_true_eq, decide_eq_false_iff_not, beq_iff_eq, beq_eq_false_iff_ne, Bool.and_eq_true, Bool.and_eq_false_iff, Bool.not_eq_true, Bool.not_eq_false, Bool.not_eq_eq_eq_not, Bool.not_true, Bool.not_false] at hb1; simpa using hb1
  have hsl : s.length ≤ 326 * l.length := by rw [hs, linesS, if_pos hwt]; exact linesOf_len hwt
  have q2 : uLook s = true := by subst huLines29 huLines291 huLines292 huLook huLook1 huLook2; exact decide_eq_true (by omega)
  refine AKt.need q2 fun _ => ?_
  refine AKt.node (fun hb2 => ?_) (fun hb2 => ?_)
  · repeat' (first | with_reducible refine AKt.have ?_ | with_reducible refine AKt.tt ?_ | with_reducible refine AKt.ff ?_ | with_reducible refine AKt.yes (by assumption) ?_ | with_reducible refine AKt.no (by assumption) ?_ | with_reducible refine AKt.node (fun hb => ?_) (fun hb => ?_) | with_reducible refine AKt.need ?_ (fun hb => ?_) | with_reducible refine AKt.leaf ?_ | ((with_reducible show _ = true); assumption))
    exact AKp.doneE tabOK hfr (by rfl) (by rfl)
  have he0 : e = 0 := by simp only [hF, f_ltI, f_leI, f_eqI, f_eqS, f_eqB, f_not, f_andB, f_orB, f_lenS, f_lenD, f_hasS, f_atS, f_hasC, f_subS, f_hasCat, f_app, f_wrap, f_add, f_sub, f_mul, f_appD, f_fits, f_hasV, f_subV, decide_eq_true_eq, decide_eq_false_iff_not, beq_iff_eq, beq_eq_false_iff_ne, Bool.and_eq_true, Bool.and_eq_false_iff, Bool.not_eq_true, Bool.not_eq_false, Bool.not_eq_eq_eq_not, Bool.not_true, Bool.not_false] at hb2; exact hb2
  have hokl : okT29 l := by
    by_cases c : okT29 l
    · exact c
    · have := ((look_ok hwt (by omega)).2 c).2
      rw [← hs, ← he, he0] at this
      cases this
  clear hb1 hb2
  obtain ⟨nv, hnv⟩ : ∃ z, z = F .lenD ed := ⟨_, rfl⟩
  have hnv' : nv = (l.length : Int) := by rw [hnv, hF, f_lenD, hel]
  repeat' (first | with_reducible refine AKt.have ?_ | with_reducible refine AKt.tt ?_ | with_reducible refine AKt.ff ?_ | with_reducible refine AKt.yes (by assumption) ?_ | with_reducible refine AKt.no (by assumption) ?_ | with_reducible refine AKt.node (fun hb => ?_) (fun hb => ?_) | with_reducible refine AKt.need ?_ (fun hb => ?_) | with_reducible refine AKt.leaf ?_ | ((with_reducible show _ = true); assumption))
  refine AKp.asRow 9 37 7 (by decide) rfl ?_
  conv => arg 4; arg 2; cbv
  refine AKp.enterLoop 11 ?_
  conv => arg 7; cbv
  refine AKl.invT hF tabOK hmix hnt hfr true _ hG (fun n vs hs => ∃ (i : Nat) (iv : Int) (m : List Tl) (md : List Dat), i + n = l.length ∧ iv = i ∧ m = (l.take i).filter (apartB id) ∧ md = tlDs m ∧ vs = [(10, .d (.s (.int .i64 iv))), (9, .row 0 7)] ∧ hs = [(0, .ds 37 7 md)]) l.length ⟨0, _, [], [], by omega, rfl, rfl, rfl, rfl, rfl⟩ (by repeat (first | exact True.intro | refine ⟨⟨rfl, rfl⟩, ?_⟩)) (by repeat (first | exact True.intro | refine ⟨⟨rfl, rfl, rfl⟩, ?_⟩)) ?_
  rintro J n vs hs hJ ⟨i, iv, m, md, hi, hiv, hm, hmd, rfl, rfl⟩
  conv => arg 4; cbv
  refine AKt.node (fun hb1 => ?_) (fun hb1 => ?_)
  · have hlt : i < l.length := by rw [hiv] at hb1; simp only [hF, f_ltI, f_leI, f_eqI, f_eqS, f_eqB, f_not, f_andB, f_orB, f_lenS, f_lenD, f_hasS, f_atS, f_hasC, f_subS, f_hasCat, f_app, f_wrap, f_add, f_sub, f_mul, f_appD, f_fits, f_hasV, f_subV, decide_eq_true_eq, decide_eq_false_iff_not, beq_iff_eq, beq_eq_false_iff_ne, Bool.and_eq_true, Bool.and_eq_false_iff, Bool.not_eq_true, Bool.not_eq_false, Bool.not_eq_eq_eq_not, Bool.not_true, Bool.not_false] at hb1; omega
    obtain ⟨t, ht⟩ : ∃ t, l[i]? = some t := ⟨_, List.getElem?_eq_getElem hlt⟩
    have hd : ed[i]? = some t.dat := by rw [hed, tlDs, List.getElem?_map, ht]; rfl
    have k1 : F .hasD ed iv [.int .i64, .int .i64, .int .i64, .str, .int .i64, .int .i64, .int .u64] = true := t_hasD hF hd hiv rfl
    have g0 : F .intA ed iv 0 = t.a := t_intA hF hd hiv rfl
    have g1 : F .intA ed iv 1 = t.k := t_intA hF hd hiv rfl
    have g2 : F .intA ed iv 2 = t.i := t_intA hF hd hiv rfl
    have g3 : F .strA ed iv 3 = t.lv := t_strA hF hd hiv rfl
    have g4 : F .intA ed iv 4 = t.s := t_intA hF hd hiv rfl
    have g5 : F .intA ed iv 5 = t.w := t_intA hF hd hiv rfl
    have g6 : F .intA ed iv 6 = t.d := t_intA hF hd hiv rfl
    rw [g0, g1, g2, g3, g4, g5, g6]
    have hml : m.length ≤ 100 := by
      have h1 := List.length_filter_le (apartB id) (l.take i)
      rw [← hm, List.length_take] at h1
      omega
    obtain ⟨nd, hnd⟩ : ∃ z, z = F .appD md [.agg [.s (.int .i64 t.a), .s (.int .i64 t.k), .s (.int .i64 t.i), .s (.str t.lv), .s (.int .i64 t.s), .s (.int .i64 t.w), .s (.int .u64 t.d)]] := ⟨_, rfl⟩
    have hnd' : nd = tlDs (m ++ [t]) := by rw [hnd, hF, f_appD, hmd]; simp [tlDs, Tl.dat]
    have hft : F .fits 64 nd = true := t_fits hF (by rw [hnd', tlDs_len, List.length_append]; simp; omega)
    have yes : apartB id t = true → m ++ [t] = (l.take (i + 1)).filter (apartB id) := fun h => by
      rw [List.take_add_one, ht, Option.toList_some, List.filter_append, ← hm, List.filter_cons, if_pos h, List.filter_nil]
    have no : apartB id t = false → m = (l.take (i + 1)).filter (apartB id) := fun h => by
      rw [List.take_add_one, ht, Option.toList_some, List.filter_append, ← hm, List.filter_cons, if_neg (by rw [h]; decide), List.filter_nil, List.append_nil]
    rw [← hnd]
    refine AKt.need k1 fun _ => ?_
    refine AKt.node (fun hb2 => ?_) (fun hb2 => ?_)
    · have ha : apartB id t = true := by simp only [hF, f_ltI, f_leI, f_eqI, f_eqS, f_eqB, f_not, f_andB, f_orB, f_lenS, f_lenD, f_hasS, f_atS, f_hasC, f_subS, f_hasCat, f_app, f_wrap, f_add, f_sub, f_mul, f_appD, f_fits, f_hasV, f_subV, decide_eq_true_eq, decide_eq_false_iff_not, beq_iff_eq, beq_eq_false_iff_ne, Bool.and_eq_true, Bool.and_eq_false_iff, Bool.not_eq_true, Bool.not_eq_false, Bool.not_eq_eq_eq_not, Bool.not_true, Bool.not_false] at hb2; rw [apartB, hb2]; rfl
      repeat' (first | with_reducible refine AKt.have ?_ | with_reducible refine AKt.tt ?_ | with_reducible refine AKt.ff ?_ | with_reducible refine AKt.yes (by assumption) ?_ | with_reducible refine AKt.no (by assumption) ?_ | with_reducible refine AKt.node (fun hb => ?_) (fun hb => ?_) | with_reducible refine AKt.need ?_ (fun hb => ?_) | with_reducible refine AKt.leaf ?_ | ((with_reducible show _ = true); assumption))
      refine AKp.againR [(0, 1)] _ hfr (by repeat (first | exact True.intro | refine ⟨⟨rfl, rfl⟩, ?_⟩)) (by repeat (first | exact True.intro | refine ⟨⟨Nat.le_of_ble_eq_true rfl, rfl, rfl⟩, ?_⟩)) rfl (hJ (n - 1) _ _ (by omega) ⟨i + 1, _, m ++ [t], _, by omega, inc_i hF hiv (by omega), yes ha, hnd', rfl, rfl⟩)
    refine AKt.need k1 fun _ => ?_
    refine AKt.node (fun hb3 => ?_) (fun hb3 => ?_)
    · have ha : apartB id t = true := by simp only [hF, f_ltI, f_leI, f_eqI, f_eqS, f_eqB, f_not, f_andB, f_orB, f_lenS, f_lenD, f_hasS, f_atS, f_hasC, f_subS, f_hasCat, f_app, f_wrap, f_add, f_sub, f_mul, f_appD, f_fits, f_hasV, f_subV, decide_eq_true_eq, decide_eq_false_iff_not, beq_iff_eq, beq_eq_false_iff_ne, Bool.and_eq_true, Bool.and_eq_false_iff, Bool.not_eq_true, Bool.not_eq_false, Bool.not_eq_eq_eq_not, Bool.not_true, Bool.not_false] at hb3; rw [apartB, hb3]; simp
      repeat' (first | with_reducible refine AKt.have ?_ | with_reducible refine AKt.tt ?_ | with_reducible refine AKt.ff ?_ | with_reducible refine AKt.yes (by assumption) ?_ | with_reducible refine AKt.no (by assumption) ?_ | with_reducible refine AKt.node (fun hb => ?_) (fun hb => ?_) | with_reducible refine AKt.need ?_ (fun hb => ?_) | with_reducible refine AKt.leaf ?_ | ((with_reducible show _ = true); assumption))
      refine AKp.againR [(0, 1)] _ hfr (by repeat (first | exact True.intro | refine ⟨⟨rfl, rfl⟩, ?_⟩)) (by repeat (first | exact True.intro | refine ⟨⟨Nat.le_of_ble_eq_true rfl, rfl, rfl⟩, ?_⟩)) rfl (hJ (n - 1) _ _ (by omega) ⟨i + 1, _, m ++ [t], _, by omega, inc_i hF hiv (by omega), yes ha, hnd', rfl, rfl⟩)
    refine AKt.need k1 fun _ => ?_
    refine AKt.node (fun hb4 => ?_) (fun hb4 => ?_)
    · have ha : apartB id t = true := by simp only [hF, f_ltI, f_leI, f_eqI, f_eqS, f_eqB, f_not, f_andB, f_orB, f_lenS, f_lenD, f_hasS, f_atS, f_hasC, f_subS, f_hasCat, f_app, f_wrap, f_add, f_sub, f_mul, f_appD, f_fits, f_hasV, f_subV, decide_eq_true_eq, decide_eq_false_iff_not, beq_iff_eq, beq_eq_false_iff_ne, Bool.and_eq_true, Bool.and_eq_false_iff, Bool.not_eq_true, Bool.not_eq_false, Bool.not_eq_eq_eq_not, Bool.not_true, Bool.not_false] at hb4; rw [apartB, decide_eq_false hb4]; simp
      repeat' (first | with_reducible refine AKt.have ?_ | with_reducible refine AKt.tt ?_ | with_reducible refine AKt.ff ?_ | with_reducible refine AKt.yes (by assumption) ?_ | with_reducible refine AKt.no (by assumption) ?_ | with_reducible refine AKt.node (fun hb => ?_) (fun hb => ?_) | with_reducible refine AKt.need ?_ (fun hb => ?_) | with_reducible refine AKt.leaf ?_ | ((with_reducible show _ = true); assumption))
      refine AKp.againR [(0, 1)] _ hfr (by repeat (first | exact True.intro | refine ⟨⟨rfl, rfl⟩, ?_⟩)) (by repeat (first | exact True.intro | refine ⟨⟨Nat.le_of_ble_eq_true rfl, rfl, rfl⟩, ?_⟩)) rfl (hJ (n - 1) _ _ (by omega) ⟨i + 1, _, m ++ [t], _, by omega, inc_i hF hiv (by omega), yes ha, hnd', rfl, rfl⟩)
    · have ha : apartB id t = false := by simp only [hF, f_ltI, f_leI, f_eqI, f_eqS, f_eqB, f_not, f_andB, f_orB, f_lenS, f_lenD, f_hasS, f_atS, f_hasC, f_subS, f_hasCat, f_app, f_wrap, f_add, f_sub, f_mul, f_appD, f_fits, f_hasV, f_subV, decide_eq_true_eq, decide_eq_false_iff_not, beq_iff_eq, beq_eq_false_iff_ne, Bool.and_eq_true, Bool.and_eq_false_iff, Bool.not_eq_true, Bool.not_eq_false, Bool.not_eq_eq_eq_not, Bool.not_true, Bool.not_false] at hb2 hb3 hb4; rw [apartB, decide_eq_false hb2, decide_eq_false hb3, decide_eq_true hb4]; rfl
      repeat' (first | with_reducible refine AKt.have ?_ | with_reducible refine AKt.tt ?_ | with_reducible refine AKt.ff ?_ | with_reducible refine AKt.yes (by assumption) ?_ | with_reducible refine AKt.no (by assumption) ?_ | with_reducible refine AKt.node (fun hb => ?_) (fun hb => ?_) | with_reducible refine AKt.need ?_ (fun hb => ?_) | with_reducible refine AKt.leaf ?_ | ((with_reducible show _ = true); assumption))
      refine AKp.again _ hfr (by repeat (first | exact True.intro | refine ⟨⟨rfl, rfl⟩, ?_⟩)) (by repeat (first | exact True.intro | refine ⟨⟨rfl, rfl, rfl⟩, ?_⟩)) (hJ (n - 1) _ _ (by omega) ⟨i + 1, _, m, _, by omega, inc_i hF hiv (by omega), no ha, hmd, rfl, rfl⟩)
  · have hge : ¬ i < l.length := by rw [hiv] at hb1; simp only [hF, f_ltI, f_leI, f_eqI, f_eqS, f_eqB, f_not, f_andB, f_orB, f_lenS, f_lenD, f_hasS, f_atS, f_hasC, f_subS, f_hasCat, f_app, f_wrap, f_add, f_sub, f_mul, f_appD, f_fits, f_hasV, f_subV, decide_eq_true_eq, decide_eq_false_iff_not, beq_iff_eq, beq_eq_false_iff_ne, Bool.and_eq_true, Bool.and_eq_false_iff, Bool.not_eq_true, Bool.not_eq_false, Bool.not_eq_eq_eq_not, Bool.not_true, Bool.not_false] at hb1; omega
    rw [List.take_of_length_le (by omega)] at hm
    have hmm : ∀ t, t ∈ m → t ∈ l := fun t ht => by rw [hm] at ht; exact (List.mem_filter.1 ht).1
    have hml : m.length ≤ 100 := by
      have h1 := List.length_filter_le (apartB id) l
      rw [← hm] at h1
      omega
    have q3 : uLines29 md = true := by subst huLines29 huLines291 huLines292 huLook huLook1 huLook2; rw [hmd]; exact htsP m (by omega) fun t ht => List.mem_of_mem_take (by rw [← hl]; exact hmm t ht)
    have hwm : wOK m = true := List.all_eq_true.2 fun t ht => List.all_eq_true.1 hwt t (hmm t ht)
    have f4 : uLines292 md = true := by rw [hmd]; subst huLines29 huLines291 huLines292 huLook huLook1 huLook2; show wOK (unTs (tlDs m)) = _; rw [un_tl]; exact hwm
    obtain ⟨u, hu⟩ : ∃ z, z = linesS m := ⟨_, rfl⟩
    have f5 : uLines291 md = u := by rw [hu, hmd]; subst huLines29 huLines291 huLines292 huLook huLook1 huLook2; show linesS (unTs (tlDs m)) = _; rw [un_tl]
    have hul : u.length ≤ 326 * m.length := by rw [hu, linesS, if_pos hwm]; exact linesOf_len hwm
    have q4 : uLook u = true := by subst huLines29 huLines291 huLines292 huLook huLook1 huLook2; exact decide_eq_true (by omega)
    have res : lookF u = (0, 0) := by rw [hu]; exact (look_ok hwm (by omega)).1 (by rw [hm]; exact apart_ok hokl)
    have f6 : uLook1 u = 0 := by subst huLines29 huLines291 huLines292 huLook huLook1 huLook2; exact congrArg Prod.fst res
    have f7 : uLook2 u = 0 := by subst huLines29 huLines291 huLines292 huLook huLook1 huLook2; exact congrArg Prod.snd res
    have eqI : ∀ b : Int, F .eqI b b = true := fun b => by rw [hF, f_eqI]; simp
    repeat' (first | with_reducible refine AKt.have ?_ | with_reducible refine AKt.tt ?_ | with_reducible refine AKt.ff ?_ | with_reducible refine AKt.yes (by assumption) ?_ | with_reducible refine AKt.no (by assumption) ?_ | with_reducible refine AKt.node (fun hb => ?_) (fun hb => ?_) | with_reducible refine AKt.need ?_ (fun hb => ?_) | with_reducible refine AKt.leaf ?_ | ((with_reducible show _ = true); assumption))
    refine AKp.freeze 0 rfl ?_
    conv => arg 4; arg 2; cbv
    refine AK.runT hF tabOK hmix hnt hfr false _ hG ?_
    conv => arg 4; cbv
    rw [f4, f5, f6, f7, eqI]
    repeat' (first | with_reducible refine AKt.have ?_ | with_reducible refine AKt.tt ?_ | with_reducible refine AKt.ff ?_ | with_reducible refine AKt.yes (by assumption) ?_ | with_reducible refine AKt.no (by assumption) ?_ | with_reducible refine AKt.node (fun hb => ?_) (fun hb => ?_) | with_reducible refine AKt.need ?_ (fun hb => ?_) | with_reducible refine AKt.leaf ?_ | ((with_reducible show _ = true); assumption))
    all_goals exact AKp.doneE tabOK hfr (by rfl) (by rfl)
end Go.Proofs.YtlcgjeafmbbipaaDoor
