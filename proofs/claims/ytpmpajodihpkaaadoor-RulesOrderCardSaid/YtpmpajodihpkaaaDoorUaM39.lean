/- The library of this claim and its walks, part 39, joined out of smaller texts. No statement stands in it. -/
import Derived.Test.YtpmpajodihpkaaaDoorUaM38
/- Chapter 13: RulesOrder. -/
namespace Go.Proofs.YtpmpajodihpkaaaDoor
open Go Go.Proofs Go.Ua Go.Extern
set_option linter.unusedVariables false
set_option linter.unusedSimpArgs false
set_option maxRecDepth 10000
theorem rot_get {α : Type} {l : List α} {r i : Nat} {x : α} (hr : r < l.length) (hi : i < l.length) (hx : l[(i + r) % l.length]? = some x) : (l.drop r ++ l.take r)[i]? = some x := by
  by_cases h : i + r < l.length
  · rw [Nat.mod_eq_of_lt h] at hx
    rw [List.getElem?_append_left (by rw [List.length_drop]; omega), List.getElem?_drop, Nat.add_comm]
    exact hx
  · have e : (i + r) % l.length = i + r - l.length := by
      rw [Nat.mod_eq_sub_mod (by omega), Nat.mod_eq_of_lt (by omega)]
    rw [e] at hx
    rw [List.getElem?_append_right (by rw [List.length_drop]; omega), List.length_drop, List.getElem?_take, if_pos (by omega)]
    have : i - (l.length - r) = i + r - l.length := by omega
    rw [this]
    exact hx
def rotN (t : Int) (m : Nat) : Nat := (IntKind.u64.wrap t).toNat % m
set_option maxHeartbeats 8000000 in
set_option cbv.maxSteps 10000000 in
set_option maxRecDepth 100000 in
theorem rulesOrder_spec (a b c d : Int) (ls ss : List Dat) (turn : Int) (hb : isCf0 ls ss = true) : ESpec Tryd.prog 4 [.d (.agg [.s (.int .i64 a), .s (.int .i64 b), .s (.int .i64 c), .s (.int .i64 d), .view 10 ls, .view 5 ss]), .d (.s (.int .i64 turn))] (fun x => x = .d (.s (.bool true))) := by
  obtain ⟨uSmallC, huSmallC⟩ : ∃ u : List Dat → List Dat → Bool, u = isCf0 := ⟨_, rfl⟩
  obtain ⟨uSmallC1, huSmallC1⟩ : ∃ u : Int → Int → Int → Int → List Dat → List Dat → Bool, u = fun a b c d ls ss => smallF ⟨a, b, c, d, unLv ls, unSm ss⟩ := ⟨_, rfl⟩
  obtain ⟨uFill, huFill⟩ : ∃ u : Int → Int → Int → Int → List Dat → List Dat → Bool, u = fun a b c d ls ss => isCf0 ls ss && cpC ⟨a, b, c, d, unLv ls, unSm ss⟩ := ⟨_, rfl⟩
  obtain ⟨uFill1, huFill1⟩ : ∃ u : Int → Int → Int, u = orF := ⟨_, rfl⟩
  obtain ⟨uFill2, huFill2⟩ : ∃ u : List Dat → List Dat, u = filL := ⟨_, rfl⟩
  obtain ⟨uFill3, huFill3⟩ : ∃ u : List Dat → List Dat, u = filS := ⟨_, rfl⟩
  obtain ⟨uCopyR, huCopyR⟩ : ∃ u : Int → Int → Int → Int → List Dat → List Dat → Bool, u = fun a b c d ls ss => isCf0 ls ss && cpC ⟨a, b, c, d, unLv ls, unSm ss⟩ := ⟨_, rfl⟩
  obtain ⟨uCopyR1, huCopyR1⟩ : ∃ u : List Dat → List Dat, u = idLv := ⟨_, rfl⟩
  obtain ⟨uCopyR2, huCopyR2⟩ : ∃ u : List Dat → List Dat, u = idSm := ⟨_, rfl⟩
  have hG : TblOK Tryd.prog [(5, .p (φAwake13 )), (6, .p (φSmallC uSmallC uSmallC1)), (7, .m (φFill uFill uFill1 uFill2 uFill3)), (10, .m (φCopyR uCopyR uCopyR1 uCopyR2))] := ⟨φAwake13_ok, (by rw [huSmallC, huSmallC1]; exact φSmallC_ok), (by rw [huFill, huFill1, huFill2, huFill3]; exact φFill_ok), (by rw [huCopyR, huCopyR1, huCopyR2]; exact φCopyR_ok), trivial⟩
  have hb0 := hb
  simp only [isCf0, Bool.and_eq_true] at hb
  have qs : uSmallC ls ss = true := by rw [huSmallC]; exact hb0
  have vs1 : uSmallC1 a b c d ls ss = smallF ⟨a, b, c, d, unLv ls, unSm ss⟩ := by rw [huSmallC1]
  refine ESpec.enter Tryd.func4 (by kernel_rfl) rfl (Nat.le_of_ble_eq_true rfl) fun hok cx hnt hfr => ?_
  obtain ⟨F, hF⟩ := real_ex
  refine AK.runTs hF tabOK hmix hnt hfr [6] true _ hG ?_
  conv => arg 4; cbv
  refine AKt.need rfl fun _ => AKt.no (by rw [hF]; rfl) ?_
  refine AKt.need qs fun _ => ?_
  refine AKt.node (fun t => ?_) (fun t => ?_)
  · repeat' (first | with_reducible (first | refine AKt.have ?_ | refine AKt.tt ?_ | refine AKt.ff ?_ | refine AKt.yes (by assumption) ?_ | refine AKt.no (by assumption) ?_ | refine AKt.node (fun hb => ?_) (fun hb => ?_) | refine AKt.need ?_ (fun hb => ?_) | refine AKt.leaf ?_) | ((with_reducible show _ = true); assumption))
    refine AKp.doneE tabOK hfr (by rfl) ?_
    show _ = _
    simp only [tupAV]
  simp only [not_iff hF] at t
  rw [vs1] at t
  have hcp := cp_small t
  have qf : uFill a b c d ls ss = true := by rw [huFill]; show (isCf0 ls ss && cpC _) = true; rw [hb0, hcp]; rfl
  refine AKt.need qf fun _ => AKt.leaf ?_
  refine AKp.freeze 1 rfl ?_
  conv => arg 4; arg 2; cbv
  refine AKp.freeze 2 rfl ?_
  conv => arg 4; arg 2; cbv
  obtain ⟨C, hC⟩ : ∃ z, z = fillF ⟨a, b, c, d, unLv ls, unSm ss⟩ := ⟨_, rfl⟩
  obtain ⟨ct, hct⟩ : ∃ z, z = C.tt := ⟨_, rfl⟩
  obtain ⟨cp, hcpe⟩ : ∃ z, z = C.pe := ⟨_, rfl⟩
  obtain ⟨cr, hcr⟩ : ∃ z, z = C.pr := ⟨_, rfl⟩
  obtain ⟨cm, hcm⟩ : ∃ z, z = C.mo := ⟨_, rfl⟩
  obtain ⟨L, hL⟩ : ∃ z, z = lvDs C.ls := ⟨_, rfl⟩
  obtain ⟨S, hS⟩ : ∃ z, z = smDs C.ss := ⟨_, rfl⟩
  have w1 : uFill1 a 100 = ct := by rw [huFill1, hct, hC]; rfl
  have w2 : uFill1 b 10 = cp := by rw [huFill1, hcpe, hC]; rfl
  have w3 : uFill1 c 100 = cr := by rw [huFill1, hcr, hC]; rfl
  have w4 : uFill1 d 10 = cm := by rw [huFill1, hcm, hC]; rfl
  have w5 : uFill2 ls = L := by rw [huFill2, hL, hC]; rfl
  have w6 : uFill3 ss = S := by rw [huFill3, hS, hC]; rfl
  rw [w1, w2, w3, w4, w5, w6]
  have hcf : isCf0 L S = true := by rw [hL, hS, isCf0, is_lv, is_sm]; rfl
  have hll : L.length = C.ls.length := by rw [hL, lvDs_len]
  have hsl : S.length = C.ss.length := by rw [hS, smDs_len]
  have eC : (⟨ct, cp, cr, cm, unLv L, unSm S⟩ : Cf) = C := by rw [hct, hcpe, hcr, hcm, hL, hS, un_lv, un_sm]
  have hcpC : cpC C = true := by rw [hC]; exact fill_cp t
  have qc : uCopyR ct cp cr cm L S = true := by rw [huCopyR]; show (isCf0 L S && cpC ⟨ct, cp, cr, cm, unLv L, unSm S⟩) = true; rw [hcf, eC, hcpC]; rfl
  have v1 : uCopyR1 L = L := by rw [huCopyR1, hL]; show lvDs (unLv _) = _; rw [un_lv]
  have v2 : uCopyR2 S = S := by rw [huCopyR2, hS]; show smDs (unSm _) = _; rw [un_sm]
  refine AK.runT hF tabOK hmix hnt hfr true _ hG ?_
  conv => arg 4; cbv
  refine AKt.need qc fun _ => ?_
  rw [v1, v2]
  repeat' (first | with_reducible (first | refine AKt.have ?_ | refine AKt.tt ?_ | refine AKt.ff ?_ | refine AKt.yes (by assumption) ?_ | refine AKt.no (by assumption) ?_ | refine AKt.node (fun hb => ?_) (fun hb => ?_) | refine AKt.need ?_ (fun hb => ?_) | refine AKt.leaf ?_) | ((with_reducible show _ = true); assumption))
  have hC1 : C.ls.length ≤ 1000 := by
    simp only [cpC, Bool.and_eq_true, decide_eq_true_eq] at hcpC
    exact hcpC.1
  have hC2 : C.ss.length ≤ 1000 := by
    simp only [cpC, Bool.and_eq_true, decide_eq_true_eq] at hcpC
    exact hcpC.2.1
  have lenL : F .lenD L = (C.ls.length : Int) := by rw [hF, f_lenD, hll]
  have lenS : F .lenD S = (C.ss.length : Int) := by rw [hF, f_lenD, hsl]
  have wsub : ∀ x y : Int, -1000000 ≤ x - y → x - y ≤ 9223372036854775807 → F .wrap .i64 (F .sub x y) = x - y := fun x y h1 h2 => by
    rw [hF]
    show IntKind.i64.wrap (x - y) = _
    exact w_i64 (by omega) (by omega)
  have wadd : ∀ x y : Int, 0 ≤ x + y → x + y ≤ 9223372036854775807 → F .wrap .i64 (F .add x y) = x + y := fun x y h1 h2 => by
    rw [hF]
    show IntKind.i64.wrap (x + y) = _
    exact w_i64 (by omega) (by omega)
  obtain ⟨R, hR⟩ : ∃ z, z = C.ls.reverse := ⟨_, rfl⟩
  have hRl : R.length = C.ls.length := by rw [hR, List.length_reverse]
  obtain ⟨T, hT⟩ : ∃ z, z = C.ss.drop (rotN turn C.ss.length) ++ C.ss.take (rotN turn C.ss.length) := ⟨_, rfl⟩
  have hTl : T.length = C.ss.length := by rw [hT, (rot_perm _ _).length_eq]
  refine AKp.enterLoop 9 ?_
  conv => arg 7; cbv
  refine AKl.invTsq hF tabOK hmix hnt (Nat.le_trans (Nat.le_of_eq hfr) (Nat.le_of_ble_eq_true rfl)) [] true _ hG (fun n vs hs => ∃ (i : Nat) (iv : Int) (ad : List Dat), i + n = C.ls.length ∧ iv = i ∧ ad = lvDs (R.take i ++ C.ls.drop i) ∧ vs = [(8, .d (.s (.int .i64 iv)))] ∧ hs = [(3, .ds 33 10 ad), (4, .ds 40 5 S), (5, .cs 25 [.d (.s (.int .i64 ct)), .d (.s (.int .i64 cp)), .d (.s (.int .i64 cr)), .d (.s (.int .i64 cm)), .row 3 10, .row 4 5]), (0, .cs 25 [.d (.s (.int .i64 ct)), .d (.s (.int .i64 cp)), .d (.s (.int .i64 cr)), .d (.s (.int .i64 cm)), .d (.view 10 L), .d (.view 5 S)])]) C.ls.length ⟨0, _, L, by omega, rfl, by rw [hL]; rfl, rfl, rfl⟩ (by repeat (first | exact True.intro | refine ⟨⟨rfl, rfl⟩, ?_⟩)) (by repeat (first | exact True.intro | refine ⟨⟨rfl, rfl, rfl⟩, ?_⟩)) ?_
  rintro J n vs hs hJ ⟨i, iv, ad, hi, hiv, had, rfl, rfl⟩
  conv => arg 4; cbv
  refine AKt.node (fun hbb => ?_) (fun hbb => ?_)
  · have hlt : i < C.ls.length := by rw [lenL, hF, f_ltI, hiv] at hbb; have := of_decide_eq_true hbb; omega
    have hix : F .wrap .i64 (F .sub (F .wrap .i64 (F .sub (F .lenD L) 1)) iv) = ((C.ls.length - 1 - i : Nat) : Int) := by
      rw [lenL, wsub _ 1 (by omega) (by omega), wsub _ _ (by omega) (by omega)]
      omega
    obtain ⟨x, hx⟩ : ∃ x, C.ls[C.ls.length - 1 - i]? = some x := ⟨_, List.getElem?_eq_getElem (by omega)⟩
    have hxr : R[i]? = some x := by rw [hR, List.getElem?_reverse (by omega)]; exact hx
    obtain ⟨jv, hjv⟩ : ∃ z, z = F .wrap .i64 (F .sub (F .wrap .i64 (F .sub (F .lenD L) 1)) iv) := ⟨_, rfl⟩
    have hd : L[C.ls.length - 1 - i]? = some x.dat := by rw [hL]; exact lvDs_get hx
    rw [← hjv] at hix ⊢
    have hx_ : F .hasD L jv [.str, .int .i64, .int .i64, .int .i64, .int .i64, .int .i64, .int .i64, .int .i64, .int .i64, .int .i64] = true := t_hasD hF hd hix rfl
    obtain ⟨x0, hx0⟩ : ∃ z, z = x.nm := ⟨_, rfl⟩
    try rw [show F .strA L jv 0 = x0 by rw [hx0]; exact t_strA hF hd hix rfl]
    obtain ⟨x1, hx1⟩ : ∃ z, z = x.kd := ⟨_, rfl⟩
    try rw [show F .intA L jv 1 = x1 by rw [hx1]; exact t_intA hF hd hix rfl]
    obtain ⟨x2, hx2⟩ : ∃ z, z = x.sh := ⟨_, rfl⟩
    try rw [show F .intA L jv 2 = x2 by rw [hx2]; exact t_intA hF hd hix rfl]
    obtain ⟨x3, hx3⟩ : ∃ z, z = x.ld := ⟨_, rfl⟩
    try rw [show F .intA L jv 3 = x3 by rw [hx3]; exact t_intA hF hd hix rfl]
    obtain ⟨x4, hx4⟩ : ∃ z, z = x.bo := ⟨_, rfl⟩
    try rw [show F .intA L jv 4 = x4 by rw [hx4]; exact t_intA hF hd hix rfl]
    obtain ⟨x5, hx5⟩ : ∃ z, z = x.qu := ⟨_, rfl⟩
    try rw [show F .intA L jv 5 = x5 by rw [hx5]; exact t_intA hF hd hix rfl]
    obtain ⟨x6, hx6⟩ : ∃ z, z = x.ha := ⟨_, rfl⟩
    try rw [show F .intA L jv 6 = x6 by rw [hx6]; exact t_intA hF hd hix rfl]
    obtain ⟨x7, hx7⟩ : ∃ z, z = x.le := ⟨_, rfl⟩
    try rw [show F .intA L jv 7 = x7 by rw [hx7]; exact t_intA hF hd hix rfl]
    obtain ⟨x8, hx8⟩ : ∃ z, z = x.wa := ⟨_, rfl⟩
    try rw [show F .intA L jv 8 = x8 by rw [hx8]; exact t_intA hF hd hix rfl]
    obtain ⟨x9, hx9⟩ : ∃ z, z = x.gu := ⟨_, rfl⟩
    try rw [show F .intA L jv 9 = x9 by rw [hx9]; exact t_intA hF hd hix rfl]
    have hal : ad.length = C.ls.length := by rw [had, lvDs_len, List.length_append, List.length_take, List.length_drop]; omega
    have n1 : F .hasN ad iv = true := t_hasN hF hiv (by omega)
    rw [t_toN hF hiv, t_natI hF i, ← hiv]
    obtain ⟨nd, hnd⟩ : ∃ z, z = F .setD ad i (.agg [.s (.str x0), .s (.int .i64 x1), .s (.int .i64 x2), .s (.int .i64 x3), .s (.int .i64 x4), .s (.int .i64 x5), .s (.int .i64 x6), .s (.int .i64 x7), .s (.int .i64 x8), .s (.int .i64 x9)]) := ⟨_, rfl⟩
    have hnd2 : nd = lvDs (R.take (i + 1) ++ C.ls.drop (i + 1)) := by
      rw [← over_set hRl hxr, hnd, t_setD hF, had, hx0, hx1, hx2, hx3, hx4, hx5, hx6, hx7, hx8, hx9]
      show _ = List.map Lv.dat (List.set _ i x)
      rw [List.map_set]
      rfl
    rw [← hnd]
    repeat' (first | with_reducible (first | refine AKt.have ?_ | refine AKt.tt ?_ | refine AKt.ff ?_ | refine AKt.yes (by assumption) ?_ | refine AKt.no (by assumption) ?_ | refine AKt.node (fun hb => ?_) (fun hb => ?_) | refine AKt.need ?_ (fun hb => ?_) | refine AKt.leaf ?_) | ((with_reducible show _ = true); assumption))
    refine AKp.again _ hfr (by repeat (first | exact True.intro | refine ⟨⟨rfl, rfl⟩, ?_⟩)) (by repeat (first | exact True.intro | refine ⟨⟨rfl, rfl, rfl⟩, ?_⟩)) (hJ (n - 1) _ _ (by omega) ⟨i + 1, _, _, by omega, inc_i hF hiv (by omega), hnd2, rfl, rfl⟩)
  have hge : ¬ i < C.ls.length := by rw [lenL, hF, f_ltI, hiv] at hbb; have := of_decide_eq_false hbb; omega
  have hR2 : R.take i ++ C.ls.drop i = R := by rw [List.take_of_length_le (by omega), List.drop_eq_nil_of_le (by omega), List.append_nil]
  rw [hR2] at had
  clear hJ hbb
  repeat' (first | with_reducible (first | refine AKt.have ?_ | refine AKt.tt ?_ | refine AKt.ff ?_ | refine AKt.yes (by assumption) ?_ | refine AKt.no (by assumption) ?_ | refine AKt.node (fun hb => ?_) (fun hb => ?_) | refine AKt.need ?_ (fun hb => ?_) | refine AKt.leaf ?_) | ((with_reducible show _ = true); assumption))
  refine AKp.enterLoop 10 ?_
  conv => arg 7; cbv
  refine AKl.invTsq hF tabOK hmix hnt (Nat.le_trans (Nat.le_of_eq hfr) (Nat.le_of_ble_eq_true rfl)) [16] true _ hG (fun n vs hs => ∃ (i : Nat) (iv : Int) (sd : List Dat), i + n = C.ss.length ∧ iv = i ∧ sd = smDs (T.take i ++ C.ss.drop i) ∧ vs = [(9, .d (.s (.int .i64 iv)))] ∧ hs = [(3, .ds 33 10 ad), (4, .ds 40 5 sd), (5, .cs 25 [.d (.s (.int .i64 ct)), .d (.s (.int .i64 cp)), .d (.s (.int .i64 cr)), .d (.s (.int .i64 cm)), .row 3 10, .row 4 5]), (0, .cs 25 [.d (.s (.int .i64 ct)), .d (.s (.int .i64 cp)), .d (.s (.int .i64 cr)), .d (.s (.int .i64 cm)), .d (.view 10 L), .d (.view 5 S)])]) C.ss.length ⟨0, _, S, by omega, rfl, by rw [hS]; rfl, rfl, rfl⟩ (by repeat (first | exact True.intro | refine ⟨⟨rfl, rfl⟩, ?_⟩)) (by repeat (first | exact True.intro | refine ⟨⟨rfl, rfl, rfl⟩, ?_⟩)) ?_
  rintro J n vs hs hJ ⟨i, iv, sd, hi, hiv, hsd, rfl, rfl⟩
  conv => arg 4; cbv
  refine AKt.node (fun hbb => ?_) (fun hbb => ?_)
  · have hlt : i < C.ss.length := by rw [lenS, hF, f_ltI, hiv] at hbb; have := of_decide_eq_true hbb; omega
    obtain ⟨m, hm⟩ : ∃ z, z = C.ss.length := ⟨_, rfl⟩
    have hm0 : 0 < m := by omega
    have hmb : m ≤ 1000 := by omega
    have wu : F .wrap .u64 (F .lenD S) = (m : Int) := by rw [lenS, ← hm, hF]; exact w_u64 (by omega) (by omega)
    have nz1 : F .nz (F .wrap .u64 (F .lenD S)) = true := by
      rw [wu, hF]
      show ((m : Int) != 0) = true
      simp
      omega
    have nz2 : F .nz (F .lenD S) = true := by
      rw [lenS, ← hm, hF]
      show ((m : Int) != 0) = true
      simp
      omega
    have hrot : rotN turn m < m := Nat.mod_lt _ hm0
    have tn : (0 : Int) ≤ IntKind.u64.wrap turn := by
      have := (wrap_within .u64 turn).1
      simpa [IntKind.min, IntKind.signed] using this
    have tm : F .tmod (F .wrap .u64 turn) (F .wrap .u64 (F .lenD S)) = (rotN turn m : Int) := by
      rw [wu, hF]
      show (IntKind.u64.wrap turn).tmod (m : Int) = _
      rw [Int.tmod_eq_emod_of_nonneg tn]
      rw [show ((rotN turn m : Nat) : Int) = ((IntKind.u64.wrap turn).toNat : Int) % (m : Int) from Int.natCast_emod _ _, Int.toNat_of_nonneg tn]
    have t2 : F .wrap .i64 (rotN turn m : Int) = (rotN turn m : Int) := by rw [hF]; exact w_i64 (by omega) (by omega)
    have t3 : F .wrap .i64 (F .add iv (rotN turn m : Int)) = ((i + rotN turn m : Nat) : Int) := by rw [wadd _ _ (by omega) (by omega), hiv]; omega
    have t4 : F .tmod ((i + rotN turn m : Nat) : Int) (F .lenD S) = (((i + rotN turn m) % m : Nat) : Int) := by
      rw [lenS, ← hm, hF]
      show (((i + rotN turn m : Nat) : Int)).tmod (m : Int) = _
      rw [Int.tmod_eq_emod_of_nonneg (by omega)]
      omega
    rw [tm, t2, t3, t4]
    obtain ⟨jv, hjv⟩ : ∃ z : Int, z = (((i + rotN turn m) % m : Nat) : Int) := ⟨_, rfl⟩
    have hjl : (i + rotN turn m) % m < C.ss.length := by rw [← hm]; exact Nat.mod_lt _ hm0
    obtain ⟨x, hx⟩ : ∃ x, C.ss[(i + rotN turn m) % m]? = some x := ⟨_, List.getElem?_eq_getElem hjl⟩
    have hxr : T[i]? = some x := by rw [hT]; exact rot_get (by rw [← hm]; exact hrot) hlt (by rw [← hm]; exact hx)
    have hd : S[(i + rotN turn m) % m]? = some x.dat := by rw [hS]; exact smDs_get hx
    rw [← hjv]
    have hx_ : F .hasD S jv [.str, .str, .int .i64, .int .i64, .view 5] = true := t_hasD hF hd hjv rfl
    obtain ⟨x0, hx0⟩ : ∃ z, z = x.nm := ⟨_, rfl⟩
    try rw [show F .strA S jv 0 = x0 by rw [hx0]; exact t_strA hF hd hjv rfl]
    obtain ⟨x1, hx1⟩ : ∃ z, z = x.lv := ⟨_, rfl⟩
    try rw [show F .strA S jv 1 = x1 by rw [hx1]; exact t_strA hF hd hjv rfl]
    obtain ⟨x2, hx2⟩ : ∃ z, z = x.rk := ⟨_, rfl⟩
    try rw [show F .intA S jv 2 = x2 by rw [hx2]; exact t_intA hF hd hjv rfl]
    obtain ⟨x3, hx3⟩ : ∃ z, z = x.bb := ⟨_, rfl⟩
    try rw [show F .intA S jv 3 = x3 by rw [hx3]; exact t_intA hF hd hjv rfl]
    obtain ⟨x4, hx4⟩ : ∃ z, z = rlDs x.rl := ⟨_, rfl⟩
    try rw [show F .viewA S jv 4 = x4 by rw [hx4]; exact t_viewA hF hd hjv rfl]
    have hal : sd.length = C.ss.length := by rw [hsd, smDs_len, List.length_append, List.length_take, List.length_drop]; omega
    have n1 : F .hasN sd iv = true := t_hasN hF hiv (by omega)
    rw [t_toN hF hiv, t_natI hF i, ← hiv]
    obtain ⟨nd, hnd⟩ : ∃ z, z = F .setD sd i (.agg [.s (.str x0), .s (.str x1), .s (.int .i64 x2), .s (.int .i64 x3), .view 5 x4]) := ⟨_, rfl⟩
    have hnd2 : nd = smDs (T.take (i + 1) ++ C.ss.drop (i + 1)) := by
      rw [← over_set hTl hxr, hnd, t_setD hF, hsd, hx0, hx1, hx2, hx3, hx4]
      show _ = List.map Sm.dat (List.set _ i x)
      rw [List.map_set]
      rfl
    rw [← hnd]
    repeat' (first | with_reducible (first | refine AKt.have ?_ | refine AKt.tt ?_ | refine AKt.ff ?_ | refine AKt.yes (by assumption) ?_ | refine AKt.no (by assumption) ?_ | refine AKt.node (fun hb => ?_) (fun hb => ?_) | refine AKt.need ?_ (fun hb => ?_) | refine AKt.leaf ?_) | ((with_reducible show _ = true); assumption))
    refine AKp.again _ hfr (by repeat (first | exact True.intro | refine ⟨⟨rfl, rfl⟩, ?_⟩)) (by repeat (first | exact True.intro | refine ⟨⟨rfl, rfl, rfl⟩, ?_⟩)) (hJ (n - 1) _ _ (by omega) ⟨i + 1, _, _, by omega, inc_i hF hiv (by omega), hnd2, rfl, rfl⟩)
  have hge : ¬ i < C.ss.length := by rw [lenS, hF, f_ltI, hiv] at hbb; have := of_decide_eq_false hbb; omega
  have hT2 : T.take i ++ C.ss.drop i = T := by rw [List.take_of_length_le (by omega), List.drop_eq_nil_of_le (by omega), List.append_nil]
  rw [hT2] at hsd
  clear hJ hbb
  refine AKt.leaf ?_
  refine AKp.freeze 3 rfl ?_
  conv => arg 4; arg 2; cbv
  refine AKp.freeze 4 rfl ?_
  conv => arg 4; arg 2; cbv
  have hcf2 : isCf0 ad sd = true := by rw [had, hsd, isCf0, is_lv, is_sm]; rfl
  have eD : (⟨ct, cp, cr, cm, unLv ad, unSm sd⟩ : Cf) = ⟨ct, cp, cr, cm, R, T⟩ := by rw [had, hsd, un_lv, un_sm]
  have eC2 : C = ⟨ct, cp, cr, cm, C.ls, C.ss⟩ := by rw [hct, hcpe, hcr, hcm]
  have hpp : (rchF C).1 = 0 ↔ (rchF ⟨ct, cp, cr, cm, R, T⟩).1 = 0 := by
    rw [eC2]
    exact pass_perm (by rw [hR]; exact (List.reverse_perm _).symm) (by rw [hT]; exact (rot_perm _ _).symm)
  by_cases hp : (rchF C).1 = 0
  · have _ := hp
    obtain ⟨uCheckOk, huCheckOk⟩ : ∃ u : Int → Int → Int → Int → List Dat → List Dat → Bool, u = chkOk := ⟨_, rfl⟩
    have hG : TblOK Tryd.prog [(8, .p (φCheckOk uCheckOk))] := ⟨(by rw [huCheckOk]; exact φCheckOk_ok), trivial⟩
    have qc1 : uCheckOk ct cp cr cm L S = true := by rw [huCheckOk]; show chkOk _ _ _ _ _ _ = true; rw [chkOk, hcf, eC, decide_eq_true hp]; rfl
    have qc2 : uCheckOk ct cp cr cm ad sd = true := by rw [huCheckOk]; show chkOk _ _ _ _ _ _ = true; rw [chkOk, hcf2, eD, decide_eq_true (hpp.1 hp)]; rfl
    refine AK.runT hF tabOK hmix hnt hfr true _ hG ?_
    conv => arg 4; cbv
    repeat' (first | with_reducible (first | refine AKt.have ?_ | refine AKt.tt ?_ | refine AKt.ff ?_ | refine AKt.yes (by assumption) ?_ | refine AKt.no (by assumption) ?_ | refine AKt.node (fun hb => ?_) (fun hb => ?_) | refine AKt.need ?_ (fun hb => ?_) | refine AKt.leaf ?_) | ((with_reducible show _ = true); assumption))
    refine AKp.doneE tabOK hfr (by rfl) ?_
    show _ = _
    simp only [tupAV]
    rw [hF]
    rfl
  · have hp2 := fun h => hp (hpp.2 h)
    obtain ⟨uCheckBad, huCheckBad⟩ : ∃ u : Int → Int → Int → Int → List Dat → List Dat → Bool, u = chkBad := ⟨_, rfl⟩
    obtain ⟨uCheckBad1, huCheckBad1⟩ : ∃ u : Int → Int → Int → Int → List Dat → List Dat → Wd, u = fun a b c d ls ss => (rchF ⟨a, b, c, d, unLv ls, unSm ss⟩).2 := ⟨_, rfl⟩
    obtain ⟨uCheckBad2, huCheckBad2⟩ : ∃ u : Int → Int → Int → Int → List Dat → List Dat → Int, u = fun a b c d ls ss => (rchF ⟨a, b, c, d, unLv ls, unSm ss⟩).1 := ⟨_, rfl⟩
    have hG : TblOK Tryd.prog [(8, .p (φCheckBad uCheckBad uCheckBad1 uCheckBad2))] := ⟨(by rw [huCheckBad, huCheckBad1, huCheckBad2]; exact φCheckBad_ok), trivial⟩
    have qc1 : uCheckBad ct cp cr cm L S = true := by rw [huCheckBad]; show chkBad _ _ _ _ _ _ = true; rw [chkBad, hcf, eC, decide_eq_true hp]; rfl
    have qc2 : uCheckBad ct cp cr cm ad sd = true := by rw [huCheckBad]; show chkBad _ _ _ _ _ _ = true; rw [chkBad, hcf2, eD, Bool.true_and]; exact decide_eq_true hp2
    refine AK.runT hF tabOK hmix hnt hfr true _ hG ?_
    conv => arg 4; cbv
    repeat' (first | with_reducible (first | refine AKt.have ?_ | refine AKt.tt ?_ | refine AKt.ff ?_ | refine AKt.yes (by assumption) ?_ | refine AKt.no (by assumption) ?_ | refine AKt.node (fun hb => ?_) (fun hb => ?_) | refine AKt.need ?_ (fun hb => ?_) | refine AKt.leaf ?_) | ((with_reducible show _ = true); assumption))
    refine AKp.doneE tabOK hfr (by rfl) ?_
    show _ = _
    simp only [tupAV]
    rw [hF]
    rfl
theorem RulesOrderT_spec (c : Cf) (t : Int) : ESpec Tryd.prog 4 [.d (.agg c.cells), .d (.s (.int .i64 t))] (fun x => x = .d (.s (.bool true))) := rulesOrder_spec _ _ _ _ _ _ _ (by rw [isCf0, is_lv, is_sm]; rfl)
end Go.Proofs.YtpmpajodihpkaaaDoor

