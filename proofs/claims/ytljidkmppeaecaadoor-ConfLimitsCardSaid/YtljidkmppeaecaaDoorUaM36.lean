/- The library of this claim and its walks, part 36, joined out of smaller texts. No statement stands in it. -/
import Derived.Test.YtljidkmppeaecaaDoorUaM31
import Derived.Test.YtljidkmppeaecaaDoorUaM35
/- conf.Parse: the walk. -/
namespace Go.Proofs.YtljidkmppeaecaaDoor
open Go Go.Proofs Go.Ua Go.Extern
set_option linter.unusedVariables false
set_option linter.unusedSimpArgs false
set_option maxRecDepth 10000

theorem lines_num (s : List UInt8) : (linesF s).length ≤ s.length + 1 := by
  have h1 := cutF_len 10 s
  have h2 := List.count_le_length (a := (10 : UInt8)) (l := s)
  unfold linesF
  split
  · rw [List.length_dropLast]; omega
  · omega
theorem lines_le {s x : List UInt8} (h : x ∈ linesF s) : x.length ≤ s.length := by
  unfold linesF at h
  split at h
  · exact cutF_all ((List.dropLast_sublist _).subset h)
  · exact cutF_all h
theorem words_num (s : List UInt8) : (wordsF s).length ≤ s.length + 1 := by
  have h1 := cutF_len 32 s
  have h2 := List.count_le_length (a := (32 : UInt8)) (l := s)
  unfold wordsF
  have := List.length_filter_le (fun p : List UInt8 => !(p == [])) (cutF 32 s)
  omega
set_option maxHeartbeats 8000000 in
set_option cbv.maxSteps 10000000 in
set_option maxRecDepth 100000 in
theorem parse_spec (s : Wd) : ESpec Tryd.prog 9 [.d (.s (.str s))] (fun x => x = .tup [.d (parF s).1.dat, .d (errD (parF s).2.1 (parF s).2.2)]) := by
  obtain ⟨uLines, huLines⟩ : ∃ u : List UInt8 → Bool, u = le32 := ⟨_, rfl⟩
  obtain ⟨uLines1, huLines1⟩ : ∃ u : List UInt8 → List Dat, u = fun w => strDs (linesF w) := ⟨_, rfl⟩
  obtain ⟨uWords, huWords⟩ : ∃ u : List UInt8 → Bool, u = le32 := ⟨_, rfl⟩
  obtain ⟨uWords1, huWords1⟩ : ∃ u : List UInt8 → List Dat, u = fun w => strDs (wordsF w) := ⟨_, rfl⟩
  obtain ⟨uHasPrefix, huHasPrefix⟩ : ∃ u : List UInt8 → List UInt8 → Bool, u = hpF := ⟨_, rfl⟩
  obtain ⟨uRdLine, huRdLine⟩ : ∃ u : List Dat → List Dat → List Dat → Nat → Wd → Wd → Int → Int → List Dat → Bool, u = lnRP := ⟨_, rfl⟩
  obtain ⟨uRdLine1, huRdLine1⟩ : ∃ u : RA Int, u = fun es tt pe pr mo ld m sd nm lv rk bb rd => (rdO es ⟨tt, pe, pr, mo, ld, m, sd, nm, lv, rk, bb, rd, 0⟩).tt := ⟨_, rfl⟩
  obtain ⟨uRdLine2, huRdLine2⟩ : ∃ u : RA Int, u = fun es tt pe pr mo ld m sd nm lv rk bb rd => (rdO es ⟨tt, pe, pr, mo, ld, m, sd, nm, lv, rk, bb, rd, 0⟩).pe := ⟨_, rfl⟩
  obtain ⟨uRdLine3, huRdLine3⟩ : ∃ u : RA Int, u = fun es tt pe pr mo ld m sd nm lv rk bb rd => (rdO es ⟨tt, pe, pr, mo, ld, m, sd, nm, lv, rk, bb, rd, 0⟩).pr := ⟨_, rfl⟩
  obtain ⟨uRdLine4, huRdLine4⟩ : ∃ u : RA Int, u = fun es tt pe pr mo ld m sd nm lv rk bb rd => (rdO es ⟨tt, pe, pr, mo, ld, m, sd, nm, lv, rk, bb, rd, 0⟩).mo := ⟨_, rfl⟩
  obtain ⟨uRdLine5, huRdLine5⟩ : ∃ u : RA (List Dat), u = fun es tt pe pr mo ld m sd nm lv rk bb rd => (rdO es ⟨tt, pe, pr, mo, ld, m, sd, nm, lv, rk, bb, rd, 0⟩).ld := ⟨_, rfl⟩
  obtain ⟨uRdLine6, huRdLine6⟩ : ∃ u : RA Nat, u = fun es tt pe pr mo ld m sd nm lv rk bb rd => (rdO es ⟨tt, pe, pr, mo, ld, m, sd, nm, lv, rk, bb, rd, 0⟩).m := ⟨_, rfl⟩
  obtain ⟨uRdLine7, huRdLine7⟩ : ∃ u : RA (List Dat), u = fun es tt pe pr mo ld m sd nm lv rk bb rd => (rdO es ⟨tt, pe, pr, mo, ld, m, sd, nm, lv, rk, bb, rd, 0⟩).sd := ⟨_, rfl⟩
  obtain ⟨uRdLine8, huRdLine8⟩ : ∃ u : RA Wd, u = fun es tt pe pr mo ld m sd nm lv rk bb rd => (rdO es ⟨tt, pe, pr, mo, ld, m, sd, nm, lv, rk, bb, rd, 0⟩).nm := ⟨_, rfl⟩
  obtain ⟨uRdLine9, huRdLine9⟩ : ∃ u : RA Wd, u = fun es tt pe pr mo ld m sd nm lv rk bb rd => (rdO es ⟨tt, pe, pr, mo, ld, m, sd, nm, lv, rk, bb, rd, 0⟩).lv := ⟨_, rfl⟩
  obtain ⟨uRdLine10, huRdLine10⟩ : ∃ u : RA Int, u = fun es tt pe pr mo ld m sd nm lv rk bb rd => (rdO es ⟨tt, pe, pr, mo, ld, m, sd, nm, lv, rk, bb, rd, 0⟩).rk := ⟨_, rfl⟩
  obtain ⟨uRdLine11, huRdLine11⟩ : ∃ u : RA Int, u = fun es tt pe pr mo ld m sd nm lv rk bb rd => (rdO es ⟨tt, pe, pr, mo, ld, m, sd, nm, lv, rk, bb, rd, 0⟩).bb := ⟨_, rfl⟩
  obtain ⟨uRdLine12, huRdLine12⟩ : ∃ u : RA (List Dat), u = fun es tt pe pr mo ld m sd nm lv rk bb rd => (rdO es ⟨tt, pe, pr, mo, ld, m, sd, nm, lv, rk, bb, rd, 0⟩).rd := ⟨_, rfl⟩
  obtain ⟨uRdLine13, huRdLine13⟩ : ∃ u : RA Int, u = fun es tt pe pr mo ld m sd nm lv rk bb rd => (rdO es ⟨tt, pe, pr, mo, ld, m, sd, nm, lv, rk, bb, rd, 0⟩).e := ⟨_, rfl⟩
  have hG : TblOK Tryd.prog [(18, .p (φLines uLines uLines1)), (19, .p (φWords uWords uWords1)), (20, .p (φHasPrefix uHasPrefix)), (21, .m (φRdLine uRdLine uRdLine1 uRdLine2 uRdLine3 uRdLine4 uRdLine5 uRdLine6 uRdLine7 uRdLine8 uRdLine9 uRdLine10 uRdLine11 uRdLine12 uRdLine13)), (17, .p (φFAt ))] := ⟨(by rw [huLines, huLines1]; exact φLines_ok), (by rw [huWords, huWords1]; exact φWords_ok), (by rw [huHasPrefix]; exact φHasPrefix_ok), (by rw [huRdLine, huRdLine1, huRdLine2, huRdLine3, huRdLine4, huRdLine5, huRdLine6, huRdLine7, huRdLine8, huRdLine9, huRdLine10, huRdLine11, huRdLine12, huRdLine13]; exact φRdLine_ok), φFAt_ok, trivial⟩
  obtain ⟨R, hR⟩ : ∃ z, z = parF s := ⟨_, rfl⟩
  rw [← hR]
  obtain ⟨c1, e1, n1⟩ := R
  obtain ⟨a1, a2, a3, a4, al, am⟩ := c1
  obtain ⟨vl, hvl⟩ : ∃ z, z = lvDs al := ⟨_, rfl⟩
  obtain ⟨vs1, hvs⟩ : ∃ z, z = smDs am := ⟨_, rfl⟩
  obtain ⟨ED, hED⟩ : ∃ z, z = errD e1 n1 := ⟨_, rfl⟩
  simp only [Cf.dat, Cf.cells]
  rw [← hvl, ← hvs, ← hED]
  refine ESpec.enter Tryd.func9 (by kernel_rfl) rfl (Nat.le_of_ble_eq_true rfl) fun hok cx hnt hfr => ?_
  obtain ⟨F, hF⟩ := real_ex
  refine AK.runTs hF tabOK hmix hnt hfr [5] false _ hG ?_
  conv => arg 4; cbv
  refine AKt.node (fun c1 => ?_) (fun c1 => ?_)
  · have h1 : 65536 < s.length := by rw [hF, f_ltI, f_lenS] at c1; have := of_decide_eq_true c1; omega
    rw [parF, if_pos h1] at hR
    simp only [zeroC, Prod.mk.injEq, Cf.mk.injEq] at hR
    obtain ⟨⟨rfl, rfl, rfl, rfl, rfl, rfl⟩, rfl, rfl⟩ := hR
    refine AKt.need rfl fun _ => AKt.leaf ?_
    refine AKp.asRowB 0 4 34 10 (by decide) rfl rfl (Nat.le_of_ble_eq_true rfl) ?_
    conv => arg 4; arg 2; cbv
    refine AKp.freeze 1 rfl ?_
    conv => arg 4; arg 2; cbv
    refine AKp.asRowB 0 5 37 5 (by decide) rfl rfl (Nat.le_of_ble_eq_true rfl) ?_
    conv => arg 4; arg 2; cbv
    refine AKp.freeze 2 rfl ?_
    conv => arg 4; arg 2; cbv
    refine AKp.doneE tabOK hfr (by rfl) ?_
    show _ = _
    simp only [tupAV]
    rw [hvl, hvs, hED]
    rfl
  have h1 : ¬ 65536 < s.length := by rw [hF, f_ltI, f_lenS] at c1; have := of_decide_eq_false c1; omega
  rw [parF, if_neg h1] at hR
  obtain ⟨l, hl⟩ : ∃ z, z = linesF s := ⟨_, rfl⟩
  rw [← hl] at hR
  obtain ⟨es, hes⟩ : ∃ z, z = uLines1 s := ⟨_, rfl⟩
  have hsd : es = strDs l := by rw [hes, hl, huLines1]
  have hel : es.length = l.length := by rw [hsd, strDs_length]
  have hll : l.length ≤ s.length + 1 := by rw [hl]; exact lines_num s
  rw [← hes]
  refine AKt.need (by rw [huLines]; exact decide_eq_true (by omega)) fun _ => AKt.leaf ?_
  refine AKp.asRowB 1 4 34 10 (by decide) rfl rfl (Nat.le_of_ble_eq_true rfl) ?_
  conv => arg 4; arg 2; cbv
  refine AKp.newNil 40 5 (by decide) ?_
  conv => arg 4; arg 2; cbv
  obtain ⟨u0, hu0⟩ : ∃ z : Nat, z = 0 := ⟨_, rfl⟩
  refine AKp.asX0 1 5 3 37 5 u0 [.d (.s (.str [])), .d (.s (.str [])), .d (.s (.int .i64 0)), .d (.s (.int .i64 0)), .row 3 5] (by decide) rfl rfl rfl rfl ?_ (Nat.le_of_ble_eq_true rfl) ?_
  · intro i c hc
    match i, hc with
    | 0, hc => cases hc; exact .inl ⟨_, rfl, Nat.zero_le _⟩
    | 1, hc => cases hc; exact .inl ⟨_, rfl, Nat.zero_le _⟩
    | 2, hc => cases hc; exact .inl ⟨_, rfl, by decide, by decide⟩
    | 3, hc => cases hc; exact .inl ⟨_, rfl, by decide, by decide⟩
    | 4, hc => cases hc; exact .inr ⟨_, rfl⟩
    | i + 5, hc => cases hc
  conv => arg 4; arg 2; cbv
  refine AKp.dim 1 6 rfl ?_
  conv => arg 4; arg 2; cbv
  refine AKp.dim 1 7 rfl ?_
  conv => arg 4; arg 2; cbv
  refine AKp.enterLoop 18 ?_
  conv => arg 7; cbv
  refine AKl.invTs hF tabOK hmix hnt (Nat.le_trans (Nat.le_of_eq hfr) (Nat.le_of_ble_eq_true rfl)) [13] false _ hG (fun n vs hs => ∃ (i : Nat) (iv : Int) (c : Cf) (tt pe pr mo : Int) (ld sd rd : List Dat) (m : Nat) (nm lv : Wd) (rk bb : Int), i + n = l.length ∧ iv = i ∧ Holds ⟨tt, pe, pr, mo, ld, m, sd, nm, lv, rk, bb, rd, 0⟩ c ∧ parL c (l.drop i) i = (⟨a1, a2, a3, a4, al, am⟩, e1, n1) ∧ vs = [(18, .d (.s (.int .i64 iv)))] ∧ hs = [(1, .cs 59 [.d (.s (.int .i64 tt)), .d (.s (.int .i64 pe)), .d (.s (.int .i64 pr)), .d (.s (.int .i64 mo)), .row 2 10, .row 4 5, .any, .any, .d (.s (.int .i64 0))]), (2, .ds 34 10 ld), (4, .xs 37 5 m sd [.d (.s (.str nm)), .d (.s (.str lv)), .d (.s (.int .i64 rk)), .d (.s (.int .i64 bb)), .row 3 5]), (3, .ds 40 5 rd), (0, .cs 26 [.d (.s (.int .i64 0)), .d (.s (.int .i64 0)), .d (.s (.int .i64 0)), .d (.s (.int .i64 0)), .d (.s .sl0), .d (.s .sl0)])]) l.length ⟨0, _, zeroC, 0, 0, 0, 0, [], [], [], u0, [], [], 0, 0, by omega, rfl, ⟨rfl, rfl, rfl, rfl, rfl, rfl, ⟨rfl, Nat.zero_le _, Nat.zero_le _, Nat.zero_le _⟩⟩, hR.symm, rfl, rfl⟩ (by repeat (first | exact True.intro | refine ⟨⟨rfl, rfl⟩, ?_⟩)) (by repeat (first | exact True.intro | refine ⟨⟨rfl, rfl, rfl⟩, ?_⟩)) ?_
  rintro J n vs hs hJ ⟨i, iv, c, tt, pe, pr, mo, ld, sd, rd, m, nm, lv, rk, bb, hi, hiv, hH, hP, rfl, rfl⟩
  conv => arg 4; cbv
  have lenE : F .lenD es = (l.length : Int) := by rw [hF, f_lenD, hel]
  refine AKt.node (fun hb1 => ?_) (fun hb1 => ?_)
  rotate_left
  · have hge : ¬ i < l.length := by rw [lenE, hiv, hF, f_ltI] at hb1; have := of_decide_eq_false hb1; omega
    rw [List.drop_eq_nil_of_le (by omega), parL] at hP
    simp only [Prod.mk.injEq] at hP
    obtain ⟨hc, he, hn⟩ := hP
    repeat' (first | with_reducible (first | refine AKt.have ?_ | refine AKt.tt ?_ | refine AKt.ff ?_ | refine AKt.yes (by assumption) ?_ | refine AKt.no (by assumption) ?_ | refine AKt.node (fun hb => ?_) (fun hb => ?_) | refine AKt.need ?_ (fun hb => ?_) | refine AKt.leaf ?_) | ((with_reducible show _ = true); assumption))
    refine AK.runT hF tabOK hmix hnt hfr false _ hG ?_
    conv => arg 4; cbv
    repeat' (first | with_reducible (first | refine AKt.have ?_ | refine AKt.tt ?_ | refine AKt.ff ?_ | refine AKt.yes (by assumption) ?_ | refine AKt.no (by assumption) ?_ | refine AKt.node (fun hb => ?_) (fun hb => ?_) | refine AKt.need ?_ (fun hb => ?_) | refine AKt.leaf ?_) | ((with_reducible show _ = true); assumption))
    have hlast : sd = [] ∨ sd[m]? = some (.agg [.s (.str nm), .s (.str lv), .s (.int .i64 rk), .s (.int .i64 bb), .view 5 rd]) := xs_last (by have h1 := hH.sd; have h2 := hH.ok.x; simp only at h1 h2; rw [h1]; exact h2)
    refine AKp.freeze 3 rfl ?_
    conv => arg 4; arg 2; cbv
    refine AKp.shutG 4 rfl rfl hlast ?_
    conv => arg 4; arg 2; cbv
    refine AKp.freeze 4 rfl ?_
    conv => arg 4; arg 2; cbv
    refine AKp.freeze 2 rfl ?_
    conv => arg 4; arg 2; cbv
    have k1 := hH.tt; have k2 := hH.pe; have k3 := hH.pr; have k4 := hH.mo; have k5 := hH.ld; have k6 := hH.sd
    rw [hc] at k1 k2 k3 k4 k5 k6
    simp only at k1 k2 k3 k4 k5 k6
    refine AKp.doneE tabOK hfr (by rfl) ?_
    show _ = _
    simp only [tupAV]
    rw [k1, k2, k3, k4, k5, k6, hvl, hvs, hED, ← he]
    rfl
  have hlt : i < l.length := by rw [lenE, hiv, hF, f_ltI] at hb1; have := of_decide_eq_true hb1; omega
  obtain ⟨x, hx⟩ : ∃ x, l[i]? = some x := ⟨_, List.getElem?_eq_getElem hlt⟩
  have hxl : x.length ≤ s.length := lines_le (by rw [← hl]; exact List.mem_of_getElem? hx)
  have hx1 : F .strA es iv 0 = x := by rw [hsd, hiv, t_strG hF, List.getD_eq_getElem?_getD, hx]; rfl
  have hx2 : F .hasD es iv [.str] = true := by rw [hsd, hiv]; exact t_hasG hF hlt
  rw [List.drop_eq_getElem_cons hlt, parL, (List.getElem?_eq_some_iff.1 hx).2] at hP
  rw [hx1]
  obtain ⟨W, hW⟩ : ∃ z, z = wordsF x := ⟨_, rfl⟩
  rw [← hW] at hP
  obtain ⟨wd, hwd⟩ : ∃ z, z = uWords1 x := ⟨_, rfl⟩
  have hwd2 : wd = strDs W := by rw [hwd, huWords1, hW]
  have hwu : unStr wd = W := by rw [hwd2, unStr_strDs]
  have hwl : wd.length = W.length := by rw [hwd2, strDs_length]
  have hwn : W.length ≤ x.length + 1 := by rw [hW]; exact words_num x
  rw [← hwd]
  have w0 : F .strA wd 0 0 = wAt W 0 := by rw [hwd2]; exact t_strG hF W 0
  rw [w0]
  refine AKt.need hx2 fun _ => AKt.need (by rw [huWords]; exact decide_eq_true (by omega)) fun _ => ?_
  refine AKt.node (fun hb2 => ?_) (fun hb2 => ?_)
  · have hz : W.length = 0 := by rw [hF, f_eqI, f_lenD, hwl] at hb2; have := of_decide_eq_true hb2; omega
    rw [if_pos (by rw [skipB, decide_eq_true hz]; rfl)] at hP
    repeat' (first | with_reducible (first | refine AKt.have ?_ | refine AKt.tt ?_ | refine AKt.ff ?_ | refine AKt.yes (by assumption) ?_ | refine AKt.no (by assumption) ?_ | refine AKt.node (fun hb => ?_) (fun hb => ?_) | refine AKt.need ?_ (fun hb => ?_) | refine AKt.leaf ?_) | ((with_reducible show _ = true); assumption))
    refine AK.runT hF tabOK hmix hnt hfr false _ hG ?_
    conv => arg 4; cbv
    repeat' (first | with_reducible (first | refine AKt.have ?_ | refine AKt.tt ?_ | refine AKt.ff ?_ | refine AKt.yes (by assumption) ?_ | refine AKt.no (by assumption) ?_ | refine AKt.node (fun hb => ?_) (fun hb => ?_) | refine AKt.need ?_ (fun hb => ?_) | refine AKt.leaf ?_) | ((with_reducible show _ = true); assumption))
    refine AKp.dim 1 6 rfl ?_
    conv => arg 4; arg 2; cbv
    refine AKp.dim 1 7 rfl ?_
    conv => arg 4; arg 2; cbv
    refine AKp.again _ hfr (by repeat (first | exact True.intro | refine ⟨⟨rfl, rfl⟩, ?_⟩)) (by repeat (first | exact True.intro | refine ⟨⟨rfl, rfl, rfl⟩, ?_⟩)) (hJ (n - 1) _ _ (by omega) ⟨i + 1, _, c, tt, pe, pr, mo, ld, sd, rd, m, nm, lv, rk, bb, by omega, inc_i hF hiv (by omega), hH, hP, rfl, rfl⟩)
  have hz : ¬ W.length = 0 := by rw [hF, f_eqI, f_lenD, hwl] at hb2; have := of_decide_eq_false hb2; omega
  refine AKt.need (by rw [hwd2]; exact t_hasG hF (n := 0) (by omega)) fun _ => AKt.need rfl fun _ => ?_
  refine AKt.node (fun hb3 => ?_) (fun hb3 => ?_)
  · have hp : hpF (wAt W 0) [35] = true := by rw [huHasPrefix] at hb3; exact hb3
    rw [if_pos (by rw [skipB, hp, Bool.or_true])] at hP
    repeat' (first | with_reducible (first | refine AKt.have ?_ | refine AKt.tt ?_ | refine AKt.ff ?_ | refine AKt.yes (by assumption) ?_ | refine AKt.no (by assumption) ?_ | refine AKt.node (fun hb => ?_) (fun hb => ?_) | refine AKt.need ?_ (fun hb => ?_) | refine AKt.leaf ?_) | ((with_reducible show _ = true); assumption))
    refine AK.runT hF tabOK hmix hnt hfr false _ hG ?_
    conv => arg 4; cbv
    repeat' (first | with_reducible (first | refine AKt.have ?_ | refine AKt.tt ?_ | refine AKt.ff ?_ | refine AKt.yes (by assumption) ?_ | refine AKt.no (by assumption) ?_ | refine AKt.node (fun hb => ?_) (fun hb => ?_) | refine AKt.need ?_ (fun hb => ?_) | refine AKt.leaf ?_) | ((with_reducible show _ = true); assumption))
    refine AKp.dim 1 6 rfl ?_
    conv => arg 4; arg 2; cbv
    refine AKp.dim 1 7 rfl ?_
    conv => arg 4; arg 2; cbv
    refine AKp.again _ hfr (by repeat (first | exact True.intro | refine ⟨⟨rfl, rfl⟩, ?_⟩)) (by repeat (first | exact True.intro | refine ⟨⟨rfl, rfl, rfl⟩, ?_⟩)) (hJ (n - 1) _ _ (by omega) ⟨i + 1, _, c, tt, pe, pr, mo, ld, sd, rd, m, nm, lv, rk, bb, by omega, inc_i hF hiv (by omega), hH, hP, rfl, rfl⟩)
  have hp : hpF (wAt W 0) [35] = false := by rw [huHasPrefix] at hb3; exact hb3
  rw [if_neg (by rw [skipB, hp, decide_eq_false hz]; decide)] at hP
  have hO : (⟨tt, pe, pr, mo, ld, m, sd, nm, lv, rk, bb, rd, 0⟩ : RdO) = mkO c m nm lv rk bb rd := by
    have := hH.tt; have := hH.pe; have := hH.pr; have := hH.mo; have := hH.ld; have := hH.sd
    simp only at *
    rw [mkO]
    simp only [*]
  have hok1 := hH.ok
  simp only at hok1
  obtain ⟨r1, r2⟩ := rdO_ok (es := wd) hok1
  rw [hwu] at r1 r2
  have hsl : sd = smDs c.ss := hH.sd
  have hll2 : ld = lvDs c.ls := hH.ld
  have q1 : uRdLine wd ld sd m nm lv rk bb rd = true := by
    rw [huRdLine]
    have b1 := hok1.l
    have b2 := hok1.r
    simp only [lnRP, Bool.and_eq_true, decide_eq_true_eq]
    refine ⟨by rw [hwd2]; exact isStrs_strDs _, by omega, by omega, by rw [hll2]; exact is_lv _, by rw [hll2]; simp only [lvDs, List.length_map]; omega, by omega, by rw [hsl]; exact hok1.x⟩
  obtain ⟨y1, hy1⟩ : ∃ z, z = uRdLine1 wd tt pe pr mo ld m sd nm lv rk bb rd := ⟨_, rfl⟩
  obtain ⟨y2, hy2⟩ : ∃ z, z = uRdLine2 wd tt pe pr mo ld m sd nm lv rk bb rd := ⟨_, rfl⟩
  obtain ⟨y3, hy3⟩ : ∃ z, z = uRdLine3 wd tt pe pr mo ld m sd nm lv rk bb rd := ⟨_, rfl⟩
  obtain ⟨y4, hy4⟩ : ∃ z, z = uRdLine4 wd tt pe pr mo ld m sd nm lv rk bb rd := ⟨_, rfl⟩
  obtain ⟨y5, hy5⟩ : ∃ z, z = uRdLine5 wd tt pe pr mo ld m sd nm lv rk bb rd := ⟨_, rfl⟩
  obtain ⟨y6, hy6⟩ : ∃ z, z = uRdLine6 wd tt pe pr mo ld m sd nm lv rk bb rd := ⟨_, rfl⟩
  obtain ⟨y7, hy7⟩ : ∃ z, z = uRdLine7 wd tt pe pr mo ld m sd nm lv rk bb rd := ⟨_, rfl⟩
  obtain ⟨y8, hy8⟩ : ∃ z, z = uRdLine8 wd tt pe pr mo ld m sd nm lv rk bb rd := ⟨_, rfl⟩
  obtain ⟨y9, hy9⟩ : ∃ z, z = uRdLine9 wd tt pe pr mo ld m sd nm lv rk bb rd := ⟨_, rfl⟩
  obtain ⟨y10, hy10⟩ : ∃ z, z = uRdLine10 wd tt pe pr mo ld m sd nm lv rk bb rd := ⟨_, rfl⟩
  obtain ⟨y11, hy11⟩ : ∃ z, z = uRdLine11 wd tt pe pr mo ld m sd nm lv rk bb rd := ⟨_, rfl⟩
  obtain ⟨y12, hy12⟩ : ∃ z, z = uRdLine12 wd tt pe pr mo ld m sd nm lv rk bb rd := ⟨_, rfl⟩
  obtain ⟨y13, hy13⟩ : ∃ z, z = uRdLine13 wd tt pe pr mo ld m sd nm lv rk bb rd := ⟨_, rfl⟩
  rw [← hy1, ← hy2, ← hy3, ← hy4, ← hy5, ← hy6, ← hy7, ← hy8, ← hy9, ← hy10, ← hy11, ← hy12, ← hy13]
  have z1 : y1 = (rdO wd (mkO c m nm lv rk bb rd)).tt := by rw [hy1, huRdLine1, ← hO]
  have z2 : y2 = (rdO wd (mkO c m nm lv rk bb rd)).pe := by rw [hy2, huRdLine2, ← hO]
  have z3 : y3 = (rdO wd (mkO c m nm lv rk bb rd)).pr := by rw [hy3, huRdLine3, ← hO]
  have z4 : y4 = (rdO wd (mkO c m nm lv rk bb rd)).mo := by rw [hy4, huRdLine4, ← hO]
  have z5 : y5 = (rdO wd (mkO c m nm lv rk bb rd)).ld := by rw [hy5, huRdLine5, ← hO]
  have z6 : y6 = (rdO wd (mkO c m nm lv rk bb rd)).m := by rw [hy6, huRdLine6, ← hO]
  have z7 : y7 = (rdO wd (mkO c m nm lv rk bb rd)).sd := by rw [hy7, huRdLine7, ← hO]
  have z8 : y8 = (rdO wd (mkO c m nm lv rk bb rd)).nm := by rw [hy8, huRdLine8, ← hO]
  have z9 : y9 = (rdO wd (mkO c m nm lv rk bb rd)).lv := by rw [hy9, huRdLine9, ← hO]
  have z10 : y10 = (rdO wd (mkO c m nm lv rk bb rd)).rk := by rw [hy10, huRdLine10, ← hO]
  have z11 : y11 = (rdO wd (mkO c m nm lv rk bb rd)).bb := by rw [hy11, huRdLine11, ← hO]
  have z12 : y12 = (rdO wd (mkO c m nm lv rk bb rd)).rd := by rw [hy12, huRdLine12, ← hO]
  have z13 : y13 = (rdO wd (mkO c m nm lv rk bb rd)).e := by rw [hy13, huRdLine13, ← hO]
  rw [r1] at z13
  refine AKt.need q1 fun _ => ?_
  refine AKt.node (fun hb4 => ?_) (fun hb4 => ?_)
  · have h0 : ¬ linE c W = 0 := by rw [hF, f_not, f_eqI, z13] at hb4; simpa using hb4
    rw [if_neg h0] at hP
    simp only [Prod.mk.injEq] at hP
    obtain ⟨hc, he, hn⟩ := hP
    have he2 : y13 = e1 := z13.trans he
    repeat' (first | with_reducible (first | refine AKt.have ?_ | refine AKt.tt ?_ | refine AKt.ff ?_ | refine AKt.yes (by assumption) ?_ | refine AKt.no (by assumption) ?_ | refine AKt.node (fun hb => ?_) (fun hb => ?_) | refine AKt.need ?_ (fun hb => ?_) | refine AKt.leaf ?_) | ((with_reducible show _ = true); assumption))
    refine AKp.asRowB 0 4 34 10 (by decide) rfl rfl (Nat.le_of_ble_eq_true rfl) ?_
    conv => arg 4; arg 2; cbv
    refine AKp.freeze 8 rfl ?_
    conv => arg 4; arg 2; cbv
    refine AKp.asRowB 0 5 37 5 (by decide) rfl rfl (Nat.le_of_ble_eq_true rfl) ?_
    conv => arg 4; arg 2; cbv
    refine AKp.freeze 9 rfl ?_
    conv => arg 4; arg 2; cbv
    simp only [zeroC, Cf.mk.injEq] at hc
    obtain ⟨k1, k2, k3, k4, k5, k6⟩ := hc
    refine AKp.doneE tabOK hfr (by rfl) ?_
    show _ = _
    simp only [tupAV]
    rw [← k1, ← k2, ← k3, ← k4, hvl, ← k5, hvs, ← k6, hED, ← he2, ← hn, errD, if_neg (by rw [z13]; exact h0), inc_i hF hiv (by omega)]
    rfl
  · have h0 : linE c W = 0 := by rw [hF, f_not, f_eqI, z13] at hb4; simpa using hb4
    rw [if_pos h0] at hP
    have hN := r2 h0
    rw [z13, h0]
    repeat' (first | with_reducible (first | refine AKt.have ?_ | refine AKt.tt ?_ | refine AKt.ff ?_ | refine AKt.yes (by assumption) ?_ | refine AKt.no (by assumption) ?_ | refine AKt.node (fun hb => ?_) (fun hb => ?_) | refine AKt.need ?_ (fun hb => ?_) | refine AKt.leaf ?_) | ((with_reducible show _ = true); assumption))
    refine AK.runT hF tabOK hmix hnt hfr false _ hG ?_
    conv => arg 4; cbv
    repeat' (first | with_reducible (first | refine AKt.have ?_ | refine AKt.tt ?_ | refine AKt.ff ?_ | refine AKt.yes (by assumption) ?_ | refine AKt.no (by assumption) ?_ | refine AKt.node (fun hb => ?_) (fun hb => ?_) | refine AKt.need ?_ (fun hb => ?_) | refine AKt.leaf ?_) | ((with_reducible show _ = true); assumption))
    refine AKp.dim 1 6 rfl ?_
    conv => arg 4; arg 2; cbv
    refine AKp.dim 1 7 rfl ?_
    conv => arg 4; arg 2; cbv
    refine AKp.againR [(2, 5), (4, 6), (3, 7)] _ hfr (by repeat (first | exact True.intro | refine ⟨⟨rfl, rfl⟩, ?_⟩)) (by repeat (first | exact True.intro | refine ⟨⟨Nat.le_of_ble_eq_true rfl, rfl, rfl⟩, ?_⟩)) rfl (hJ (n - 1) _ _ (by omega) ⟨i + 1, _, linA c W, y1, y2, y3, y4, y5, y7, y12, y6, y8, y9, y10, y11, by omega, inc_i hF hiv (by omega), ⟨z1.trans hN.tt, z2.trans hN.pe, z3.trans hN.pr, z4.trans hN.mo, z5.trans hN.ld, z7.trans hN.sd, by have := hN.ok; rw [← z6, ← z8, ← z9, ← z10, ← z11, ← z12] at this; exact this⟩, hP, rfl, rfl⟩)
end Go.Proofs.YtljidkmppeaecaaDoor

/- conf.Parse: its two outcomes; lines and what is cut. -/
namespace Go.Proofs.YtljidkmppeaecaaDoor
open Go Go.Proofs Go.Ua Go.Extern
set_option linter.unusedVariables false
set_option linter.unusedSimpArgs false

def okP (s : Wd) : Bool := decide ((parF s).2.1 = 0)
def parC (s : Wd) : Cf := (parF s).1
theorem parseOk_spec (s : Wd) (h : okP s = true) : ESpec Tryd.prog 9 [.d (.s (.str s))] (fun x => x = .tup [.d (.agg [.s (.int .i64 (parC s).tt), .s (.int .i64 (parC s).pe), .s (.int .i64 (parC s).pr), .s (.int .i64 (parC s).mo), .view 10 (lvDs (parC s).ls), .view 5 (smDs (parC s).ss)]), .d (.s .if0)]) := by
  have sp := parse_spec s
  have e : errD (parF s).2.1 (parF s).2.2 = .s .if0 := by rw [errD, if_pos (of_decide_eq_true h)]
  rw [e] at sp
  exact sp
def φParseOk (p : Wd → Bool) (u1 u2 u3 u4 : Wd → Int) (u5 u6 : Wd → List Dat) : List AV → Option (Bool × AV)
  | [.d (.s (.str s))] => some (p s, .tup [.d (.agg [.s (.int .i64 (u1 s)), .s (.int .i64 (u2 s)), .s (.int .i64 (u3 s)), .s (.int .i64 (u4 s)), .view 10 (u5 s), .view 5 (u6 s)]), .d (.s .if0)])
  | _ => none
theorem φParseOk_ok : SpOK Tryd.prog 9 (φParseOk (okP) (fun s => (parC s).tt) (fun s => (parC s).pe) (fun s => (parC s).pr) (fun s => (parC s).mo) (fun s => lvDs (parC s).ls) (fun s => smDs (parC s).ss)) := by
  intro xs b x h hb
  unfold φParseOk at h
  split at h
  · simp only [Option.some.injEq, Prod.mk.injEq] at h
    obtain ⟨rfl, rfl⟩ := h
    exact parseOk_spec _ hb
  · cases h
def badP (s : Wd) : Bool := decide (¬ (parF s).2.1 = 0)
theorem parL_bad : ∀ (l : List Wd) (c : Cf) (i : Nat), ¬ (parL c l i).2.1 = 0 → (parL c l i).1 = zeroC
  | [], c, i, h => absurd rfl h
  | x :: r, c, i, h => by
    rw [parL] at h ⊢
    split
    · rename_i g
      rw [if_pos g] at h
      exact parL_bad r c (i + 1) h
    · rename_i g
      rw [if_neg g] at h
      split
      · rename_i g2
        rw [if_pos g2] at h
        exact parL_bad r _ (i + 1) h
      · rfl
theorem parF_bad {s : Wd} (h : ¬ (parF s).2.1 = 0) : (parF s).1 = zeroC := by
  rw [parF] at h ⊢
  split
  · rfl
  · rename_i g
    rw [if_neg g] at h
    exact parL_bad _ _ _ h
theorem parseBad_spec (s : Wd) (h : badP s = true) : ESpec Tryd.prog 9 [.d (.s (.str s))] (fun x => x = .tup [.d (.agg [.s (.int .i64 0), .s (.int .i64 0), .s (.int .i64 0), .s (.int .i64 0), .view 10 [], .view 5 []]), .d (.iface 68 (.agg [.s (.int .i64 (parF s).2.2), .s (.str []), .iface 45 (.s (.int .i64 (parF s).2.1))]))]) := by
  have sp := parse_spec s
  have g := of_decide_eq_true h
  have e : errD (parF s).2.1 (parF s).2.2 = .iface 68 (.agg [.s (.int .i64 (parF s).2.2), .s (.str []), .iface 45 (.s (.int .i64 (parF s).2.1))]) := by rw [errD, if_neg g]
  rw [e, parF_bad g] at sp
  exact sp
def φParseBad (p : Wd → Bool) (n e : Wd → Int) : List AV → Option (Bool × AV)
  | [.d (.s (.str s))] => some (p s, .tup [.d (.agg [.s (.int .i64 0), .s (.int .i64 0), .s (.int .i64 0), .s (.int .i64 0), .view 10 [], .view 5 []]), .d (.iface 68 (.agg [.s (.int .i64 (n s)), .s (.str []), .iface 45 (.s (.int .i64 (e s)))]))])
  | _ => none
theorem φParseBad_ok : SpOK Tryd.prog 9 (φParseBad (badP) (fun s => (parF s).2.2) (fun s => (parF s).2.1)) := by
  intro xs b x h hb
  unfold φParseBad at h
  split at h
  · simp only [Option.some.injEq, Prod.mk.injEq] at h
    obtain ⟨rfl, rfl⟩ := h
    exact parseBad_spec _ hb
  · cases h

/-! ### What is told is read -/
end Go.Proofs.YtljidkmppeaecaaDoor

/- What is read of a text's beginning; what lines that say nothing change: plain laws (chapter 10). -/
namespace Go.Proofs.YtljidkmppeaecaaDoor
open Go Go.Proofs Go.Ua Go.Extern
set_option linter.unusedVariables false
set_option linter.unusedSimpArgs false

/-! ### Lines that say nothing -/
end Go.Proofs.YtljidkmppeaecaaDoor

