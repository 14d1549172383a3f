/- The library of this claim and its walks, part 44, joined out of smaller texts. No statement stands in it. -/
import Derived.Test.YtpmpajodihpkaaaGreatDoorUaM36
import Derived.Test.YtpmpajodihpkaaaGreatDoorUaM43
set_option linter.unusedSimpArgs false
set_option linter.unusedVariables false
namespace Go.Proofs.YtpmpajodihpkaaaGreatDoor
open Go Go.Proofs Go.Ua Go.Extern
set_option maxRecDepth 10000
set_option maxHeartbeats 8000000 in
set_option cbv.maxSteps 10000000 in
theorem rformedM_spec (c : Cf) (hp : medF c = true) : ESpec Tryz.prog 22 [.d (.agg [.s (.int .i64 c.tt), .s (.int .i64 c.pe), .s (.int .i64 c.pr), .s (.int .i64 c.mo), .view 10 (lvDs c.ls), .view 5 (smDs c.ss)])] (fun x => x = .d (.s (.bool (formR c)))) := by
 obtain ⟨uRLines, huRLines⟩ : ∃ u : Int → Int → Int → Int → List Dat → List Dat → Bool, u = lsPP := ⟨_, rfl⟩
 obtain ⟨uRLines1, huRLines1⟩ : ∃ u : Int → Int → Int → Int → List Dat → List Dat → List Dat, u = fun a b c d ls ss => strDs (linesR ⟨a, b, c, d, unLv ls, unSm ss⟩) := ⟨_, rfl⟩
 obtain ⟨uRefWords, huRefWords⟩ : ∃ u : List UInt8 → Bool, u = le32 := ⟨_, rfl⟩
 obtain ⟨uRefWords1, huRefWords1⟩ : ∃ u : List UInt8 → List Dat, u = fun w => strDs (wordsF w) := ⟨_, rfl⟩
 obtain ⟨uRLine, huRLine⟩ : ∃ u : Int → Int → Int → Int → List Dat → List Dat → List Dat → Bool, u = lnP := ⟨_, rfl⟩
 obtain ⟨uRLine1, huRLine1⟩ : ∃ u : Int → Int → Int → Int → List Dat → List Dat → List Dat → Int, u = fun a b c d ls ss w => (linC (cfU a b c d ls ss) (unStr w)).tt := ⟨_, rfl⟩
 obtain ⟨uRLine2, huRLine2⟩ : ∃ u : Int → Int → Int → Int → List Dat → List Dat → List Dat → Int, u = fun a b c d ls ss w => (linC (cfU a b c d ls ss) (unStr w)).pe := ⟨_, rfl⟩
 obtain ⟨uRLine3, huRLine3⟩ : ∃ u : Int → Int → Int → Int → List Dat → List Dat → List Dat → Int, u = fun a b c d ls ss w => (linC (cfU a b c d ls ss) (unStr w)).pr := ⟨_, rfl⟩
 obtain ⟨uRLine4, huRLine4⟩ : ∃ u : Int → Int → Int → Int → List Dat → List Dat → List Dat → Int, u = fun a b c d ls ss w => (linC (cfU a b c d ls ss) (unStr w)).mo := ⟨_, rfl⟩
 obtain ⟨uRLine5, huRLine5⟩ : ∃ u : Int → Int → Int → Int → List Dat → List Dat → List Dat → List Dat, u = fun a b c d ls ss w => lvDs (linC (cfU a b c d ls ss) (unStr w)).ls := ⟨_, rfl⟩
 obtain ⟨uRLine6, huRLine6⟩ : ∃ u : Int → Int → Int → Int → List Dat → List Dat → List Dat → List Dat, u = fun a b c d ls ss w => smDs (linC (cfU a b c d ls ss) (unStr w)).ss := ⟨_, rfl⟩
 obtain ⟨uRLine7, huRLine7⟩ : ∃ u : Int → Int → Int → Int → List Dat → List Dat → List Dat → Int, u = fun a b c d ls ss w => linE (cfU a b c d ls ss) (unStr w) := ⟨_, rfl⟩
 obtain ⟨uSameCf, huSameCf⟩ : ∃ u : List Dat → List Dat → List Dat → List Dat → Bool, u = fun ls ss ks ts => isCf0 ls ss && isCf0 ks ts := ⟨_, rfl⟩
 obtain ⟨uSameCf1, huSameCf1⟩ : ∃ u : Int → Int → Int → Int → List Dat → List Dat → Int → Int → Int → Int → List Dat → List Dat → Bool, u = fun a b c d ls ss a2 b2 c2 d2 ks ts => sameC ⟨a, b, c, d, unLv ls, unSm ss⟩ ⟨a2, b2, c2, d2, unLv ks, unSm ts⟩ := ⟨_, rfl⟩
 have hG : TblOK Tryz.prog [(37, .p (φRLines uRLines uRLines1)), (39, .p (φRefWords uRefWords uRefWords1)), (38, .p (φRLine uRLine uRLine1 uRLine2 uRLine3 uRLine4 uRLine5 uRLine6 uRLine7)), (12, .p (φSameCf uSameCf uSameCf1))] := ⟨(by rw [huRLines, huRLines1]; exact φRLines_ok), (by rw [huRefWords, huRefWords1]; exact φRefWords_ok), (by rw [huRLine, huRLine1, huRLine2, huRLine3, huRLine4, huRLine5, huRLine6, huRLine7]; exact φRLine_ok), (by rw [huSameCf, huSameCf1]; exact φSameCf_ok), trivial⟩
 obtain ⟨Z, hZ⟩ : ∃ z, z = formR c := ⟨_, rfl⟩
 rw [← hZ]
 obtain ⟨l, hl⟩ : ∃ l, l = linesR c := ⟨_, rfl⟩
 have hne := lines_ne c
 rw [← hl] at hne
 unfold formR at hZ
 rw [← hl] at hZ
 have hlb := lnB_med hp
 have hlen := @lines_lenM c hp
 rw [← hl] at hlen
 obtain ⟨tt, pe, pr, mo, ls, ss⟩ := c
 simp only at hlen ⊢
 obtain ⟨ld, hld⟩ : ∃ z, z = lvDs ls := ⟨_, rfl⟩
 obtain ⟨sd, hsd⟩ : ∃ z, z = smDs ss := ⟨_, rfl⟩
 rw [← hld, ← hsd]
 have hul : unLv ld = ls := by rw [hld, un_lv]
 have hus : unSm sd = ss := by rw [hsd, un_sm]
 have q1 : uRLines tt pe pr mo ld sd = true := by
   subst huRLines huRLines1 huRefWords huRefWords1 huRLine huRLine1 huRLine2 huRLine3 huRLine4 huRLine5 huRLine6 huRLine7 huSameCf huSameCf1
   show (isCf0 ld sd && lnB ⟨tt, pe, pr, mo, unLv ld, unSm sd⟩) = true
   rw [hul, hus, hlb, isCf0, hld, hsd, is_lv, is_sm]
   rfl
 have e1 : uRLines1 tt pe pr mo ld sd = strDs l := by
   subst huRLines huRLines1 huRefWords huRefWords1 huRLine huRLine1 huRLine2 huRLine3 huRLine4 huRLine5 huRLine6 huRLine7 huSameCf huSameCf1
   show strDs (linesR ⟨tt, pe, pr, mo, unLv ld, unSm sd⟩) = _
   rw [hul, hus, hl]
 refine ESpec.enter Tryz.func22 (by kernel_rfl) rfl (Nat.le_of_ble_eq_true rfl) fun hok cx hnt hfr => ?_
 obtain ⟨F, hF⟩ := real_ex
 refine AK.runT hF tabOK hmix hnt hfr false _ hG ?_
 conv => arg 4; cbv
 obtain ⟨es, hes⟩ : ∃ z, z = strDs l := ⟨_, rfl⟩
 rw [e1, ← hes]
 have hel : es.length = l.length := by rw [hes, strDs_length]
 have hlen2 : ∀ w, w ∈ l → w.length ≤ 10000 := by
   refine hlen ?_ ?_ hok.1.1.2 hok.1.2.1.2 hok.1.2.2.1.2 hok.1.2.2.2.1.2
   · intro x hx
     have hdok : Dok x.dat := Doks_iff.1 hok.1.2.2.2.2.1.2 _ (by rw [hld]; exact List.mem_map.2 ⟨x, hx, rfl⟩)
     exact ⟨hdok.2.2.1.2, hdok.2.2.2.1.2, hdok.2.2.2.2.1.2, hdok.2.2.2.2.2.1.2, hdok.2.2.2.2.2.2.1.2, hdok.2.2.2.2.2.2.2.1.2, hdok.2.2.2.2.2.2.2.2.1.2, hdok.2.2.2.2.2.2.2.2.2.1.2⟩
   · intro x hx
     have hdok : Dok x.dat := Doks_iff.1 hok.1.2.2.2.2.2.1.2 _ (by rw [hsd]; exact List.mem_map.2 ⟨x, hx, rfl⟩)
     exact hdok.2.2.1.2
 repeat' (first|with_reducible (first|refine qAh ?_|refine qAt ?_|refine qAf ?_|refine qAy (by assumption) ?_|refine qAn (by assumption) ?_|refine qAd (fun hb => ?_) (fun hb => ?_)|refine qAe ?_ (fun hb => ?_)|refine qAl ?_)|((with_reducible show _=true); assumption))
 refine AKp.bound 4 rfl fun hdk => ?_
 have hbl : l.length ≤ 9223372036854775807 := by
   have h1 : es.length ≤ maxLen := hdk.1
   have e : maxLen = 9223372036854775807 := rfl
   omega
 clear hdk
 refine AKp.asRowB 1 4 40 10 (by decide) rfl rfl (Nat.le_of_ble_eq_true rfl) ?_
 conv => arg 4; arg 2; cbv
 refine AKp.freeze 2 rfl ?_
 conv => arg 4; arg 2; cbv
 refine AKp.asRowB 1 5 43 5 (by decide) rfl rfl (Nat.le_of_ble_eq_true rfl) ?_
 conv => arg 4; arg 2; cbv
 refine AKp.freeze 3 rfl ?_
 conv => arg 4; arg 2; cbv
 refine AKp.enterLoop 10 ?_
 conv => arg 7; cbv
 refine AKl.invT hF tabOK hmix hnt hfr false _ hG (fun n vs hs => ∃ (i : Nat) (iv a1 a2 a3 a4 : Int) (kl : List Lv) (km : List Sm) (ka ta : List Dat), i + n = l.length ∧ iv = i ∧ runL zeroC ((l.take i).map wordsF) = some ⟨a1, a2, a3, a4, kl, km⟩ ∧ ka = lvDs kl ∧ ta = smDs km ∧ vs = [(5, .d (.s (.int .i64 iv)))] ∧ hs = [(0, .cs 25 [.d (.s (.int .i64 tt)), .d (.s (.int .i64 pe)), .d (.s (.int .i64 pr)), .d (.s (.int .i64 mo)), .d (.view 10 ld), .d (.view 5 sd)]), (1, .cs 25 [.d (.s (.int .i64 a1)), .d (.s (.int .i64 a2)), .d (.s (.int .i64 a3)), .d (.s (.int .i64 a4)), .d (.view 10 ka), .d (.view 5 ta)])]) l.length ⟨0, _, 0, 0, 0, 0, [], [], [], [], by omega, rfl, by rfl, rfl, rfl, rfl, rfl⟩ (by repeat (first | exact True.intro | refine ⟨⟨rfl, rfl⟩, ?_⟩)) (by repeat (first | exact True.intro | refine ⟨⟨rfl, rfl, rfl⟩, ?_⟩)) ?_
 rintro J n vs hs hJ ⟨i, iv, a1, a2, a3, a4, kl, km, ka, ta, hi, hiv, hrun, hka, hta, rfl, rfl⟩
 conv => arg 4; cbv
 have huk : unLv ka = kl := by rw [hka, un_lv]
 have hut : unSm ta = km := by rw [hta, un_sm]
 refine AKt.node (fun hb => ?_) (fun hb => ?_)
 rotate_left
 · have hge : ¬ i < l.length := by rw [hF, f_ltI, f_lenD, hel, hiv] at hb; have := of_decide_eq_false hb; omega
   rw [List.take_of_length_le (by omega)] at hrun
   rw [hrun] at hZ
   have q2 : uSameCf ld sd ka ta = true := by
     subst huRLines huRLines1 huRefWords huRefWords1 huRLine huRLine1 huRLine2 huRLine3 huRLine4 huRLine5 huRLine6 huRLine7 huSameCf huSameCf1
     show (isCf0 ld sd && isCf0 ka ta) = true
     rw [isCf0, isCf0, hld, hsd, hka, hta, is_lv, is_lv, is_sm, is_sm]
     rfl
   repeat' (first|with_reducible (first|refine qAh ?_|refine qAt ?_|refine qAf ?_|refine qAy (by assumption) ?_|refine qAn (by assumption) ?_|refine qAd (fun hb => ?_) (fun hb => ?_)|refine qAe ?_ (fun hb => ?_)|refine qAl ?_)|((with_reducible show _=true); assumption))
   refine AKp.doneE tabOK hfr (by rfl) ?_
   show _ = _
   simp only [tupAV]
   rw [hZ, huSameCf1]
   show AV.d (.s (.bool (sameC ⟨tt, pe, pr, mo, unLv ld, unSm sd⟩ ⟨a1, a2, a3, a4, unLv ka, unSm ta⟩))) = _
   rw [hul, hus, huk, hut]
 have hlt : i < l.length := by rw [hF, f_ltI, f_lenD, hel, hiv] at hb; have := of_decide_eq_true hb; omega
 obtain ⟨x, hx⟩ : ∃ x, l[i]? = some x := ⟨_, List.getElem?_eq_getElem hlt⟩
 have hxl := hlen2 x (List.mem_of_getElem? hx)
 have hxn := hne x (List.mem_of_getElem? hx)
 have h1 : F .hasD es iv [.str] = true := by rw [hes, hiv]; exact t_hasG hF hlt
 have h2 : F .strA es iv 0 = x := by rw [hes, hiv, t_strG hF, List.getD_eq_getElem?_getD, hx]; rfl
 rw [h2]
 have q3 : uRefWords x = true := by subst huRLines huRLines1 huRefWords huRefWords1 huRLine huRLine1 huRLine2 huRLine3 huRLine4 huRLine5 huRLine6 huRLine7 huSameCf huSameCf1; exact decide_eq_true (by omega)
 obtain ⟨wd, hwd⟩ : ∃ z, z = uRefWords1 x := ⟨_, rfl⟩
 have hwd2 : wd = strDs (wordsF x) := by rw [hwd, huRefWords1]
 rw [← hwd]
 obtain ⟨d, hd⟩ : ∃ d : Cf, d = ⟨a1, a2, a3, a4, kl, km⟩ := ⟨_, rfl⟩
 have hlens : kl.length ≤ 16 ∧ km.length ≤ 32 := run_len hrun (by decide) (by decide)
 have hcu : cfU a1 a2 a3 a4 ka ta = d := by rw [cfU, huk, hut, hd]
 have hw32 : (wordsF x).all le32 = true := by
   rw [List.all_eq_true]
   intro p hpx
   have : p.length ≤ x.length := by
     unfold wordsF at hpx
     exact cutF_all (List.mem_filter.1 hpx).1
   exact decide_eq_true (by omega)
 have q4 : uRLine a1 a2 a3 a4 ka ta wd = true := by
   subst huRLines huRLines1 huRefWords huRefWords1 huRLine huRLine1 huRLine2 huRLine3 huRLine4 huRLine5 huRLine6 huRLine7 huSameCf huSameCf1
   show lnP a1 a2 a3 a4 ka ta wd = true
   have h5 : linP d (wordsF x) = true := by
     rw [hd]
     simp only [linP, Bool.and_eq_true, decide_eq_true_eq]
     exact ⟨Nat.le_trans hlens.1 (by decide), Nat.le_trans hlens.2 (by decide), hw32, hxn⟩
   rw [lnP, hcu, hwd2, unStr_strDs, h5, hka, hta, is_lv, is_sm, isStrs_strDs]
   rfl
 have t7 : uRLine7 a1 a2 a3 a4 ka ta wd = linE d (wordsF x) := by rw [huRLine7]; show linE (cfU a1 a2 a3 a4 ka ta) (unStr wd) = _; rw [hcu, hwd2, unStr_strDs]
 have hsn : (l.take (i + 1)).map wordsF = (l.take i).map wordsF ++ [wordsF x] := by rw [List.take_add_one, hx]; simp
 refine AKt.need h1 fun _ => AKt.need q3 fun _ => AKt.need q4 fun _ => ?_
 refine AKt.node (fun hc => ?_) (fun hc => ?_)
 · have hbad : linE d (wordsF x) ≠ 0 := by rw [t7, hF, f_not, f_eqI] at hc; intro e; rw [e] at hc; simp at hc
   have hz : Z = false := by
     have hsp : l.map wordsF = (l.take i).map wordsF ++ wordsF x :: (l.drop (i + 1)).map wordsF := by
       conv => lhs; rw [← List.take_append_drop i l, List.drop_eq_getElem_cons hlt]
       rw [(List.getElem?_eq_some_iff.1 hx).2]
       simp
     rw [hsp, runL_bad (by rw [hrun, hd]) hbad] at hZ
     exact hZ
   repeat' (first|with_reducible (first|refine qAh ?_|refine qAt ?_|refine qAf ?_|refine qAy (by assumption) ?_|refine qAn (by assumption) ?_|refine qAd (fun hb => ?_) (fun hb => ?_)|refine qAe ?_ (fun hb => ?_)|refine qAl ?_)|((with_reducible show _=true); assumption))
   refine AKp.doneE tabOK hfr (by rfl) ?_
   show _ = _
   simp only [tupAV]
   rw [hz]
 have hgood : linE d (wordsF x) = 0 := by rw [t7, hF, f_not, f_eqI] at hc; simpa using hc
 have hnext : runL zeroC ((l.take (i + 1)).map wordsF) = some (linA d (wordsF x)) := by
   rw [hsn, runL_snoc, hrun, ← hd]
   show (if linE d (wordsF x) = 0 then _ else _) = _
   rw [if_pos hgood]
 have hlc : linC d (wordsF x) = linA d (wordsF x) := by rw [linC, if_pos hgood]
 have u1 : uRLine1 a1 a2 a3 a4 ka ta wd = (linA d (wordsF x)).tt := by rw [huRLine1]; show (linC (cfU a1 a2 a3 a4 ka ta) (unStr wd)).tt = _; rw [hcu, hwd2, unStr_strDs, hlc]
 have u2 : uRLine2 a1 a2 a3 a4 ka ta wd = (linA d (wordsF x)).pe := by rw [huRLine2]; show (linC (cfU a1 a2 a3 a4 ka ta) (unStr wd)).pe = _; rw [hcu, hwd2, unStr_strDs, hlc]
 have u3 : uRLine3 a1 a2 a3 a4 ka ta wd = (linA d (wordsF x)).pr := by rw [huRLine3]; show (linC (cfU a1 a2 a3 a4 ka ta) (unStr wd)).pr = _; rw [hcu, hwd2, unStr_strDs, hlc]
 have u4 : uRLine4 a1 a2 a3 a4 ka ta wd = (linA d (wordsF x)).mo := by rw [huRLine4]; show (linC (cfU a1 a2 a3 a4 ka ta) (unStr wd)).mo = _; rw [hcu, hwd2, unStr_strDs, hlc]
 have u5 : uRLine5 a1 a2 a3 a4 ka ta wd = lvDs (linA d (wordsF x)).ls := by rw [huRLine5]; show lvDs (linC (cfU a1 a2 a3 a4 ka ta) (unStr wd)).ls = _; rw [hcu, hwd2, unStr_strDs, hlc]
 have u6 : uRLine6 a1 a2 a3 a4 ka ta wd = smDs (linA d (wordsF x)).ss := by rw [huRLine6]; show smDs (linC (cfU a1 a2 a3 a4 ka ta) (unStr wd)).ss = _; rw [hcu, hwd2, unStr_strDs, hlc]
 repeat' (first|with_reducible (first|refine qAh ?_|refine qAt ?_|refine qAf ?_|refine qAy (by assumption) ?_|refine qAn (by assumption) ?_|refine qAd (fun hb => ?_) (fun hb => ?_)|refine qAe ?_ (fun hb => ?_)|refine qAl ?_)|((with_reducible show _=true); assumption))
 refine AKp.again _ hfr (by repeat (first | exact True.intro | refine ⟨⟨rfl, rfl⟩, ?_⟩)) (by repeat (first | exact True.intro | refine ⟨⟨rfl, rfl, rfl⟩, ?_⟩)) (hJ (n - 1) _ _ (by omega) ⟨i + 1, _, uRLine1 a1 a2 a3 a4 ka ta wd, uRLine2 a1 a2 a3 a4 ka ta wd, uRLine3 a1 a2 a3 a4 ka ta wd, uRLine4 a1 a2 a3 a4 ka ta wd, (linA d (wordsF x)).ls, (linA d (wordsF x)).ss, _, _, by omega, inc_i hF hiv (by omega), by rw [hnext, u1, u2, u3, u4], u5, u6, rfl, rfl⟩)
def meP (a b c d : Int) (ls ss : List Dat) : Bool := isCf0 ls ss && medF ⟨a, b, c, d, unLv ls, unSm ss⟩
theorem rformedMD_spec (a b c d : Int) (ls ss : List Dat) (h : meP a b c d ls ss = true) : ESpec Tryz.prog 22 [.d (.agg [.s (.int .i64 a), .s (.int .i64 b), .s (.int .i64 c), .s (.int .i64 d), .view 10 ls, .view 5 ss])] (fun x => x = .d (.s (.bool (formR ⟨a, b, c, d, unLv ls, unSm ss⟩)))) := by
 simp only [meP, isCf0, Bool.and_eq_true] at h
 have := rformedM_spec ⟨a, b, c, d, unLv ls, unSm ss⟩ h.2
 simp only [lv_un h.1.1, sm_un h.1.2] at this
 exact this
def φRFormedM (p : Int → Int → Int → Int → List Dat → List Dat → Bool) (u : Int → Int → Int → Int → List Dat → List Dat → Bool) : List AV → Option (Bool × AV)
 | [.d (.agg [.s (.int .i64 a), .s (.int .i64 b), .s (.int .i64 c), .s (.int .i64 d), .view 10 ls, .view 5 ss])] => some (p a b c d ls ss, .d (.s (.bool (u a b c d ls ss))))
 | _ => none
theorem φRFormedM_ok : SpOK Tryz.prog 22 (φRFormedM (meP) (fun a b c d ls ss => formR ⟨a, b, c, d, unLv ls, unSm ss⟩)) := by
 intro xs b x h hb
 unfold φRFormedM at h
 split at h
 · simp only [Option.some.injEq, Prod.mk.injEq] at h
   obtain ⟨rfl, rfl⟩ := h
   exact rformedMD_spec _ _ _ _ _ _ hb
 · cases h
end Go.Proofs.YtpmpajodihpkaaaGreatDoor
namespace Go.Proofs.YtpmpajodihpkaaaGreatDoor
open Go Go.Proofs Go.Ua Go.Extern
set_option maxRecDepth 10000
set_option maxHeartbeats 2000000 in
theorem rhands_spec (d n : Int) : ESpec Tryz.prog 23 [.d (.s (.int .i64 d)), .d (.s (.int .i64 n))] (fun x => x = .tup [.d (.s (.int .u64 (handsV d n))), .d (.s (.int .i64 (handsE d n)))]) := by
 have hG : TblOK Tryz.prog [] := trivial
 refine ESpec.enter Tryz.func23 (by kernel_rfl) rfl (Nat.le_of_ble_eq_true rfl) fun hok cx hnt hfr => ?_
 obtain ⟨F, hF⟩ := real_ex
 refine AK.runT hF tabOK hmix hnt hfr true _ hG ?_
 conv => arg 4; cbv
 have hT : ∀ {a c : Int}, F .ltI a c = true → a < c := fun h => by rw [hF] at h; exact of_decide_eq_true h
 have hN : ∀ {a c : Int}, F .ltI a c = false → ¬ a < c := fun h => by rw [hF] at h; exact of_decide_eq_false h
 repeat' (first|with_reducible (first|refine qAh ?_|refine qAt ?_|refine qAf ?_|refine qAy (by assumption) ?_|refine qAn (by assumption) ?_|refine qAd (fun hb => ?_) (fun hb => ?_)|refine qAe ?_ (fun hb => ?_)|refine qAl ?_)|((with_reducible show _=true); assumption))
 · refine AKp.doneE tabOK hfr (by rfl) ?_
   show _ = _
   simp only [tupAV]
   rw [(E1 (.inl (hT ‹_›))).1, (E1 (.inl (hT ‹_›))).2]
 · refine AKp.doneE tabOK hfr (by rfl) ?_
   show _ = _
   simp only [tupAV]
   rw [(E1 (.inr (.inl (hT hb)))).1, (E1 (.inr (.inl (hT hb)))).2]
 · refine AKp.doneE tabOK hfr (by rfl) ?_
   show _ = _
   simp only [tupAV]
   rw [(E1 (.inr (.inr (.inl (hT hb))))).1, (E1 (.inr (.inr (.inl (hT hb))))).2]
 · refine AKp.doneE tabOK hfr (by rfl) ?_
   show _ = _
   simp only [tupAV]
   rw [(E1 (.inr (.inr (.inr (hT hb))))).1, (E1 (.inr (.inr (.inr (hT hb))))).2]
 all_goals
   rename_i hb1 hb2 hb3 hb4
   have hc : ¬ (d < 1 ∨ 64 < d ∨ n < 1 ∨ 8 < n) := by
     rintro (h | h | h | h)
     · exact hN hb1 h
     · exact hN hb2 h
     · exact hN hb3 h
     · exact hN hb4 h
 · refine AKp.doneE tabOK hfr (by rfl) ?_
   show _ = _
   simp only [tupAV]
   rw [(E8 hc (hT hb)).1, (E8 hc (hT hb)).2]
 have hdn := hN hb
 refine AKp.enterLoop 8 ?_
 conv => arg 7; cbv
 refine AKl.invT hF tabOK hmix hnt hfr true _ hG (fun m vs hs => ∃ (i : Nat) (iv av : Int), i + m = n.toNat ∧ iv = i ∧ av = hprod d i ∧ vs = [(7, .d (.s (.int .i64 iv))), (6, .d (.s (.int .u64 av)))] ∧ hs = []) n.toNat ⟨0, _, _, by omega, rfl, rfl, rfl, rfl⟩ (by repeat (first | exact True.intro | refine ⟨⟨rfl, rfl⟩, ?_⟩)) (by repeat (first | exact True.intro | refine ⟨⟨rfl, rfl, rfl⟩, ?_⟩)) ?_
 rintro J m vs hs hJ ⟨i, iv, av, hi, hiv, hav, rfl, rfl⟩
 conv => arg 4; cbv
 refine AKt.node (fun hb => ?_) (fun hb => ?_)
 · have hlt : (i : Int) < n := by have := hT hb; omega
   obtain ⟨nv, hnv⟩ : ∃ z, z = F .wrap .u64 (F .mul av (F .wrap .u64 (F .wrap .i64 (F .sub d iv)))) := ⟨_, rfl⟩
   rw [← hnv]
   rw [hstep hF hiv (by omega) (by omega) (by omega) (by omega) hav] at hnv
   repeat' (first|with_reducible (first|refine qAh ?_|refine qAt ?_|refine qAf ?_|refine qAy (by assumption) ?_|refine qAn (by assumption) ?_|refine qAd (fun hb => ?_) (fun hb => ?_)|refine qAe ?_ (fun hb => ?_)|refine qAl ?_)|((with_reducible show _=true); assumption))
   refine AKp.again _ hfr (by repeat (first | exact True.intro | refine ⟨⟨rfl, rfl⟩, ?_⟩)) (by repeat (first | exact True.intro | refine ⟨⟨rfl, rfl, rfl⟩, ?_⟩)) (hJ (m - 1) _ _ (by omega) ⟨i + 1, _, _, by omega, inc_i hF hiv (by omega), hnv, rfl, rfl⟩)
 · have hge := hN hb
   have hin : i = n.toNat := by omega
   rw [hin] at hav
   refine AKt.node (fun hb => ?_) (fun hb => ?_)
   · repeat' (first|with_reducible (first|refine qAh ?_|refine qAt ?_|refine qAf ?_|refine qAy (by assumption) ?_|refine qAn (by assumption) ?_|refine qAd (fun hb => ?_) (fun hb => ?_)|refine qAe ?_ (fun hb => ?_)|refine qAl ?_)|((with_reducible show _=true); assumption))
     refine AKp.doneE tabOK hfr (by rfl) ?_
     show _ = _
     simp only [tupAV]
     rw [(E10 hc hdn (by rw [← hav]; exact hT hb)).1, (E10 hc hdn (by rw [← hav]; exact hT hb)).2]
   · repeat' (first|with_reducible (first|refine qAh ?_|refine qAt ?_|refine qAf ?_|refine qAy (by assumption) ?_|refine qAn (by assumption) ?_|refine qAd (fun hb => ?_) (fun hb => ?_)|refine qAe ?_ (fun hb => ?_)|refine qAl ?_)|((with_reducible show _=true); assumption))
     refine AKp.doneE tabOK hfr (by rfl) ?_
     show _ = _
     simp only [tupAV]
     rw [(E0 hc hdn (by rw [← hav]; exact hN hb)).1, (E0 hc hdn (by rw [← hav]; exact hN hb)).2, hav]
def φRHands (u e : Int → Int → Int) : List AV → Option (Bool × AV)
 | [.d (.s (.int .i64 d)), .d (.s (.int .i64 n))] => some (true, .tup [.d (.s (.int .u64 (u d n))), .d (.s (.int .i64 (e d n)))])
 | _ => none
theorem φRHands_ok : SpOK Tryz.prog 23 (φRHands (handsV) (handsE)) := by
 intro xs b x h hb
 unfold φRHands at h
 split at h
 · simp only [Option.some.injEq, Prod.mk.injEq] at h
   obtain ⟨rfl, rfl⟩ := h
   exact rhands_spec _ _
 · cases h
theorem rstar_spec (es : List Dat) (hb : isStrs es = true) : ESpec Tryz.prog 24 [.d (.view 1 es)] (fun x => x = .d (.s (.bool (isStar es)))) := by
 have hG : TblOK Tryz.prog [] := trivial
 obtain ⟨l, hl⟩ : ∃ l, es = strDs l := ⟨unStr es, (strDs_unStr hb).symm⟩
 have hlen : es.length = l.length := by rw [hl, strDs_length]
 have hst : isStar es = decide (l = star) := by rw [isStar, hl, unStr_strDs]
 refine ESpec.enter Tryz.func24 (by kernel_rfl) rfl (Nat.le_of_ble_eq_true rfl) fun hok cx hnt hfr => ?_
 obtain ⟨F, hF⟩ := real_ex
 refine AK.runT hF tabOK hmix hnt hfr true _ hG ?_
 conv => arg 4; cbv
 refine AKt.node (fun hb => ?_) (fun hb => ?_)
 · have h1 : l.length = 1 := by rw [hF, f_eqI, f_lenD, hlen] at hb; have := eq_of_beq hb; omega
   obtain ⟨x, hx⟩ : ∃ x, l = [x] := by
     match l, h1 with
     | [x], _ => exact ⟨x, rfl⟩
   refine AKt.need (by rw [hl]; exact t_hasG hF (n := 0) (by omega)) fun _ => ?_
   rw [show F .strA es 0 0 = x by rw [hl]; exact (t_strG hF l 0).trans (by rw [hx]; rfl)]
   repeat' (first|with_reducible (first|refine qAh ?_|refine qAt ?_|refine qAf ?_|refine qAy (by assumption) ?_|refine qAn (by assumption) ?_|refine qAd (fun hb => ?_) (fun hb => ?_)|refine qAe ?_ (fun hb => ?_)|refine qAl ?_)|((with_reducible show _=true); assumption))
   refine AKp.doneE tabOK hfr (by rfl) ?_
   show _ = _
   simp only [tupAV]
   rw [hst, hx, hF, f_eqS]
   refine avb (Bool.eq_iff_iff.2 ?_)
   simp [star]
 · have h1 : ¬ l.length = 1 := by rw [hF, f_eqI, f_lenD, hlen] at hb; have := ne_of_beq_false hb; omega
   repeat' (first|with_reducible (first|refine qAh ?_|refine qAt ?_|refine qAf ?_|refine qAy (by assumption) ?_|refine qAn (by assumption) ?_|refine qAd (fun hb => ?_) (fun hb => ?_)|refine qAe ?_ (fun hb => ?_)|refine qAl ?_)|((with_reducible show _=true); assumption))
   refine AKp.doneE tabOK hfr (by rfl) ?_
   show _ = _
   simp only [tupAV]
   have hne : ¬ l = star := fun e => h1 (by rw [e]; rfl)
   rw [hst, decide_eq_false hne]
def φRStar (p u : List Dat → Bool) : List AV → Option (Bool × AV)
 | [.d (.view 1 es)] => some (p es, .d (.s (.bool (u es))))
 | _ => none
theorem φRStar_ok : SpOK Tryz.prog 24 (φRStar (isStrs) (isStar)) := by
 intro xs b x h hb
 unfold φRStar at h
 split at h
 · simp only [Option.some.injEq, Prod.mk.injEq] at h
   obtain ⟨rfl, rfl⟩ := h
   exact rstar_spec _ hb
 · cases h
end Go.Proofs.YtpmpajodihpkaaaGreatDoor
