/- The library of this claim and its walks, part 48, joined out of smaller texts. No statement stands in it. -/
import Derived.Test.YtpmpajodihpkaaaGreatDoorUaM30
import Derived.Test.YtpmpajodihpkaaaGreatDoorUaM36
import Derived.Test.YtpmpajodihpkaaaGreatDoorUaM43
set_option linter.unusedSimpArgs false
set_option linter.unusedVariables false
namespace Go.Proofs.YtpmpajodihpkaaaGreatDoor
open Go Go.Proofs Go.Ua Go.Extern
set_option maxRecDepth 10000
theorem med_fill {c : Cf} (h : smallF c = true) : medF (fillF c) = true := by
 have h0 := med_small h
 simp only [smallF, Bool.and_eq_true, decide_eq_true_eq] at h
 obtain ⟨h1, h2, h3, h4, h5⟩ := h
 simp only [medF, Bool.and_eq_true, decide_eq_true_eq] at h0 ⊢
 obtain ⟨g1, g2, g3, g4⟩ := h0
 have a1 := addL_bd (w := wEx) (x := lEx) (ls := c.ls) (l := c.ls)
 have a2 := addL_bd (w := wCa) (x := lCa) (ls := c.ls) (l := addL wEx lEx c.ls c.ls)
 have b1 := addS_bd (w := wEx) (x := sEx) (ls := c.ss) (l := c.ss)
 have b2 := addS_bd (w := wCa) (x := sCa) (ls := c.ss) (l := addS wEx sEx c.ss c.ss)
 refine ⟨?_, ?_, ?_, ?_⟩
 · show (addL wCa lCa c.ls (addL wEx lEx c.ls c.ls)).length ≤ 1000
   omega
 · show (addS wCa sCa c.ss (addS wEx sEx c.ss c.ss)).length ≤ 1000
   omega
 · show (addL wCa lCa c.ls (addL wEx lEx c.ls c.ls)).all (fun l => decide (l.nm.length ≤ 1000)) = true
   have k : ∀ {w x} {l : List Lv}, decide (x.nm.length ≤ 1000) = true → l.all (fun l => decide (l.nm.length ≤ 1000)) = true → (addL w x c.ls l).all (fun l => decide (l.nm.length ≤ 1000)) = true := fun {w x l} hx hl => by
     unfold addL
     split
     · exact hl
     · rw [List.all_append, hl, Bool.true_and, List.all_cons, hx]
       rfl
   exact k (by decide) (k (by decide) g3)
 · show (addS wCa sCa c.ss (addS wEx sEx c.ss c.ss)).all smB = true
   have k : ∀ {w x} {l : List Sm}, smB x = true → l.all smB = true → (addS w x c.ss l).all smB = true := fun {w x l} hx hl => by
     unfold addS
     split
     · exact hl
     · rw [List.all_append, hl, Bool.true_and, List.all_cons, hx]
       rfl
   exact k (by decide) (k (by decide) g4)
set_option maxHeartbeats 4000000 in
set_option cbv.maxSteps 10000000 in
theorem FillV_spec (c : Cf) (hc : cpC c = true) : ESpec Tryz.prog 6 [.d c.dat] (fun x => x = .d (fillF c).dat) := by
 obtain ⟨uFOr, huFOr⟩ : ∃ u : Int → Int → Int, u = orF := ⟨_, rfl⟩
 obtain ⟨uFSchema, huFSchema⟩ : ∃ u : Wd → Wd → Int → Int → List Dat → Bool, u = fun nm lv rk bb rl => isS1 (.agg [.s (.str nm), .s (.str lv), .s (.int .i64 rk), .s (.int .i64 bb), .view 5 rl]) := ⟨_, rfl⟩
 have hG : TblOK Tryz.prog [(13, .p (φFOr uFOr)), (15, .p (φFAll )), (14, .p (φFSchema uFSchema))] := ⟨(by rw [huFOr]; exact φFOr_ok), φFAll_ok, (by rw [huFSchema]; exact φFSchema_ok), trivial⟩
 obtain ⟨tt, pe, pr, mo, ls, ss⟩ := c
 simp only [cpC, Bool.and_eq_true, decide_eq_true_eq] at hc
 obtain ⟨hc1, hc2, hc3⟩ := hc
 simp only [Cf.dat, Cf.cells]
 obtain ⟨ld, hld⟩ : ∃ z, z = lvDs ls := ⟨_, rfl⟩
 obtain ⟨sd, hsd⟩ : ∃ z, z = smDs ss := ⟨_, rfl⟩
 rw [← hld, ← hsd]
 have hll : ld.length = ls.length := by rw [hld, lvDs_len]
 have hsl : sd.length = ss.length := by rw [hsd, smDs_len]
 have uo : ∀ n o, uFOr n o = orF n o := fun n o => by subst huFOr huFSchema; rfl
 refine ESpec.enter Tryz.func6 (by kernel_rfl) rfl (Nat.le_of_ble_eq_true rfl) fun hok cx hnt hfr => ?_
 obtain ⟨F, hF⟩ := real_ex
 refine AK.runT hF tabOK hmix hnt hfr false _ hG ?_
 conv => arg 4; cbv
 obtain ⟨o1, ho1⟩ : ∃ z, z = uFOr tt 100 := ⟨_, rfl⟩
 obtain ⟨o2, ho2⟩ : ∃ z, z = uFOr pe 10 := ⟨_, rfl⟩
 obtain ⟨o3, ho3⟩ : ∃ z, z = uFOr pr 100 := ⟨_, rfl⟩
 obtain ⟨o4, ho4⟩ : ∃ z, z = uFOr mo 10 := ⟨_, rfl⟩
 rw [← ho1, ← ho2, ← ho3, ← ho4]
 rw [uo] at ho1 ho2 ho3 ho4
 repeat' (first|with_reducible (first|refine qAh ?_|refine qAt ?_|refine qAf ?_|refine qAy (by assumption) ?_|refine qAn (by assumption) ?_|refine qAd (fun hb => ?_) (fun hb => ?_)|refine qAe ?_ (fun hb => ?_)|refine qAl ?_)|((with_reducible show _=true); assumption))
 refine AKp.asRowB 2 4 40 10 (by decide) rfl rfl (Nat.le_of_ble_eq_true rfl) ?_
 conv => arg 4; arg 2; cbv
 refine AKp.asRowB 2 5 43 5 (by decide) rfl rfl (Nat.le_of_ble_eq_true rfl) ?_
 conv => arg 4; arg 2; cbv
 obtain ⟨L1, hL1⟩ : ∃ z, z = addL wEx lEx ls ls := ⟨_, rfl⟩
 obtain ⟨L2, hL2⟩ : ∃ z, z = addL wCa lCa ls L1 := ⟨_, rfl⟩
 obtain ⟨S1, hS1⟩ : ∃ z, z = addS wEx sEx ss ss := ⟨_, rfl⟩
 obtain ⟨S2, hS2⟩ : ∃ z, z = addS wCa sCa ss S1 := ⟨_, rfl⟩
 have hL1l : L1.length ≤ 1001 := by rw [hL1, addL]; split <;> (try simp) <;> omega
 have hL2l : L2.length ≤ 1002 := by rw [hL2, addL]; split <;> (try simp) <;> omega
 have hS1l : S1.length ≤ 1001 := by rw [hS1, addS]; split <;> (try simp) <;> omega
 have hS2l : S2.length ≤ 1002 := by rw [hS2, addS]; split <;> (try simp) <;> omega
 have fitL : ∀ ad (l : List Lv), l.length ≤ 2000 → ad = lvDs l → F .fits 88 ad = true := fun ad l h e => t_fits hF (by rw [e, lvDs_len]; omega)
 have fitS : ∀ ad (l : List Sm), l.length ≤ 2000 → ad = smDs l → F .fits 72 ad = true := fun ad l h e => t_fits hF (by rw [e, smDs_len]; omega)
 have appL : ∀ ad (l : List Lv) (x : Lv), ad = lvDs l → F .appD ad [x.dat] = lvDs (l ++ [x]) := fun ad l x e => by rw [hF, f_appD, e]; simp [lvDs]
 have appS : ∀ ad (l : List Sm) (x : Sm), ad = smDs l → F .appD ad [x.dat] = smDs (l ++ [x]) := fun ad l x e => by rw [hF, f_appD, e]; simp [smDs]
 obtain ⟨fl, hfl⟩ : ∃ z, z = cntM (ls.map (·.nm)) := ⟨_, rfl⟩
 obtain ⟨fs, hfs⟩ : ∃ z, z = cntM (ss.map (·.nm)) := ⟨_, rfl⟩
 have gL : ∀ w, F .eqI (F .getM fl w) 0 = !haveL w ls := fun w => by
   rw [hF, hfl]
   show (cntM (ls.map (·.nm)) w == 0) = _
   cases h : haveL w ls
   · rw [cnt_L.2 h]; rfl
   · have : cntM (ls.map (·.nm)) w ≠ 0 := fun e => by rw [cnt_L.1 e] at h; cases h
     simpa using this
 have gS : ∀ w, F .eqI (F .getM fs w) 0 = !haveS w ss := fun w => by
   rw [hF, hfs]
   show (cntM (ss.map (·.nm)) w == 0) = _
   cases h : haveS w ss
   · rw [cnt_S.2 h]; rfl
   · have : cntM (ss.map (·.nm)) w ≠ 0 := fun e => by rw [cnt_S.1 e] at h; cases h
     simpa using this
 refine exK ?K25 fun k25 hK25 => ?_
 rotate_left
 have rest25 : ∀ la sa : List Dat, la = lvDs L2 → sa = smDs S2 → AK Tryz.prog cx (finE Tryz.prog Tryz.f6 cx fun x => x = .d (.agg [.s (.int .i64 (fillF ⟨tt, pe, pr, mo, ls, ss⟩).tt), .s (.int .i64 (fillF ⟨tt, pe, pr, mo, ls, ss⟩).pe), .s (.int .i64 (fillF ⟨tt, pe, pr, mo, ls, ss⟩).pr), .s (.int .i64 (fillF ⟨tt, pe, pr, mo, ls, ss⟩).mo), .view 10 (lvDs (fillF ⟨tt, pe, pr, mo, ls, ss⟩).ls), .view 5 (smDs (fillF ⟨tt, pe, pr, mo, ls, ss⟩).ss)])) k25 ⟨[(2, .ptr 1 0 0 6), (3, .ptr 2 0 0 6), (4, .mp 3), (5, .mp 4)], [(5, .ds 40 10 la), (6, .ds 43 5 sa), (2, .cs 25 [.d (.s (.int .i64 o1)), .d (.s (.int .i64 o2)), .d (.s (.int .i64 o3)), .d (.s (.int .i64 o4)), .row 5 10, .row 6 5]), (3, .mp fl), (4, .mp fs), (1, .cs 25 [.d (.s (.int .i64 0)), .d (.s (.int .i64 0)), .d (.s (.int .i64 0)), .d (.s (.int .i64 0)), .d (.s .sl0), .d (.s .sl0)])], 7⟩ := ?r25
 refine exK ?K22 fun k22 hK22 => ?_
 rotate_left
 have rest22 : ∀ la sa : List Dat, la = lvDs L2 → sa = smDs S1 → AK Tryz.prog cx (finE Tryz.prog Tryz.f6 cx fun x => x = .d (.agg [.s (.int .i64 (fillF ⟨tt, pe, pr, mo, ls, ss⟩).tt), .s (.int .i64 (fillF ⟨tt, pe, pr, mo, ls, ss⟩).pe), .s (.int .i64 (fillF ⟨tt, pe, pr, mo, ls, ss⟩).pr), .s (.int .i64 (fillF ⟨tt, pe, pr, mo, ls, ss⟩).mo), .view 10 (lvDs (fillF ⟨tt, pe, pr, mo, ls, ss⟩).ls), .view 5 (smDs (fillF ⟨tt, pe, pr, mo, ls, ss⟩).ss)])) k22 ⟨[(2, .ptr 1 0 0 6), (3, .ptr 2 0 0 6), (4, .mp 3), (5, .mp 4)], [(5, .ds 40 10 la), (6, .ds 43 5 sa), (2, .cs 25 [.d (.s (.int .i64 o1)), .d (.s (.int .i64 o2)), .d (.s (.int .i64 o3)), .d (.s (.int .i64 o4)), .row 5 10, .row 6 5]), (3, .mp fl), (4, .mp fs), (1, .cs 25 [.d (.s (.int .i64 0)), .d (.s (.int .i64 0)), .d (.s (.int .i64 0)), .d (.s (.int .i64 0)), .d (.s .sl0), .d (.s .sl0)])], 7⟩ := ?r22
 refine exK ?K19 fun k19 hK19 => ?_
 rotate_left
 have rest19 : ∀ la sa : List Dat, la = lvDs L2 → sa = smDs ss → AK Tryz.prog cx (finE Tryz.prog Tryz.f6 cx fun x => x = .d (.agg [.s (.int .i64 (fillF ⟨tt, pe, pr, mo, ls, ss⟩).tt), .s (.int .i64 (fillF ⟨tt, pe, pr, mo, ls, ss⟩).pe), .s (.int .i64 (fillF ⟨tt, pe, pr, mo, ls, ss⟩).pr), .s (.int .i64 (fillF ⟨tt, pe, pr, mo, ls, ss⟩).mo), .view 10 (lvDs (fillF ⟨tt, pe, pr, mo, ls, ss⟩).ls), .view 5 (smDs (fillF ⟨tt, pe, pr, mo, ls, ss⟩).ss)])) k19 ⟨[(2, .ptr 1 0 0 6), (3, .ptr 2 0 0 6), (4, .mp 3), (5, .mp 4)], [(5, .ds 40 10 la), (6, .ds 43 5 sa), (2, .cs 25 [.d (.s (.int .i64 o1)), .d (.s (.int .i64 o2)), .d (.s (.int .i64 o3)), .d (.s (.int .i64 o4)), .row 5 10, .row 6 5]), (3, .mp fl), (4, .mp fs), (1, .cs 25 [.d (.s (.int .i64 0)), .d (.s (.int .i64 0)), .d (.s (.int .i64 0)), .d (.s (.int .i64 0)), .d (.s .sl0), .d (.s .sl0)])], 7⟩ := ?r19
 refine exK ?K17 fun k17 hK17 => ?_
 rotate_left
 have rest17 : ∀ la sa : List Dat, la = lvDs L1 → sa = smDs ss → AK Tryz.prog cx (finE Tryz.prog Tryz.f6 cx fun x => x = .d (.agg [.s (.int .i64 (fillF ⟨tt, pe, pr, mo, ls, ss⟩).tt), .s (.int .i64 (fillF ⟨tt, pe, pr, mo, ls, ss⟩).pe), .s (.int .i64 (fillF ⟨tt, pe, pr, mo, ls, ss⟩).pr), .s (.int .i64 (fillF ⟨tt, pe, pr, mo, ls, ss⟩).mo), .view 10 (lvDs (fillF ⟨tt, pe, pr, mo, ls, ss⟩).ls), .view 5 (smDs (fillF ⟨tt, pe, pr, mo, ls, ss⟩).ss)])) k17 ⟨[(2, .ptr 1 0 0 6), (3, .ptr 2 0 0 6), (4, .mp 3), (5, .mp 4)], [(5, .ds 40 10 la), (6, .ds 43 5 sa), (2, .cs 25 [.d (.s (.int .i64 o1)), .d (.s (.int .i64 o2)), .d (.s (.int .i64 o3)), .d (.s (.int .i64 o4)), .row 5 10, .row 6 5]), (3, .mp fl), (4, .mp fs), (1, .cs 25 [.d (.s (.int .i64 0)), .d (.s (.int .i64 0)), .d (.s (.int .i64 0)), .d (.s (.int .i64 0)), .d (.s .sl0), .d (.s .sl0)])], 7⟩ := ?r17
 refine AKp.enterLoop 31 ?_
 conv => arg 7; cbv
 refine AKl.invTs hF tabOK hmix hnt (Nat.le_trans (Nat.le_of_eq hfr) (Nat.le_of_ble_eq_true rfl)) [10] false _ hG (fun n vs hs => ∃ (i : Nat) (iv : Int) (ad : List Dat) (f : Wd → Int), i + n = ls.length ∧ iv = i ∧ ad = lvDs (ls.take i) ∧ f = cntM ((ls.take i).map (·.nm)) ∧ vs = [(30, .d (.s (.int .i64 iv)))] ∧ hs = [(5, .ds 40 10 ad), (6, .ds 43 5 []), (2, .cs 25 [.d (.s (.int .i64 o1)), .d (.s (.int .i64 o2)), .d (.s (.int .i64 o3)), .d (.s (.int .i64 o4)), .row 5 10, .row 6 5]), (3, .mp f), (4, .mp (fun _ => 0)), (1, .cs 25 [.d (.s (.int .i64 0)), .d (.s (.int .i64 0)), .d (.s (.int .i64 0)), .d (.s (.int .i64 0)), .d (.s .sl0), .d (.s .sl0)]), (0, .cs 25 [.d (.s (.int .i64 tt)), .d (.s (.int .i64 pe)), .d (.s (.int .i64 pr)), .d (.s (.int .i64 mo)), .d (.view 10 ld), .d (.view 5 sd)])]) ls.length ⟨0, _, [], _, by omega, rfl, rfl, rfl, rfl, rfl⟩ (by repeat (first | exact True.intro | refine ⟨⟨rfl, rfl⟩, ?_⟩)) (by repeat (first | exact True.intro | refine ⟨⟨rfl, rfl, rfl⟩, ?_⟩)) ?_
 rintro J n vs hs hJ ⟨i, iv, ad, f, hi, hiv, had, hf, rfl, rfl⟩
 conv => arg 4; cbv
 refine AKt.node (fun hb => ?_) (fun hb => ?_)
 · have hlt : i < ls.length := by rw [hF, f_ltI, f_lenD, hll, hiv] at hb; have := of_decide_eq_true hb; omega
   obtain ⟨x, hx⟩ : ∃ x, ls[i]? = some x := ⟨_, List.getElem?_eq_getElem hlt⟩
   have hd : ld[i]? = some x.dat := by rw [hld]; exact lvDs_get hx
   have hx_ : F .hasD ld iv [.str, .int .i64, .int .i64, .int .i64, .int .i64, .int .i64, .int .i64, .int .i64, .int .i64, .int .i64] = true := t_hasD hF hd hiv rfl
   obtain ⟨x0, hx0⟩ : ∃ z, z = x.nm := ⟨_, rfl⟩
   try rw [show F .strA ld iv 0 = x0 by rw [hx0]; exact t_strA hF hd hiv rfl]
   obtain ⟨x1, hx1⟩ : ∃ z, z = x.kd := ⟨_, rfl⟩
   try rw [show F .intA ld iv 1 = x1 by rw [hx1]; exact t_intA hF hd hiv rfl]
   obtain ⟨x2, hx2⟩ : ∃ z, z = x.sh := ⟨_, rfl⟩
   try rw [show F .intA ld iv 2 = x2 by rw [hx2]; exact t_intA hF hd hiv rfl]
   obtain ⟨x3, hx3⟩ : ∃ z, z = x.ld := ⟨_, rfl⟩
   try rw [show F .intA ld iv 3 = x3 by rw [hx3]; exact t_intA hF hd hiv rfl]
   obtain ⟨x4, hx4⟩ : ∃ z, z = x.bo := ⟨_, rfl⟩
   try rw [show F .intA ld iv 4 = x4 by rw [hx4]; exact t_intA hF hd hiv rfl]
   obtain ⟨x5, hx5⟩ : ∃ z, z = x.qu := ⟨_, rfl⟩
   try rw [show F .intA ld iv 5 = x5 by rw [hx5]; exact t_intA hF hd hiv rfl]
   obtain ⟨x6, hx6⟩ : ∃ z, z = x.ha := ⟨_, rfl⟩
   try rw [show F .intA ld iv 6 = x6 by rw [hx6]; exact t_intA hF hd hiv rfl]
   obtain ⟨x7, hx7⟩ : ∃ z, z = x.le := ⟨_, rfl⟩
   try rw [show F .intA ld iv 7 = x7 by rw [hx7]; exact t_intA hF hd hiv rfl]
   obtain ⟨x8, hx8⟩ : ∃ z, z = x.wa := ⟨_, rfl⟩
   try rw [show F .intA ld iv 8 = x8 by rw [hx8]; exact t_intA hF hd hiv rfl]
   obtain ⟨x9, hx9⟩ : ∃ z, z = x.gu := ⟨_, rfl⟩
   try rw [show F .intA ld iv 9 = x9 by rw [hx9]; exact t_intA hF hd hiv rfl]
   obtain ⟨nd, hnd⟩ : ∃ z, z = F .appD ad [.agg [.s (.str x0), .s (.int .i64 x1), .s (.int .i64 x2), .s (.int .i64 x3), .s (.int .i64 x4), .s (.int .i64 x5), .s (.int .i64 x6), .s (.int .i64 x7), .s (.int .i64 x8), .s (.int .i64 x9)]] := ⟨_, rfl⟩
   have hnd2 : nd = lvDs (ls.take (i + 1)) := by
     rw [hnd, hF, f_appD, had, List.take_add_one, hx, hx0, hx1, hx2, hx3, hx4, hx5, hx6, hx7, hx8, hx9]
     simp [lvDs, Lv.dat]
   have hfn : F .fits 88 nd = true := fitL _ _ (by simp; omega) hnd2
   obtain ⟨nf, hnf⟩ : ∃ z, z = F .setM f x0 (F .wrap .i64 (F .add (F .getM f x0) 1)) := ⟨_, rfl⟩
   have hnf2 : nf = cntM ((ls.take (i + 1)).map (·.nm)) := by
     rw [hnf, cnt_snoc hF hf (by simp; omega), List.take_add_one, hx, hx0]
     simp
   rw [← hnd, ← hnf]
   refine AKt.need hx_ fun _ => AKt.need hfn fun _ => ?_
   repeat' (first|with_reducible (first|refine qAh ?_|refine qAt ?_|refine qAf ?_|refine qAy (by assumption) ?_|refine qAn (by assumption) ?_|refine qAd (fun hb => ?_) (fun hb => ?_)|refine qAe ?_ (fun hb => ?_)|refine qAl ?_)|((with_reducible show _=true); assumption))
   refine AKp.againR [(5, 9)] _ hfr (by repeat (first | exact True.intro | refine ⟨⟨rfl, rfl⟩, ?_⟩)) (by repeat (first | exact True.intro | refine ⟨⟨Nat.le_of_ble_eq_true rfl, rfl, rfl⟩, ?_⟩)) rfl (hJ (n - 1) _ _ (by omega) ⟨i + 1, _, _, _, by omega, inc_i hF hiv (by omega), hnd2, hnf2, rfl, rfl⟩)
 have hge : ¬ i < ls.length := by rw [hF, f_ltI, f_lenD, hll, hiv] at hb; have := of_decide_eq_false hb; omega
 rw [List.take_of_length_le (by omega)] at had hf
 rw [← hfl] at hf
 rw [hf]
 obtain ⟨la, hla⟩ : ∃ z, z = ad := ⟨_, rfl⟩
 rw [← hla] at had ⊢
 repeat' (first|with_reducible (first|refine qAh ?_|refine qAt ?_|refine qAf ?_|refine qAy (by assumption) ?_|refine qAn (by assumption) ?_|refine qAd (fun hb => ?_) (fun hb => ?_)|refine qAe ?_ (fun hb => ?_)|refine qAl ?_)|((with_reducible show _=true); assumption))
 refine AKp.enterLoop 50 ?_
 conv => arg 7; cbv
 refine AKl.invTs hF tabOK hmix hnt (Nat.le_trans (Nat.le_of_eq hfr) (Nat.le_of_ble_eq_true rfl)) [12, 17] false _ hG (fun n vs hs => ∃ (i : Nat) (iv : Int) (ad : List Dat) (f : Wd → Int), i + n = ss.length ∧ iv = i ∧ ad = smDs (ss.take i) ∧ f = cntM ((ss.take i).map (·.nm)) ∧ vs = [(49, .d (.s (.int .i64 iv)))] ∧ hs = [(5, .ds 40 10 la), (6, .ds 43 5 ad), (2, .cs 25 [.d (.s (.int .i64 o1)), .d (.s (.int .i64 o2)), .d (.s (.int .i64 o3)), .d (.s (.int .i64 o4)), .row 5 10, .row 6 5]), (3, .mp fl), (4, .mp f), (1, .cs 25 [.d (.s (.int .i64 0)), .d (.s (.int .i64 0)), .d (.s (.int .i64 0)), .d (.s (.int .i64 0)), .d (.s .sl0), .d (.s .sl0)]), (0, .cs 25 [.d (.s (.int .i64 tt)), .d (.s (.int .i64 pe)), .d (.s (.int .i64 pr)), .d (.s (.int .i64 mo)), .d (.view 10 ld), .d (.view 5 sd)])]) ss.length ⟨0, _, [], _, by omega, rfl, rfl, rfl, rfl, rfl⟩ (by repeat (first | exact True.intro | refine ⟨⟨rfl, rfl⟩, ?_⟩)) (by repeat (first | exact True.intro | refine ⟨⟨rfl, rfl, rfl⟩, ?_⟩)) ?_
 rintro J2 n2 vs hs hJ2 ⟨i2, iv2, bd, g, hi2, hiv2, hbd, hg, rfl, rfl⟩
 conv => arg 4; cbv
 refine AKt.node (fun hb2 => ?_) (fun hb2 => ?_)
 · have hlt2 : i2 < ss.length := by rw [hF, f_ltI, f_lenD, hsl, hiv2] at hb2; have := of_decide_eq_true hb2; omega
   obtain ⟨x, hx⟩ : ∃ x, ss[i2]? = some x := ⟨_, List.getElem?_eq_getElem hlt2⟩
   have hd : sd[i2]? = some x.dat := by rw [hsd]; exact smDs_get hx
   have hx_ : F .hasD sd iv2 [.str, .str, .int .i64, .int .i64, .view 5] = true := t_hasD hF hd hiv2 rfl
   obtain ⟨x0, hx0⟩ : ∃ z, z = x.nm := ⟨_, rfl⟩
   try rw [show F .strA sd iv2 0 = x0 by rw [hx0]; exact t_strA hF hd hiv2 rfl]
   obtain ⟨x1, hx1⟩ : ∃ z, z = x.lv := ⟨_, rfl⟩
   try rw [show F .strA sd iv2 1 = x1 by rw [hx1]; exact t_strA hF hd hiv2 rfl]
   obtain ⟨x2, hx2⟩ : ∃ z, z = x.rk := ⟨_, rfl⟩
   try rw [show F .intA sd iv2 2 = x2 by rw [hx2]; exact t_intA hF hd hiv2 rfl]
   obtain ⟨x3, hx3⟩ : ∃ z, z = x.bb := ⟨_, rfl⟩
   try rw [show F .intA sd iv2 3 = x3 by rw [hx3]; exact t_intA hF hd hiv2 rfl]
   obtain ⟨x4, hx4⟩ : ∃ z, z = rlDs x.rl := ⟨_, rfl⟩
   try rw [show F .viewA sd iv2 4 = x4 by rw [hx4]; exact t_viewA hF hd hiv2 rfl]
   have hq : uFSchema x0 x1 x2 x3 x4 = true := by
     subst huFOr huFSchema
     show isS1 _ = true
     have e : Dat.agg [.s (.str x0), .s (.str x1), .s (.int .i64 x2), .s (.int .i64 x3), .view 5 x4] = x.dat := by rw [hx0, hx1, hx2, hx3, hx4]; rfl
     rw [isS1, e, is_s, un_s, List.all_eq_true.1 hc3 x (List.mem_of_getElem? hx)]
     rfl
   obtain ⟨nd, hnd⟩ : ∃ z, z = F .appD bd [.agg [.s (.str x0), .s (.str x1), .s (.int .i64 x2), .s (.int .i64 x3), .view 5 x4]] := ⟨_, rfl⟩
   have hnd2 : nd = smDs (ss.take (i2 + 1)) := by
     rw [hnd, hF, f_appD, hbd, List.take_add_one, hx, hx0, hx1, hx2, hx3, hx4]
     simp [smDs, Sm.dat]
   have hfn : F .fits 72 nd = true := fitS _ _ (by simp; omega) hnd2
   obtain ⟨nf, hnf⟩ : ∃ z, z = F .setM g x0 (F .wrap .i64 (F .add (F .getM g x0) 1)) := ⟨_, rfl⟩
   have hnf2 : nf = cntM ((ss.take (i2 + 1)).map (·.nm)) := by
     rw [hnf, cnt_snoc hF hg (by simp; omega), List.take_add_one, hx, hx0]
     simp
   refine AKt.need hx_ fun _ => AKt.leaf ?_
   refine AKp.runD2 hF tabOK hmix hnt false _ hG (Nat.le_trans (Nat.le_of_eq hfr) (Nat.le_of_ble_eq_true rfl)) ?_
   conv => arg 4; cbv
   rw [← hnd, ← hnf]
   repeat' (first|with_reducible (first|refine qAh ?_|refine qAt ?_|refine qAf ?_|refine qAy (by assumption) ?_|refine qAn (by assumption) ?_|refine qAd (fun hb => ?_) (fun hb => ?_)|refine qAe ?_ (fun hb => ?_)|refine qAl ?_)|((with_reducible show _=true); assumption))
   refine AKp.againR [(6, 8)] _ hfr (by repeat (first | exact True.intro | refine ⟨⟨rfl, rfl⟩, ?_⟩)) (by repeat (first | exact True.intro | refine ⟨⟨Nat.le_of_ble_eq_true rfl, rfl, rfl⟩, ?_⟩)) rfl (hJ2 (n2 - 1) _ _ (by omega) ⟨i2 + 1, _, _, _, by omega, inc_i hF hiv2 (by omega), hnd2, hnf2, rfl, rfl⟩)
 have hge2 : ¬ i2 < ss.length := by rw [hF, f_ltI, f_lenD, hsl, hiv2] at hb2; have := of_decide_eq_false hb2; omega
 rw [List.take_of_length_le (by omega)] at hbd hg
 rw [← hfs] at hg
 rw [hg]
 cases hc : haveL wEx ls
 · have c1 : F .eqI (F .getM fl [101,120,101,109,112,116]) 0 = true := by rw [gL [101,120,101,109,112,116], show haveL [101,120,101,109,112,116] ls = false from hc]; rfl
   have e1 : L1 = ls ++ [lEx] := by rw [hL1, addL, hc]; rfl
   obtain ⟨nd, hnd⟩ : ∃ z, z = F .appD la [.agg [.s (.str [101,120,101,109,112,116]), .s (.int .i64 1), .s (.int .i64 0), .s (.int .i64 0), .s (.int .i64 0), .s (.int .i64 0), .s (.int .i64 0), .s (.int .i64 0), .s (.int .i64 0), .s (.int .i64 0)]] := ⟨_, rfl⟩
   have hnd2 : nd = lvDs L1 := by rw [hnd, e1]; exact appL _ _ lEx had
   have hfn : F .fits 88 nd = true := fitL _ _ (by omega) hnd2
   rw [← hnd]
   repeat' (first|with_reducible (first|refine qAh ?_|refine qAt ?_|refine qAf ?_|refine qAy (by assumption) ?_|refine qAn (by assumption) ?_|refine qAd (fun hb => ?_) (fun hb => ?_)|refine qAe ?_ (fun hb => ?_)|refine qAl ?_)|((with_reducible show _=true); assumption))
   refine AKp.joinR [(5, 8)] hK17 _ hfr ?_ ?_ rfl (rest17 nd bd hnd2 hbd)
   · repeat (first | exact True.intro | refine ⟨⟨rfl, rfl⟩, ?_⟩)
   · repeat (first | exact True.intro | refine ⟨⟨Nat.le_of_ble_eq_true rfl, rfl, rfl⟩, ?_⟩)
 · have c1 : F .eqI (F .getM fl [101,120,101,109,112,116]) 0 = false := by rw [gL [101,120,101,109,112,116], show haveL [101,120,101,109,112,116] ls = true from hc]; rfl
   have e1 : L1 = ls := by rw [hL1, addL, hc]; rfl
   repeat' (first|with_reducible (first|refine qAh ?_|refine qAt ?_|refine qAf ?_|refine qAy (by assumption) ?_|refine qAn (by assumption) ?_|refine qAd (fun hb => ?_) (fun hb => ?_)|refine qAe ?_ (fun hb => ?_)|refine qAl ?_)|((with_reducible show _=true); assumption))
   refine AKp.join hK17 _ hfr ?_ ?_ (rest17 la bd (by rw [e1]; exact had) hbd)
   · repeat (first | exact True.intro | refine ⟨⟨rfl, rfl⟩, ?_⟩)
   · repeat (first | exact True.intro | refine ⟨⟨rfl, rfl, rfl⟩, ?_⟩)
 case' r17 =>
   intro la sa hla hsa
   rw [hK17]
   refine AK.runTs hF tabOK hmix hnt hfr [19] true _ hG ?_
   conv => arg 4; cbv
   cases hc : haveL wCa ls
   · have c1 : F .eqI (F .getM fl [99,97,116,99,104,45,97,108,108]) 0 = true := by rw [gL [99,97,116,99,104,45,97,108,108], show haveL [99,97,116,99,104,45,97,108,108] ls = false from hc]; rfl
     have e1 : L2 = L1 ++ [lCa] := by rw [hL2, addL, hc]; rfl
     obtain ⟨nd, hnd⟩ : ∃ z, z = F .appD la [.agg [.s (.str [99,97,116,99,104,45,97,108,108]), .s (.int .i64 2), .s (.int .i64 5), .s (.int .i64 0), .s (.int .i64 (-1)), .s (.int .i64 0), .s (.int .i64 0), .s (.int .i64 0), .s (.int .i64 0), .s (.int .i64 0)]] := ⟨_, rfl⟩
     have hnd2 : nd = lvDs L2 := by rw [hnd, e1]; exact appL _ _ lCa hla
     have hfn : F .fits 88 nd = true := fitL _ _ (by omega) hnd2
     rw [← hnd]
     repeat' (first|with_reducible (first|refine qAh ?_|refine qAt ?_|refine qAf ?_|refine qAy (by assumption) ?_|refine qAn (by assumption) ?_|refine qAd (fun hb => ?_) (fun hb => ?_)|refine qAe ?_ (fun hb => ?_)|refine qAl ?_)|((with_reducible show _=true); assumption))
     refine AKp.joinR [(5, 7)] hK19 _ hfr ?_ ?_ rfl (rest19 nd sa hnd2 hsa)
     · repeat (first | exact True.intro | refine ⟨⟨rfl, rfl⟩, ?_⟩)
     · repeat (first | exact True.intro | refine ⟨⟨Nat.le_of_ble_eq_true rfl, rfl, rfl⟩, ?_⟩)
   · have c1 : F .eqI (F .getM fl [99,97,116,99,104,45,97,108,108]) 0 = false := by rw [gL [99,97,116,99,104,45,97,108,108], show haveL [99,97,116,99,104,45,97,108,108] ls = true from hc]; rfl
     have e1 : L2 = L1 := by rw [hL2, addL, hc]; rfl
     repeat' (first|with_reducible (first|refine qAh ?_|refine qAt ?_|refine qAf ?_|refine qAy (by assumption) ?_|refine qAn (by assumption) ?_|refine qAd (fun hb => ?_) (fun hb => ?_)|refine qAe ?_ (fun hb => ?_)|refine qAl ?_)|((with_reducible show _=true); assumption))
     refine AKp.join hK19 _ hfr ?_ ?_ (rest19 la sa (by rw [e1]; exact hla) hsa)
     · repeat (first | exact True.intro | refine ⟨⟨rfl, rfl⟩, ?_⟩)
     · repeat (first | exact True.intro | refine ⟨⟨rfl, rfl, rfl⟩, ?_⟩)
 case' r19 =>
   intro la sa hla hsa
   rw [hK19]
   refine AK.runTs hF tabOK hmix hnt hfr [22] true _ hG ?_
   conv => arg 4; cbv
   cases hc : haveS wEx ss
   · have c1 : F .eqI (F .getM fs [101,120,101,109,112,116]) 0 = true := by rw [gS [101,120,101,109,112,116], show haveS [101,120,101,109,112,116] ss = false from hc]; rfl
     have e1 : S1 = ss ++ [sEx] := by rw [hS1, addS, hc]; rfl
     obtain ⟨nd, hnd⟩ : ∃ z, z = F .appD sa [.agg [.s (.str [101,120,101,109,112,116]), .s (.str [101,120,101,109,112,116]), .s (.int .i64 1), .s (.int .i64 0), .view 5 [.agg [.view 1 [], .view 1 [.s (.str [115,121,115,116,101,109,58,109,97,115,116,101,114,115])], .view 1 [.s (.str [42])], .view 1 [.s (.str [42])], .view 1 [.s (.str [42])]]]]] := ⟨_, rfl⟩
     obtain ⟨nr, hnr⟩ : ∃ z, z = F .appD sa [.agg [.s (.str [101,120,101,109,112,116]), .s (.str [101,120,101,109,112,116]), .s (.int .i64 1), .s (.int .i64 0), .view 5 [.agg [.s .sl0, .view 1 [.s (.str [115,121,115,116,101,109,58,109,97,115,116,101,114,115])], .view 1 [.s (.str [42])], .view 1 [.s (.str [42])], .view 1 [.s (.str [42])]]]]] := ⟨_, rfl⟩
     have hle : LesD nr nd := by
       rw [hnr, hnd, hF, f_appD, f_appD]
       exact (LesD.rfl' _).app (.cons (.agg (.cons (.refl _) (.cons (.refl _) (.cons (.refl _) (.cons (.refl _) (.cons (.view (.cons (.agg ((LesD.cons (.nil 1) (LesD.rfl' _)))) .nil)) .nil)))))) .nil)
     have hnl : nr.length = nd.length := by rw [hnr, hnd, hF, f_appD, f_appD, List.length_append, List.length_append]; rfl
     have hnd2 : nd = smDs S1 := by rw [hnd, e1]; exact appS _ _ sEx hsa
     have hfn : F .fits 72 nr = true := t_fits hF (by rw [hnl]; exact of_decide_eq_true (show decide _ = true by rw [← f_fits]; rw [← hF]; exact fitS _ _ (by omega) hnd2))
     rw [← hnr]
     repeat' (first|with_reducible (first|refine qAh ?_|refine qAt ?_|refine qAf ?_|refine qAy (by assumption) ?_|refine qAn (by assumption) ?_|refine qAd (fun hb => ?_) (fun hb => ?_)|refine qAe ?_ (fun hb => ?_)|refine qAl ?_)|((with_reducible show _=true); assumption))
     refine AKp.lessRow 8 nd rfl hle ?_
     conv => arg 4; arg 2; cbv
     refine AKp.joinR [(6, 8)] hK22 _ hfr ?_ ?_ rfl (rest22 la nd hla hnd2)
     · repeat (first | exact True.intro | refine ⟨⟨rfl, rfl⟩, ?_⟩)
     · repeat (first | exact True.intro | refine ⟨⟨Nat.le_of_ble_eq_true rfl, rfl, rfl⟩, ?_⟩)
   · have c1 : F .eqI (F .getM fs [101,120,101,109,112,116]) 0 = false := by rw [gS [101,120,101,109,112,116], show haveS [101,120,101,109,112,116] ss = true from hc]; rfl
     have e1 : S1 = ss := by rw [hS1, addS, hc]; rfl
     repeat' (first|with_reducible (first|refine qAh ?_|refine qAt ?_|refine qAf ?_|refine qAy (by assumption) ?_|refine qAn (by assumption) ?_|refine qAd (fun hb => ?_) (fun hb => ?_)|refine qAe ?_ (fun hb => ?_)|refine qAl ?_)|((with_reducible show _=true); assumption))
     refine AKp.join hK22 _ hfr ?_ ?_ (rest22 la sa hla (by rw [e1]; exact hsa))
     · repeat (first | exact True.intro | refine ⟨⟨rfl, rfl⟩, ?_⟩)
     · repeat (first | exact True.intro | refine ⟨⟨rfl, rfl, rfl⟩, ?_⟩)
 case' r22 =>
   intro la sa hla hsa
   rw [hK22]
   refine AK.runTs hF tabOK hmix hnt hfr [25] true _ hG ?_
   conv => arg 4; cbv
   cases hc : haveS wCa ss
   · have c1 : F .eqI (F .getM fs [99,97,116,99,104,45,97,108,108]) 0 = true := by rw [gS [99,97,116,99,104,45,97,108,108], show haveS [99,97,116,99,104,45,97,108,108] ss = false from hc]; rfl
     have e1 : S2 = S1 ++ [sCa] := by rw [hS2, addS, hc]; rfl
     obtain ⟨nd, hnd⟩ : ∃ z, z = F .appD sa [.agg [.s (.str [99,97,116,99,104,45,97,108,108]), .s (.str [99,97,116,99,104,45,97,108,108]), .s (.int .i64 10000), .s (.int .i64 1), .view 5 [.agg [.view 1 [.s (.str [42])], .view 1 [], .view 1 [.s (.str [42])], .view 1 [.s (.str [42])], .view 1 [.s (.str [42])]]]]] := ⟨_, rfl⟩
     obtain ⟨nr, hnr⟩ : ∃ z, z = F .appD sa [.agg [.s (.str [99,97,116,99,104,45,97,108,108]), .s (.str [99,97,116,99,104,45,97,108,108]), .s (.int .i64 10000), .s (.int .i64 1), .view 5 [.agg [.view 1 [.s (.str [42])], .s .sl0, .view 1 [.s (.str [42])], .view 1 [.s (.str [42])], .view 1 [.s (.str [42])]]]]] := ⟨_, rfl⟩
     have hle : LesD nr nd := by
       rw [hnr, hnd, hF, f_appD, f_appD]
       exact (LesD.rfl' _).app (.cons (.agg (.cons (.refl _) (.cons (.refl _) (.cons (.refl _) (.cons (.refl _) (.cons (.view (.cons (.agg ((LesD.cons (.refl _) (LesD.cons (.nil 1) (LesD.rfl' _))))) .nil)) .nil)))))) .nil)
     have hnl : nr.length = nd.length := by rw [hnr, hnd, hF, f_appD, f_appD, List.length_append, List.length_append]; rfl
     have hnd2 : nd = smDs S2 := by rw [hnd, e1]; exact appS _ _ sCa hsa
     have hfn : F .fits 72 nr = true := t_fits hF (by rw [hnl]; exact of_decide_eq_true (show decide _ = true by rw [← f_fits]; rw [← hF]; exact fitS _ _ (by omega) hnd2))
     rw [← hnr]
     repeat' (first|with_reducible (first|refine qAh ?_|refine qAt ?_|refine qAf ?_|refine qAy (by assumption) ?_|refine qAn (by assumption) ?_|refine qAd (fun hb => ?_) (fun hb => ?_)|refine qAe ?_ (fun hb => ?_)|refine qAl ?_)|((with_reducible show _=true); assumption))
     refine AKp.lessRow 8 nd rfl hle ?_
     conv => arg 4; arg 2; cbv
     refine AKp.joinR [(6, 8)] hK25 _ hfr ?_ ?_ rfl (rest25 la nd hla hnd2)
     · repeat (first | exact True.intro | refine ⟨⟨rfl, rfl⟩, ?_⟩)
     · repeat (first | exact True.intro | refine ⟨⟨Nat.le_of_ble_eq_true rfl, rfl, rfl⟩, ?_⟩)
   · have c1 : F .eqI (F .getM fs [99,97,116,99,104,45,97,108,108]) 0 = false := by rw [gS [99,97,116,99,104,45,97,108,108], show haveS [99,97,116,99,104,45,97,108,108] ss = true from hc]; rfl
     have e1 : S2 = S1 := by rw [hS2, addS, hc]; rfl
     repeat' (first|with_reducible (first|refine qAh ?_|refine qAt ?_|refine qAf ?_|refine qAy (by assumption) ?_|refine qAn (by assumption) ?_|refine qAd (fun hb => ?_) (fun hb => ?_)|refine qAe ?_ (fun hb => ?_)|refine qAl ?_)|((with_reducible show _=true); assumption))
     refine AKp.join hK25 _ hfr ?_ ?_ (rest25 la sa hla (by rw [e1]; exact hsa))
     · repeat (first | exact True.intro | refine ⟨⟨rfl, rfl⟩, ?_⟩)
     · repeat (first | exact True.intro | refine ⟨⟨rfl, rfl, rfl⟩, ?_⟩)
 case' r25 =>
   intro la sa hla hsa
   rw [hK25]
   refine AK.runT hF tabOK hmix hnt hfr false _ hG ?_
   conv => arg 4; cbv
   repeat' (first|with_reducible (first|refine qAh ?_|refine qAt ?_|refine qAf ?_|refine qAy (by assumption) ?_|refine qAn (by assumption) ?_|refine qAd (fun hb => ?_) (fun hb => ?_)|refine qAe ?_ (fun hb => ?_)|refine qAl ?_)|((with_reducible show _=true); assumption))
   refine AKp.freeze 5 rfl ?_
   conv => arg 4; arg 2; cbv
   refine AKp.freeze 6 rfl ?_
   conv => arg 4; arg 2; cbv
   refine AKp.doneE tabOK hfr (by rfl) ?_
   show _ = _
   simp only [tupAV]
   rw [ho1, ho2, ho3, ho4, hla, hsa, hL2, hL1, hS2, hS1]
   rfl
theorem FillVD_spec (a b c d : Int) (ls ss : List Dat) (hb : (isCf0 ls ss && cpC ⟨a, b, c, d, unLv ls, unSm ss⟩) = true) : ESpec Tryz.prog 6 [.d (.agg [.s (.int .i64 a), .s (.int .i64 b), .s (.int .i64 c), .s (.int .i64 d), .view 10 ls, .view 5 ss])] (fun x => x = .d (.agg [.s (.int .i64 (orF a 100)), .s (.int .i64 (orF b 10)), .s (.int .i64 (orF c 100)), .s (.int .i64 (orF d 10)), .view 10 (filL ls), .view 5 (filS ss)])) := by
 obtain ⟨h1, h2⟩ := cp_un hb
 simp only [isCf0, Bool.and_eq_true] at h1
 have h := FillV_spec ⟨a, b, c, d, unLv ls, unSm ss⟩ h2
 simp only [Cf.dat, Cf.cells, lv_un h1.1, sm_un h1.2] at h
 exact h
def φFillV (p : Int → Int → Int → Int → List Dat → List Dat → Bool) (o : Int → Int → Int) (u v : List Dat → List Dat) : List AV → Option (Bool × AV)
 | [.d (.agg [.s (.int .i64 a), .s (.int .i64 b), .s (.int .i64 c), .s (.int .i64 d), .view 10 ls, .view 5 ss])] => some (p a b c d ls ss, .d (.agg [.s (.int .i64 (o a 100)), .s (.int .i64 (o b 10)), .s (.int .i64 (o c 100)), .s (.int .i64 (o d 10)), .view 10 (u ls), .view 5 (v ss)]))
 | _ => none
theorem φFillV_ok : SpOK Tryz.prog 6 (φFillV (fun a b c d ls ss => isCf0 ls ss && cpC ⟨a, b, c, d, unLv ls, unSm ss⟩) (orF) (filL) (filS)) := by
 intro xs b x h hb
 unfold φFillV at h
 split at h
 · simp only [Option.some.injEq, Prod.mk.injEq] at h
   obtain ⟨rfl, rfl⟩ := h
   exact FillVD_spec _ _ _ _ _ _ hb
 · cases h
end Go.Proofs.YtpmpajodihpkaaaGreatDoor
