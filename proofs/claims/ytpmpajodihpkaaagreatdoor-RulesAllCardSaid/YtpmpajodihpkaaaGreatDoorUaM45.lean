/- The library of this claim and its walks, part 45, joined out of smaller texts. No statement stands in it. -/
import Derived.Test.YtpmpajodihpkaaaGreatDoorUaM44
set_option linter.unusedSimpArgs false
set_option linter.unusedVariables false
namespace Go.Proofs.YtpmpajodihpkaaaGreatDoor
open Go Go.Proofs Go.Ua Go.Extern
set_option maxRecDepth 10000
theorem haveL_succ {l : List Lv} {i : Nat} {x : Lv} {w : Wd} (h : l[i]? = some x) : haveL w (l.take (i + 1)) = (haveL w (l.take i) || decide (x.nm = w)) := by
 unfold haveL
 rw [List.take_add_one, h, List.any_append]
 simp
theorem haveS_succ {l : List Sm} {i : Nat} {x : Sm} {w : Wd} (h : l[i]? = some x) : haveS w (l.take (i + 1)) = (haveS w (l.take i) || decide (x.nm = w)) := by
 unfold haveS
 rw [List.take_add_one, h, List.any_append]
 simp
set_option maxHeartbeats 8000000 in
set_option cbv.maxSteps 10000000 in
set_option maxRecDepth 100000 in
theorem chk13_spec (a b c d : Int) (ls ss : List Dat) (hb : isCf0 ls ss = true) (hm : medF ⟨a, b, c, d, unLv ls, unSm ss⟩ = true) : ESpec Tryz.prog 9 [.d (.agg [.s (.int .i64 a), .s (.int .i64 b), .s (.int .i64 c), .s (.int .i64 d), .view 10 ls, .view 5 ss])] (fun x => x = .tup [.d (.s (.int .i64 (rchF ⟨a, b, c, d, unLv ls, unSm ss⟩).1)), .d (.s (.str (rchF ⟨a, b, c, d, unLv ls, unSm ss⟩).2))]) := by
 obtain ⟨uRFormedM, huRFormedM⟩ : ∃ u : Int → Int → Int → Int → List Dat → List Dat → Bool, u = meP := ⟨_, rfl⟩
 obtain ⟨uRFormedM1, huRFormedM1⟩ : ∃ u : Int → Int → Int → Int → List Dat → List Dat → Bool, u = fun a b c d ls ss => formR ⟨a, b, c, d, unLv ls, unSm ss⟩ := ⟨_, rfl⟩
 obtain ⟨uRHands, huRHands⟩ : ∃ u : Int → Int → Int, u = handsV := ⟨_, rfl⟩
 obtain ⟨uRHands1, huRHands1⟩ : ∃ u : Int → Int → Int, u = handsE := ⟨_, rfl⟩
 obtain ⟨uRStar, huRStar⟩ : ∃ u : List Dat → Bool, u = isStrs := ⟨_, rfl⟩
 obtain ⟨uRStar1, huRStar1⟩ : ∃ u : List Dat → Bool, u = isStar := ⟨_, rfl⟩
 have hG : TblOK Tryz.prog [(22, .p (φRFormedM uRFormedM uRFormedM1)), (23, .p (φRHands uRHands uRHands1)), (24, .p (φRStar uRStar uRStar1))] := ⟨(by rw [huRFormedM, huRFormedM1]; exact φRFormedM_ok), (by rw [huRHands, huRHands1]; exact φRHands_ok), (by rw [huRStar, huRStar1]; exact φRStar_ok), trivial⟩
 have hb0 := hb
 simp only [isCf0, Bool.and_eq_true] at hb
 obtain ⟨hb1, hb2⟩ := hb
 have qf : uRFormedM a b c d ls ss = true := by rw [huRFormedM]; show (isCf0 ls ss && medF _) = true; rw [hb0, hm]; rfl
 have vf : uRFormedM1 a b c d ls ss = formC ⟨a, b, c, d, unLv ls, unSm ss⟩ := by rw [huRFormedM1]; exact formR_eq _
 obtain ⟨LS, hLS⟩ : ∃ z, z = unLv ls := ⟨_, rfl⟩
 obtain ⟨SS, hSS⟩ : ∃ z, z = unSm ss := ⟨_, rfl⟩
 have el : ls = lvDs LS := by rw [hLS, lv_un hb1]
 have es : ss = smDs SS := by rw [hSS, sm_un hb2]
 have hll : ls.length = LS.length := by rw [el, lvDs_len]
 have hsl : ss.length = SS.length := by rw [es, smDs_len]
 obtain ⟨R, hR⟩ : ∃ z, z = rchF ⟨a, b, c, d, unLv ls, unSm ss⟩ := ⟨_, rfl⟩
 rw [← hR]
 obtain ⟨rn, rw_⟩ := R
 refine ESpec.enter Tryz.func9 (by kernel_rfl) rfl (Nat.le_of_ble_eq_true rfl) fun hok cx hnt hfr => ?_
 obtain ⟨F, hF⟩ := real_ex
 refine AK.runT hF tabOK hmix hnt hfr true _ hG ?_
 conv => arg 4; cbv
 refine AKt.need qf fun _ => ?_
 refine AKt.node (fun hfm => ?_) (fun hfm => ?_)
 · simp only [not_iff hF] at hfm
   rw [vf] at hfm
   rw [rchF, if_pos hfm] at hR
   simp only [Prod.mk.injEq] at hR
   obtain ⟨rfl, rfl⟩ := hR
   repeat' (first|with_reducible (first|refine qAh ?_|refine qAt ?_|refine qAf ?_|refine qAy (by assumption) ?_|refine qAn (by assumption) ?_|refine qAd (fun hb => ?_) (fun hb => ?_)|refine qAe ?_ (fun hb => ?_)|refine qAl ?_)|((with_reducible show _=true); assumption))
   refine AKp.doneE tabOK hfr (by rfl) ?_
   show _ = _
   simp only [tupAV]
 simp only [not_iff hF] at hfm
 rw [vf] at hfm
 have hfm2 := hfm
 simp only [formC, Bool.and_eq_true, decide_eq_true_eq] at hfm2
 obtain ⟨_, _, _, _, _, z6, z7, z8, z9⟩ := hfm2
 rw [rchF, if_neg (fun h => Bool.noConfusion (hfm.symm.trans h)), ← hLS, ← hSS] at hR
 simp only at hR
 have fI : ∀ {u v : Int}, F .eqI u v = true ↔ u = v := fun {u v} => (eqI_iff hF).1
 refine AKt.node (fun t => ?_) (fun t => ?_)
 · rw [fI] at t
   rw [if_pos t] at hR
   simp only [Prod.mk.injEq] at hR
   obtain ⟨rfl, rfl⟩ := hR
   repeat' (first|with_reducible (first|refine qAh ?_|refine qAt ?_|refine qAf ?_|refine qAy (by assumption) ?_|refine qAn (by assumption) ?_|refine qAd (fun hb => ?_) (fun hb => ?_)|refine qAe ?_ (fun hb => ?_)|refine qAl ?_)|((with_reducible show _=true); assumption))
   refine AKp.doneE tabOK hfr (by rfl) ?_
   show _ = _
   simp only [tupAV]
 rw [(eqI_iff hF).2] at t
 rw [if_neg t] at hR
 refine AKt.node (fun t => ?_) (fun t => ?_)
 · rw [fI] at t
   rw [if_pos t] at hR
   simp only [Prod.mk.injEq] at hR
   obtain ⟨rfl, rfl⟩ := hR
   repeat' (first|with_reducible (first|refine qAh ?_|refine qAt ?_|refine qAf ?_|refine qAy (by assumption) ?_|refine qAn (by assumption) ?_|refine qAd (fun hb => ?_) (fun hb => ?_)|refine qAe ?_ (fun hb => ?_)|refine qAl ?_)|((with_reducible show _=true); assumption))
   refine AKp.doneE tabOK hfr (by rfl) ?_
   show _ = _
   simp only [tupAV]
 rw [(eqI_iff hF).2] at t
 rw [if_neg t] at hR
 refine AKt.node (fun t => ?_) (fun t => ?_)
 · rw [fI] at t
   rw [if_pos t] at hR
   simp only [Prod.mk.injEq] at hR
   obtain ⟨rfl, rfl⟩ := hR
   repeat' (first|with_reducible (first|refine qAh ?_|refine qAt ?_|refine qAf ?_|refine qAy (by assumption) ?_|refine qAn (by assumption) ?_|refine qAd (fun hb => ?_) (fun hb => ?_)|refine qAe ?_ (fun hb => ?_)|refine qAl ?_)|((with_reducible show _=true); assumption))
   refine AKp.doneE tabOK hfr (by rfl) ?_
   show _ = _
   simp only [tupAV]
 rw [(eqI_iff hF).2] at t
 rw [if_neg t] at hR
 repeat' (first|with_reducible (first|refine qAh ?_|refine qAt ?_|refine qAf ?_|refine qAy (by assumption) ?_|refine qAn (by assumption) ?_|refine qAd (fun hb => ?_) (fun hb => ?_)|refine qAe ?_ (fun hb => ?_)|refine qAl ?_)|((with_reducible show _=true); assumption))
 have fS : ∀ {u v : Wd}, F .eqS u v = true ↔ u = v := fun {u v} => (eqS_iff hF).1
 have fI0 : ∀ {u v : Int}, F .eqI u v = false ↔ ¬ u = v := fun {u v} => (eqI_iff hF).2
 have fS0 : ∀ {u v : Wd}, F .eqS u v = false ↔ ¬ u = v := fun {u v} => (eqS_iff hF).2
 have fN : ∀ {u : Bool}, F .not u = true ↔ u = false := fun {u} => (not_iff hF).1
 have fN0 : ∀ {u : Bool}, F .not u = false ↔ u = true := fun {u} => (not_iff hF).2
 have k0 : F .inB 0 2 = some 0 := by rw [hF]; rfl
 have k1 : F .inB 1 2 = some 1 := by rw [hF]; rfl
 have hcat : ∀ u v : Wd, u.length ≤ 100 → v.length ≤ 100 → F .hasCat u v = true := fun u v h1 h2 => t_hasCat hF (by omega)
 refine AKp.enterLoop 7 ?_
 conv => arg 7; cbv
 refine AKl.invT hF tabOK hmix hnt hfr true _ hG (fun n vs hs => ∃ (i : Nat) (iv : Int) (p0 p1 : Bool), i + n = LS.length ∧ iv = i ∧ p0 = haveL wEx (LS.take i) ∧ p1 = haveL wCa (LS.take i) ∧ (rn, rw_) = rchL LS SS (LS.drop i) ∧ vs = [(6, .d (.s (.int .i64 iv)))] ∧ hs = [(1, .cs 58 [.d (.s (.bool p0)), .d (.s (.bool p1))]), (2, .cs 58 [.d (.s (.bool false)), .d (.s (.bool false))]), (0, .cs 25 [.d (.s (.int .i64 a)), .d (.s (.int .i64 b)), .d (.s (.int .i64 c)), .d (.s (.int .i64 d)), .d (.view 10 ls), .d (.view 5 ss)])]) LS.length ⟨0, _, _, _, by omega, rfl, rfl, rfl, hR, rfl, rfl⟩ (by repeat (first | exact True.intro | refine ⟨⟨rfl, rfl⟩, ?_⟩)) (by repeat (first | exact True.intro | refine ⟨⟨rfl, rfl, rfl⟩, ?_⟩)) ?_
 rintro J n vs hs hJ ⟨i, iv, p0, p1, hi, hiv, hp0, hp1, hr, rfl, rfl⟩
 conv => arg 4; cbv
 refine AKt.node (fun hbb => ?_) (fun hbb => ?_)
 · have hlt : i < LS.length := by rw [hF, f_ltI, f_lenD, hll, hiv] at hbb; have := of_decide_eq_true hbb; omega
   obtain ⟨x, hx⟩ : ∃ x, LS[i]? = some x := ⟨_, List.getElem?_eq_getElem hlt⟩
   have hd : ls[i]? = some x.dat := by rw [el]; exact lvDs_get hx
   have hlen : LS.length ≤ 1000 := by rw [← hLS] at z6; omega
   have hx_ : F .hasD ls iv [.str, .int .i64, .int .i64, .int .i64, .int .i64, .int .i64, .int .i64, .int .i64, .int .i64, .int .i64] = true := t_hasD hF hd hiv rfl
   obtain ⟨x0, hx0⟩ : ∃ z, z = x.nm := ⟨_, rfl⟩
   try rw [show F .strA ls iv 0 = x0 by rw [hx0]; exact t_strA hF hd hiv rfl]
   obtain ⟨x1, hx1⟩ : ∃ z, z = x.kd := ⟨_, rfl⟩
   try rw [show F .intA ls iv 1 = x1 by rw [hx1]; exact t_intA hF hd hiv rfl]
   obtain ⟨x2, hx2⟩ : ∃ z, z = x.sh := ⟨_, rfl⟩
   try rw [show F .intA ls iv 2 = x2 by rw [hx2]; exact t_intA hF hd hiv rfl]
   obtain ⟨x3, hx3⟩ : ∃ z, z = x.ld := ⟨_, rfl⟩
   try rw [show F .intA ls iv 3 = x3 by rw [hx3]; exact t_intA hF hd hiv rfl]
   obtain ⟨x4, hx4⟩ : ∃ z, z = x.bo := ⟨_, rfl⟩
   try rw [show F .intA ls iv 4 = x4 by rw [hx4]; exact t_intA hF hd hiv rfl]
   obtain ⟨x5, hx5⟩ : ∃ z, z = x.qu := ⟨_, rfl⟩
   try rw [show F .intA ls iv 5 = x5 by rw [hx5]; exact t_intA hF hd hiv rfl]
   obtain ⟨x6, hx6⟩ : ∃ z, z = x.ha := ⟨_, rfl⟩
   try rw [show F .intA ls iv 6 = x6 by rw [hx6]; exact t_intA hF hd hiv rfl]
   obtain ⟨x7, hx7⟩ : ∃ z, z = x.le := ⟨_, rfl⟩
   try rw [show F .intA ls iv 7 = x7 by rw [hx7]; exact t_intA hF hd hiv rfl]
   obtain ⟨x8, hx8⟩ : ∃ z, z = x.wa := ⟨_, rfl⟩
   try rw [show F .intA ls iv 8 = x8 by rw [hx8]; exact t_intA hF hd hiv rfl]
   obtain ⟨x9, hx9⟩ : ∃ z, z = x.gu := ⟨_, rfl⟩
   try rw [show F .intA ls iv 9 = x9 by rw [hx9]; exact t_intA hF hd hiv rfl]
   rw [rchL_drop hx] at hr
   have hnm : x0.length ≤ 32 := by
     have := allL_ok z8 x (by rw [← hLS]; exact List.mem_of_getElem? hx)
     simp only [levOK, Bool.and_eq_true] at this
     rw [hx0]
     exact small_name this.1
   obtain ⟨ev, hev⟩ : ∃ z, z = uRHands1 x5 x6 := ⟨_, rfl⟩
   have hev2 : ev = handsE x.qu x.ha := by rw [hev, huRHands1, hx5, hx6]
   have hp0n := haveL_succ (w := wEx) hx
   have hp1n := haveL_succ (w := wCa) hx
   rw [← hp0] at hp0n
   rw [← hp1] at hp1n
   have hq1 := hcat wLevel x0 (by decide) (by omega)
   have hlv : rlvE x = rlvF x0 x1 x2 x5 x6 := by rw [hx0, hx1, hx2, hx5, hx6]; rfl
   rw [← hx0] at hp0n hp1n
   rw [hlv, ← hx0] at hr
   rw [← hev]
   rw [← hx5, ← hx6] at hev2
   refine AKt.need hx_ fun _ => ?_
   rw [k0]
   conv => arg 4; cbv
   rw [k1]
   conv => arg 4; cbv
   have hcase : (x1 = 3 ∧ ev ≠ 0) ∨ (¬ (x1 = 3 ∧ ev ≠ 0)) := Classical.em _
   rcases hcase with ⟨k3, k4⟩ | hno
   · have a1 := fI.2 k3
     have a2 := fN.2 (fI0.2 k4)
     have e : rlvF x0 x1 x2 x5 x6 = ev := by unfold rlvF; rw [← hev2, if_pos ⟨k3, k4⟩]
     rw [e, if_pos k4] at hr
     simp only [Prod.mk.injEq] at hr
     obtain ⟨rfl, rfl⟩ := hr
     refine AKt.yes a1 (AKt.need rfl fun _ => AKt.yes a2 (AKt.need hq1 fun _ => ?_))
     repeat' (first|with_reducible (first|refine qAh ?_|refine qAt ?_|refine qAf ?_|refine qAy (by assumption) ?_|refine qAn (by assumption) ?_|refine qAd (fun hb => ?_) (fun hb => ?_)|refine qAe ?_ (fun hb => ?_)|refine qAl ?_)|((with_reducible show _=true); assumption))
     refine AKp.doneE tabOK hfr (by rfl) ?_
     show _ = _
     simp only [tupAV]
     rw [t_app hF]
     rfl
   have hsk : (x1 = 3 ∧ ev = 0) ∨ ¬ x1 = 3 := by
     by_cases g : x1 = 3
     · exact .inl ⟨g, Classical.byContradiction fun h => hno ⟨g, h⟩⟩
     · exact .inr g
   have e0 : rlvF x0 x1 x2 x5 x6 = if x0 = wEx ∧ x1 ≠ 1 then 11 else if x0 = wCa ∧ (x1 = 1 ∨ x2 = 0) then 11 else 0 := by unfold rlvF; rw [← hev2, if_neg hno]
   have hne : wEx ≠ wCa := by decide
   have hsplit : (F .eqI x1 3 = true ∧ F .not (F .eqI ev 0) = false) ∨ F .eqI x1 3 = false := hsk.elim (fun h => .inl ⟨fI.2 h.1, fN0.2 (fI.2 h.2)⟩) (fun h => .inr (fI0.2 h))
   by_cases q1 : x0 = wEx
   · have b1 : F .eqS x0 [101,120,101,109,112,116] = true := fS.2 q1
     have b1' : F .eqS x0 [99,97,116,99,104,45,97,108,108] = false := fS0.2 (fun h => hne (q1.symm.trans h))
     have q1' : ¬ x0 = wCa := fun h => hne (q1.symm.trans h)
     by_cases q2 : x1 = 1
     · have b2 : F .not (F .eqI x1 1) = false := fN0.2 (fI.2 q2)
       have ee : rlvF x0 x1 x2 x5 x6 = 0 := by rw [e0, if_neg (fun h => h.2 q2), if_neg (fun h => q1' h.1)]
       rw [ee, if_neg (fun h => h rfl)] at hr
       rw [decide_eq_true q1, Bool.or_true] at hp0n
       rw [decide_eq_false q1', Bool.or_false] at hp1n
       rcases hsplit with ⟨s1, s2⟩ | s1
       · refine AKt.yes s1 (AKt.need rfl fun _ => ?_)
         repeat' (first|with_reducible (first|refine qAh ?_|refine qAt ?_|refine qAf ?_|refine qAy (by assumption) ?_|refine qAn (by assumption) ?_|refine qAd (fun hb => ?_) (fun hb => ?_)|refine qAe ?_ (fun hb => ?_)|refine qAl ?_)|((with_reducible show _=true); assumption))
         refine AKp.again _ hfr (by repeat (first | exact True.intro | refine ⟨⟨rfl, rfl⟩, ?_⟩)) (by repeat (first | exact True.intro | refine ⟨⟨rfl, rfl, rfl⟩, ?_⟩)) (hJ (n - 1) _ _ (by omega) ⟨i + 1, _, _, _, by omega, inc_i hF hiv (by omega), hp0n.symm, hp1n.symm, hr, rfl, rfl⟩)
       · repeat' (first|with_reducible (first|refine qAh ?_|refine qAt ?_|refine qAf ?_|refine qAy (by assumption) ?_|refine qAn (by assumption) ?_|refine qAd (fun hb => ?_) (fun hb => ?_)|refine qAe ?_ (fun hb => ?_)|refine qAl ?_)|((with_reducible show _=true); assumption))
         refine AKp.again _ hfr (by repeat (first | exact True.intro | refine ⟨⟨rfl, rfl⟩, ?_⟩)) (by repeat (first | exact True.intro | refine ⟨⟨rfl, rfl, rfl⟩, ?_⟩)) (hJ (n - 1) _ _ (by omega) ⟨i + 1, _, _, _, by omega, inc_i hF hiv (by omega), hp0n.symm, hp1n.symm, hr, rfl, rfl⟩)
     · have b2 : F .not (F .eqI x1 1) = true := fN.2 (fI0.2 q2)
       have ee : rlvF x0 x1 x2 x5 x6 = 11 := by rw [e0, if_pos ⟨q1, q2⟩]
       rw [ee, if_pos (by decide)] at hr
       simp only [Prod.mk.injEq] at hr
       obtain ⟨rfl, rfl⟩ := hr
       rcases hsplit with ⟨s1, s2⟩ | s1
       · refine AKt.yes s1 (AKt.need rfl fun _ => ?_)
         repeat' (first|with_reducible (first|refine qAh ?_|refine qAt ?_|refine qAf ?_|refine qAy (by assumption) ?_|refine qAn (by assumption) ?_|refine qAd (fun hb => ?_) (fun hb => ?_)|refine qAe ?_ (fun hb => ?_)|refine qAl ?_)|((with_reducible show _=true); assumption))
         refine AKp.doneE tabOK hfr (by rfl) ?_
         show _ = _
         simp only [tupAV]
         rw [q1]
         rfl
       · repeat' (first|with_reducible (first|refine qAh ?_|refine qAt ?_|refine qAf ?_|refine qAy (by assumption) ?_|refine qAn (by assumption) ?_|refine qAd (fun hb => ?_) (fun hb => ?_)|refine qAe ?_ (fun hb => ?_)|refine qAl ?_)|((with_reducible show _=true); assumption))
         refine AKp.doneE tabOK hfr (by rfl) ?_
         show _ = _
         simp only [tupAV]
         rw [q1]
         rfl
   · have b1 : F .eqS x0 [101,120,101,109,112,116] = false := fS0.2 q1
     rw [if_neg (fun h => q1 h.1)] at e0
     rw [decide_eq_false q1, Bool.or_false] at hp0n
     by_cases q3 : x0 = wCa
     · have b3 : F .eqS x0 [99,97,116,99,104,45,97,108,108] = true := fS.2 q3
       rw [decide_eq_true q3, Bool.or_true] at hp1n
       by_cases q4 : x1 = 1 ∨ x2 = 0
       · rw [if_pos ⟨q3, q4⟩] at e0
         rw [e0, if_pos (by decide)] at hr
         simp only [Prod.mk.injEq] at hr
         obtain ⟨rfl, rfl⟩ := hr
         have b4 : F .eqI x1 1 = true ∨ (F .eqI x1 1 = false ∧ F .eqI x2 0 = true) := by
           by_cases g : x1 = 1
           · exact .inl (fI.2 g)
           · exact .inr ⟨fI0.2 g, fI.2 (q4.resolve_left g)⟩
         rcases b4 with b4 | ⟨b4, b5⟩ <;> rcases hsplit with ⟨s1, s2⟩ | s1
         · refine AKt.yes s1 (AKt.need rfl fun _ => ?_)
           repeat' (first|with_reducible (first|refine qAh ?_|refine qAt ?_|refine qAf ?_|refine qAy (by assumption) ?_|refine qAn (by assumption) ?_|refine qAd (fun hb => ?_) (fun hb => ?_)|refine qAe ?_ (fun hb => ?_)|refine qAl ?_)|((with_reducible show _=true); assumption))
           refine AKp.doneE tabOK hfr (by rfl) ?_
           show _ = _
           simp only [tupAV]
           rw [q3]
           rfl
         · repeat' (first|with_reducible (first|refine qAh ?_|refine qAt ?_|refine qAf ?_|refine qAy (by assumption) ?_|refine qAn (by assumption) ?_|refine qAd (fun hb => ?_) (fun hb => ?_)|refine qAe ?_ (fun hb => ?_)|refine qAl ?_)|((with_reducible show _=true); assumption))
           refine AKp.doneE tabOK hfr (by rfl) ?_
           show _ = _
           simp only [tupAV]
           rw [q3]
           rfl
         · refine AKt.yes s1 (AKt.need rfl fun _ => ?_)
           repeat' (first|with_reducible (first|refine qAh ?_|refine qAt ?_|refine qAf ?_|refine qAy (by assumption) ?_|refine qAn (by assumption) ?_|refine qAd (fun hb => ?_) (fun hb => ?_)|refine qAe ?_ (fun hb => ?_)|refine qAl ?_)|((with_reducible show _=true); assumption))
           refine AKp.doneE tabOK hfr (by rfl) ?_
           show _ = _
           simp only [tupAV]
           rw [q3]
           rfl
         · repeat' (first|with_reducible (first|refine qAh ?_|refine qAt ?_|refine qAf ?_|refine qAy (by assumption) ?_|refine qAn (by assumption) ?_|refine qAd (fun hb => ?_) (fun hb => ?_)|refine qAe ?_ (fun hb => ?_)|refine qAl ?_)|((with_reducible show _=true); assumption))
           refine AKp.doneE tabOK hfr (by rfl) ?_
           show _ = _
           simp only [tupAV]
           rw [q3]
           rfl
       · rw [if_neg (fun h => q4 h.2)] at e0
         rw [e0, if_neg (fun h => h rfl)] at hr
         have b4 : F .eqI x1 1 = false := fI0.2 fun h => q4 (.inl h)
         have b5 : F .eqI x2 0 = false := fI0.2 fun h => q4 (.inr h)
         rcases hsplit with ⟨s1, s2⟩ | s1
         · refine AKt.yes s1 (AKt.need rfl fun _ => ?_)
           repeat' (first|with_reducible (first|refine qAh ?_|refine qAt ?_|refine qAf ?_|refine qAy (by assumption) ?_|refine qAn (by assumption) ?_|refine qAd (fun hb => ?_) (fun hb => ?_)|refine qAe ?_ (fun hb => ?_)|refine qAl ?_)|((with_reducible show _=true); assumption))
           refine AKp.again _ hfr (by repeat (first | exact True.intro | refine ⟨⟨rfl, rfl⟩, ?_⟩)) (by repeat (first | exact True.intro | refine ⟨⟨rfl, rfl, rfl⟩, ?_⟩)) (hJ (n - 1) _ _ (by omega) ⟨i + 1, _, _, _, by omega, inc_i hF hiv (by omega), hp0n.symm, hp1n.symm, hr, rfl, rfl⟩)
         · repeat' (first|with_reducible (first|refine qAh ?_|refine qAt ?_|refine qAf ?_|refine qAy (by assumption) ?_|refine qAn (by assumption) ?_|refine qAd (fun hb => ?_) (fun hb => ?_)|refine qAe ?_ (fun hb => ?_)|refine qAl ?_)|((with_reducible show _=true); assumption))
           refine AKp.again _ hfr (by repeat (first | exact True.intro | refine ⟨⟨rfl, rfl⟩, ?_⟩)) (by repeat (first | exact True.intro | refine ⟨⟨rfl, rfl, rfl⟩, ?_⟩)) (hJ (n - 1) _ _ (by omega) ⟨i + 1, _, _, _, by omega, inc_i hF hiv (by omega), hp0n.symm, hp1n.symm, hr, rfl, rfl⟩)
     · have b3 : F .eqS x0 [99,97,116,99,104,45,97,108,108] = false := fS0.2 q3
       rw [if_neg (fun h => q3 h.1)] at e0
       rw [e0, if_neg (fun h => h rfl)] at hr
       rw [decide_eq_false q3, Bool.or_false] at hp1n
       rcases hsplit with ⟨s1, s2⟩ | s1
       · refine AKt.yes s1 (AKt.need rfl fun _ => ?_)
         repeat' (first|with_reducible (first|refine qAh ?_|refine qAt ?_|refine qAf ?_|refine qAy (by assumption) ?_|refine qAn (by assumption) ?_|refine qAd (fun hb => ?_) (fun hb => ?_)|refine qAe ?_ (fun hb => ?_)|refine qAl ?_)|((with_reducible show _=true); assumption))
         refine AKp.again _ hfr (by repeat (first | exact True.intro | refine ⟨⟨rfl, rfl⟩, ?_⟩)) (by repeat (first | exact True.intro | refine ⟨⟨rfl, rfl, rfl⟩, ?_⟩)) (hJ (n - 1) _ _ (by omega) ⟨i + 1, _, _, _, by omega, inc_i hF hiv (by omega), hp0n.symm, hp1n.symm, hr, rfl, rfl⟩)
       · repeat' (first|with_reducible (first|refine qAh ?_|refine qAt ?_|refine qAf ?_|refine qAy (by assumption) ?_|refine qAn (by assumption) ?_|refine qAd (fun hb => ?_) (fun hb => ?_)|refine qAe ?_ (fun hb => ?_)|refine qAl ?_)|((with_reducible show _=true); assumption))
         refine AKp.again _ hfr (by repeat (first | exact True.intro | refine ⟨⟨rfl, rfl⟩, ?_⟩)) (by repeat (first | exact True.intro | refine ⟨⟨rfl, rfl, rfl⟩, ?_⟩)) (hJ (n - 1) _ _ (by omega) ⟨i + 1, _, _, _, by omega, inc_i hF hiv (by omega), hp0n.symm, hp1n.symm, hr, rfl, rfl⟩)
 have hge : ¬ i < LS.length := by rw [hF, f_ltI, f_lenD, hll, hiv] at hbb; have := of_decide_eq_false hbb; omega
 rw [List.drop_eq_nil_of_le (by omega), rchL] at hr
 rw [List.take_of_length_le (by omega)] at hp0 hp1
 clear hJ hbb
 obtain ⟨iw, hiw⟩ : ∃ z, z = iv := ⟨_, rfl⟩
 rw [← hiw]
 clear hiw
 repeat' (first|with_reducible (first|refine qAh ?_|refine qAt ?_|refine qAf ?_|refine qAy (by assumption) ?_|refine qAn (by assumption) ?_|refine qAd (fun hb => ?_) (fun hb => ?_)|refine qAe ?_ (fun hb => ?_)|refine qAl ?_)|((with_reducible show _=true); assumption))
 refine AKp.enterLoop 11 ?_
 conv => arg 7; cbv
 refine AKl.invTs hF tabOK hmix hnt (Nat.le_trans (Nat.le_of_eq hfr) (Nat.le_of_ble_eq_true rfl)) [32] true _ hG (fun n vs hs => ∃ (i : Nat) (iv : Int) (g0 g1 : Bool), i + n = SS.length ∧ iv = i ∧ g0 = haveS wEx (SS.take i) ∧ g1 = haveS wCa (SS.take i) ∧ (rn, rw_) = rchS LS SS (SS.drop i) ∧ vs = [(10, .d (.s (.int .i64 iv)))] ∧ hs = [(1, .cs 58 [.d (.s (.bool p0)), .d (.s (.bool p1))]), (2, .cs 58 [.d (.s (.bool g0)), .d (.s (.bool g1))]), (0, .cs 25 [.d (.s (.int .i64 a)), .d (.s (.int .i64 b)), .d (.s (.int .i64 c)), .d (.s (.int .i64 d)), .d (.view 10 ls), .d (.view 5 ss)])]) SS.length ⟨0, _, _, _, by omega, rfl, rfl, rfl, hr, rfl, rfl⟩ (by repeat (first | exact True.intro | refine ⟨⟨rfl, rfl⟩, ?_⟩)) (by repeat (first | exact True.intro | refine ⟨⟨rfl, rfl, rfl⟩, ?_⟩)) ?_
 clear hi hiv
 rintro J n vs hs hJ ⟨i, iv, g0, g1, hi, hiv, hg0, hg1, hr, rfl, rfl⟩
 conv => arg 4; cbv
 refine AKt.node (fun hbb => ?_) (fun hbb => ?_)
 · have hlt : i < SS.length := by rw [hF, f_ltI, f_lenD, hsl, hiv] at hbb; have := of_decide_eq_true hbb; omega
   obtain ⟨y, hy⟩ : ∃ y, SS[i]? = some y := ⟨_, List.getElem?_eq_getElem hlt⟩
   have hdy : ss[i]? = some y.dat := by rw [es]; exact smDs_get hy
   have hlen : SS.length ≤ 1000 := by rw [← hSS] at z7; omega
   have hlenL : LS.length ≤ 1000 := by rw [← hLS] at z6; omega
   have hy_ : F .hasD ss iv [.str, .str, .int .i64, .int .i64, .view 5] = true := t_hasD hF hdy hiv rfl
   obtain ⟨y0, hy0⟩ : ∃ z, z = y.nm := ⟨_, rfl⟩
   try rw [show F .strA ss iv 0 = y0 by rw [hy0]; exact t_strA hF hdy hiv rfl]
   obtain ⟨y1, hy1⟩ : ∃ z, z = y.lv := ⟨_, rfl⟩
   try rw [show F .strA ss iv 1 = y1 by rw [hy1]; exact t_strA hF hdy hiv rfl]
   obtain ⟨y2, hy2⟩ : ∃ z, z = y.rk := ⟨_, rfl⟩
   try rw [show F .intA ss iv 2 = y2 by rw [hy2]; exact t_intA hF hdy hiv rfl]
   obtain ⟨y3, hy3⟩ : ∃ z, z = y.bb := ⟨_, rfl⟩
   try rw [show F .intA ss iv 3 = y3 by rw [hy3]; exact t_intA hF hdy hiv rfl]
   obtain ⟨y4, hy4⟩ : ∃ z, z = rlDs y.rl := ⟨_, rfl⟩
   try rw [show F .viewA ss iv 4 = y4 by rw [hy4]; exact t_viewA hF hdy hiv rfl]
   rw [rchS_drop hy] at hr
   have hok2 := allM_ok z9 y (by rw [← hSS]; exact List.mem_of_getElem? hy)
   simp only [smOK, Bool.and_eq_true] at hok2
   have hnm : y0.length ≤ 32 := by rw [hy0]; exact small_name hok2.1
   have hq0n := haveS_succ (w := wEx) hy
   have hq1n := haveS_succ (w := wCa) hy
   rw [← hg0, ← hy0] at hq0n
   rw [← hg1, ← hy0] at hq1n
   have hqc := hcat wSchema y0 (by decide) (by omega)
   have hsm : rsmE y LS = rsmF y0 y1 y2 (y.rl.any allR) (haveL y1 LS) := by rw [hy0, hy1, hy2]; rfl
   rw [hsm, ← hy0] at hr
   refine AKt.need hy_ fun _ => ?_
   repeat' (first|with_reducible (first|refine qAh ?_|refine qAt ?_|refine qAf ?_|refine qAy (by assumption) ?_|refine qAn (by assumption) ?_|refine qAd (fun hb => ?_) (fun hb => ?_)|refine qAe ?_ (fun hb => ?_)|refine qAl ?_)|((with_reducible show _=true); assumption))
   refine AKp.enterLoop 14 ?_
   conv => arg 7; cbv
   refine AKl.invTs hF tabOK hmix hnt (Nat.le_trans (Nat.le_of_eq hfr) (Nat.le_of_ble_eq_true rfl)) [41] true _ hG (fun n vs hs => ∃ (k : Nat) (kv : Int) (tb : Bool), k + n = LS.length ∧ kv = k ∧ tb = haveL y1 (LS.take k) ∧ vs = [(13, .d (.s (.int .i64 kv))), (12, .d (.s (.bool tb)))] ∧ hs = [(3, .cs 43 [.d (.s (.str y0)), .d (.s (.str y1)), .d (.s (.int .i64 y2)), .d (.s (.int .i64 y3)), .d (.view 5 y4)]), (1, .cs 58 [.d (.s (.bool p0)), .d (.s (.bool p1))]), (2, .cs 58 [.d (.s (.bool g0)), .d (.s (.bool g1))]), (0, .cs 25 [.d (.s (.int .i64 a)), .d (.s (.int .i64 b)), .d (.s (.int .i64 c)), .d (.s (.int .i64 d)), .d (.view 10 ls), .d (.view 5 ss)])]) LS.length ⟨0, _, _, by omega, rfl, rfl, rfl, rfl⟩ (by repeat (first | exact True.intro | refine ⟨⟨rfl, rfl⟩, ?_⟩)) (by repeat (first | exact True.intro | refine ⟨⟨rfl, rfl, rfl⟩, ?_⟩)) ?_
   rintro J2 n2 vs hs hJ2 ⟨k, kv, tb, hk, hkv, htb, rfl, rfl⟩
   conv => arg 4; cbv
   refine AKt.node (fun hb2 => ?_) (fun hb2 => ?_)
   · have hlt2 : k < LS.length := by rw [hF, f_ltI, f_lenD, hll, hkv] at hb2; have := of_decide_eq_true hb2; omega
     obtain ⟨x, hx⟩ : ∃ x, LS[k]? = some x := ⟨_, List.getElem?_eq_getElem hlt2⟩
     have hd : ls[k]? = some x.dat := by rw [el]; exact lvDs_get hx
     have hx_ : F .hasD ls kv [.str, .int .i64, .int .i64, .int .i64, .int .i64, .int .i64, .int .i64, .int .i64, .int .i64, .int .i64] = true := t_hasD hF hd hkv rfl
     obtain ⟨x0, hx0⟩ : ∃ z, z = x.nm := ⟨_, rfl⟩
     try rw [show F .strA ls kv 0 = x0 by rw [hx0]; exact t_strA hF hd hkv rfl]
     obtain ⟨x1, hx1⟩ : ∃ z, z = x.kd := ⟨_, rfl⟩
     try rw [show F .intA ls kv 1 = x1 by rw [hx1]; exact t_intA hF hd hkv rfl]
     obtain ⟨x2, hx2⟩ : ∃ z, z = x.sh := ⟨_, rfl⟩
     try rw [show F .intA ls kv 2 = x2 by rw [hx2]; exact t_intA hF hd hkv rfl]
     obtain ⟨x3, hx3⟩ : ∃ z, z = x.ld := ⟨_, rfl⟩
     try rw [show F .intA ls kv 3 = x3 by rw [hx3]; exact t_intA hF hd hkv rfl]
     obtain ⟨x4, hx4⟩ : ∃ z, z = x.bo := ⟨_, rfl⟩
     try rw [show F .intA ls kv 4 = x4 by rw [hx4]; exact t_intA hF hd hkv rfl]
     obtain ⟨x5, hx5⟩ : ∃ z, z = x.qu := ⟨_, rfl⟩
     try rw [show F .intA ls kv 5 = x5 by rw [hx5]; exact t_intA hF hd hkv rfl]
     obtain ⟨x6, hx6⟩ : ∃ z, z = x.ha := ⟨_, rfl⟩
     try rw [show F .intA ls kv 6 = x6 by rw [hx6]; exact t_intA hF hd hkv rfl]
     obtain ⟨x7, hx7⟩ : ∃ z, z = x.le := ⟨_, rfl⟩
     try rw [show F .intA ls kv 7 = x7 by rw [hx7]; exact t_intA hF hd hkv rfl]
     obtain ⟨x8, hx8⟩ : ∃ z, z = x.wa := ⟨_, rfl⟩
     try rw [show F .intA ls kv 8 = x8 by rw [hx8]; exact t_intA hF hd hkv rfl]
     obtain ⟨x9, hx9⟩ : ∃ z, z = x.gu := ⟨_, rfl⟩
     try rw [show F .intA ls kv 9 = x9 by rw [hx9]; exact t_intA hF hd hkv rfl]
     have htn := haveL_succ (w := y1) hx
     rw [← htb, ← hx0] at htn
     refine AKt.node (fun ht => ?_) (fun ht => ?_)
     · rw [ht, Bool.true_or] at htn
       repeat' (first|with_reducible (first|refine qAh ?_|refine qAt ?_|refine qAf ?_|refine qAy (by assumption) ?_|refine qAn (by assumption) ?_|refine qAd (fun hb => ?_) (fun hb => ?_)|refine qAe ?_ (fun hb => ?_)|refine qAl ?_)|((with_reducible show _=true); assumption))
       refine AKp.again _ hfr (by repeat (first | exact True.intro | refine ⟨⟨rfl, rfl⟩, ?_⟩)) (by repeat (first | exact True.intro | refine ⟨⟨rfl, rfl, rfl⟩, ?_⟩)) (hJ2 (n2 - 1) _ _ (by omega) ⟨k + 1, _, _, by omega, inc_i hF hkv (by omega), htn.symm, rfl, rfl⟩)
     · rw [ht, Bool.false_or] at htn
       have e9 : F .eqS x0 y1 = decide (x0 = y1) := by
         rw [Bool.eq_iff_iff, fS]
         simp
       rw [e9]
       repeat' (first|with_reducible (first|refine qAh ?_|refine qAt ?_|refine qAf ?_|refine qAy (by assumption) ?_|refine qAn (by assumption) ?_|refine qAd (fun hb => ?_) (fun hb => ?_)|refine qAe ?_ (fun hb => ?_)|refine qAl ?_)|((with_reducible show _=true); assumption))
       refine AKp.again _ hfr (by repeat (first | exact True.intro | refine ⟨⟨rfl, rfl⟩, ?_⟩)) (by repeat (first | exact True.intro | refine ⟨⟨rfl, rfl, rfl⟩, ?_⟩)) (hJ2 (n2 - 1) _ _ (by omega) ⟨k + 1, _, _, by omega, inc_i hF hkv (by omega), htn.symm, rfl, rfl⟩)
   have hge2 : ¬ k < LS.length := by rw [hF, f_ltI, f_lenD, hll, hkv] at hb2; have := of_decide_eq_false hb2; omega
   rw [List.take_of_length_le (by omega)] at htb
   rw [← htb] at hr
   clear hJ2 hb2
   cases tb with
   | false =>
     have e6 : rsmF y0 y1 y2 (y.rl.any allR) false = 6 := by unfold rsmF; rw [if_pos rfl]
     rw [e6, if_pos (by decide)] at hr
     simp only [Prod.mk.injEq] at hr
     obtain ⟨rfl, rfl⟩ := hr
     conv => arg 4; cbv
     have n6 : F .not false = true := by rw [hF]; rfl
     refine AKt.yes n6 (AKt.need hqc fun _ => ?_)
     repeat' (first|with_reducible (first|refine qAh ?_|refine qAt ?_|refine qAf ?_|refine qAy (by assumption) ?_|refine qAn (by assumption) ?_|refine qAd (fun hb => ?_) (fun hb => ?_)|refine qAe ?_ (fun hb => ?_)|refine qAl ?_)|((with_reducible show _=true); assumption))
     refine AKp.doneE tabOK hfr (by rfl) ?_
     show _ = _
     simp only [tupAV]
     rw [t_app hF]
     rfl
   | true =>
   have n6 : F .not true = false := by rw [hF]; rfl
   have e7 : rsmF y0 y1 y2 (y.rl.any allR) true = if y0 = wEx ∧ (y1 ≠ wEx ∨ y2 ≠ 1) then 11 else if y0 = wCa ∧ (y1 ≠ wCa ∨ y2 ≠ 10000 ∨ y.rl.any allR = false) then 11 else 0 := by
     unfold rsmF
     rw [if_neg (fun h => by cases h)]
   have hne : wEx ≠ wCa := by decide
   refine exK ?K41 fun k41 hK41 => ?_
   rotate_left
   have rest41 : ∀ G0 : Bool, G0 = haveS wEx (SS.take (i + 1)) → ¬ (y0 = wEx ∧ (y1 ≠ wEx ∨ y2 ≠ 1)) → AK Tryz.prog cx (finE Tryz.prog Tryz.f9 cx fun x => x = .tup [.d (.s (.int .i64 rn)), .d (.s (.str rw_))]) k41 ⟨[(10, .d (.s (.int .i64 iv))), (11, .ptr 3 0 0 5), (5, .ptr 2 0 0 2), (4, .ptr 1 0 0 2), (1, .ptr 0 0 0 6), (6, .d (.s (.int .i64 iw))), (0, .d (.agg [.s (.int .i64 a), .s (.int .i64 b), .s (.int .i64 c), .s (.int .i64 d), .view 10 ls, .view 5 ss]))], [(3, .cs 43 [.d (.s (.str y0)), .d (.s (.str y1)), .d (.s (.int .i64 y2)), .d (.s (.int .i64 y3)), .d (.view 5 y4)]), (1, .cs 58 [.d (.s (.bool p0)), .d (.s (.bool p1))]), (2, .cs 58 [.d (.s (.bool G0)), .d (.s (.bool g1))]), (0, .cs 25 [.d (.s (.int .i64 a)), .d (.s (.int .i64 b)), .d (.s (.int .i64 c)), .d (.s (.int .i64 d)), .d (.view 10 ls), .d (.view 5 ss)])], 4⟩ := ?r41
   refine AKt.no n6 ?_
   rw [k0]
   conv => arg 4; cbv
   by_cases q1 : y0 = wEx
   · have b1 : F .eqS y0 [101,120,101,109,112,116] = true := fS.2 q1
     by_cases q2 : y1 ≠ wEx ∨ y2 ≠ 1
     · rw [if_pos ⟨q1, q2⟩] at e7
       rw [e7, if_pos (by decide)] at hr
       simp only [Prod.mk.injEq] at hr
       obtain ⟨rfl, rfl⟩ := hr
       by_cases q3 : y1 = wEx
       · have b2 : F .not (F .eqS y1 [101,120,101,109,112,116]) = false := fN0.2 (fS.2 q3)
         have b3 : F .not (F .eqI y2 1) = true := fN.2 (fI0.2 (q2.resolve_left (fun h => h q3)))
         repeat' (first|with_reducible (first|refine qAh ?_|refine qAt ?_|refine qAf ?_|refine qAy (by assumption) ?_|refine qAn (by assumption) ?_|refine qAd (fun hb => ?_) (fun hb => ?_)|refine qAe ?_ (fun hb => ?_)|refine qAl ?_)|((with_reducible show _=true); assumption))
         refine AKp.doneE tabOK hfr (by rfl) ?_
         show _ = _
         simp only [tupAV]
         rw [q1]
         rfl
       · have b2 : F .not (F .eqS y1 [101,120,101,109,112,116]) = true := fN.2 (fS0.2 q3)
         repeat' (first|with_reducible (first|refine qAh ?_|refine qAt ?_|refine qAf ?_|refine qAy (by assumption) ?_|refine qAn (by assumption) ?_|refine qAd (fun hb => ?_) (fun hb => ?_)|refine qAe ?_ (fun hb => ?_)|refine qAl ?_)|((with_reducible show _=true); assumption))
         refine AKp.doneE tabOK hfr (by rfl) ?_
         show _ = _
         simp only [tupAV]
         rw [q1]
         rfl
     · have g1e : y1 = wEx := Classical.byContradiction fun h => q2 (.inl h)
       have g2e : y2 = 1 := Classical.byContradiction fun h => q2 (.inr h)
       have b2 : F .not (F .eqS y1 [101,120,101,109,112,116]) = false := fN0.2 (fS.2 g1e)
       have b3 : F .not (F .eqI y2 1) = false := fN0.2 (fI.2 g2e)
       rw [decide_eq_true q1, Bool.or_true] at hq0n
       repeat' (first|with_reducible (first|refine qAh ?_|refine qAt ?_|refine qAf ?_|refine qAy (by assumption) ?_|refine qAn (by assumption) ?_|refine qAd (fun hb => ?_) (fun hb => ?_)|refine qAe ?_ (fun hb => ?_)|refine qAl ?_)|((with_reducible show _=true); assumption))
       refine AKp.join hK41 _ hfr ?_ ?_ (rest41 true hq0n.symm (fun h => q2 h.2))
       · repeat (first | exact True.intro | refine ⟨⟨rfl, rfl⟩, ?_⟩)
       · repeat (first | exact True.intro | refine ⟨⟨rfl, rfl, rfl⟩, ?_⟩)
   · have b1 : F .eqS y0 [101,120,101,109,112,116] = false := fS0.2 q1
     rw [decide_eq_false q1, Bool.or_false] at hq0n
     repeat' (first|with_reducible (first|refine qAh ?_|refine qAt ?_|refine qAf ?_|refine qAy (by assumption) ?_|refine qAn (by assumption) ?_|refine qAd (fun hb => ?_) (fun hb => ?_)|refine qAe ?_ (fun hb => ?_)|refine qAl ?_)|((with_reducible show _=true); assumption))
     refine AKp.join hK41 _ hfr ?_ ?_ (rest41 g0 hq0n.symm (fun h => q1 h.1))
     · repeat (first | exact True.intro | refine ⟨⟨rfl, rfl⟩, ?_⟩)
     · repeat (first | exact True.intro | refine ⟨⟨rfl, rfl, rfl⟩, ?_⟩)
   case' r41 =>
     intro G0 hG0 hno
     rw [hK41]
     rw [if_neg hno] at e7
     refine AK.runTs hF tabOK hmix hnt hfr [99] true _ hG ?_
     conv => arg 4; cbv
     rw [k1]
     conv => arg 4; cbv
     by_cases q3 : y0 = wCa
     · have b3 : F .eqS y0 [99,97,116,99,104,45,97,108,108] = true := fS.2 q3
       rw [decide_eq_true q3, Bool.or_true] at hq1n
       repeat' (first|with_reducible (first|refine qAh ?_|refine qAt ?_|refine qAf ?_|refine qAy (by assumption) ?_|refine qAn (by assumption) ?_|refine qAd (fun hb => ?_) (fun hb => ?_)|refine qAe ?_ (fun hb => ?_)|refine qAl ?_)|((with_reducible show _=true); assumption))
       have hrl : y4.length = y.rl.length := by rw [hy4, rlDs_len]
       have hrl8 : y.rl.length ≤ 8 := by simpa using hok2.2.2.2.2.1
       refine AKp.enterLoop 16 ?_
       conv => arg 7; cbv
       refine AKl.invT hF tabOK hmix hnt hfr true _ hG (fun n vs hs => ∃ (k : Nat) (kv : Int) (ab : Bool), k + n = y.rl.length ∧ kv = k ∧ ab = (y.rl.take k).any allR ∧ vs = [(15, .d (.s (.int .i64 kv))), (14, .d (.s (.bool ab)))] ∧ hs = [(3, .cs 43 [.d (.s (.str y0)), .d (.s (.str y1)), .d (.s (.int .i64 y2)), .d (.s (.int .i64 y3)), .d (.view 5 y4)]), (1, .cs 58 [.d (.s (.bool p0)), .d (.s (.bool p1))]), (2, .cs 58 [.d (.s (.bool G0)), .d (.s (.bool true))]), (0, .cs 25 [.d (.s (.int .i64 a)), .d (.s (.int .i64 b)), .d (.s (.int .i64 c)), .d (.s (.int .i64 d)), .d (.view 10 ls), .d (.view 5 ss)])]) y.rl.length ⟨0, _, _, by omega, rfl, rfl, rfl, rfl⟩ (by repeat (first | exact True.intro | refine ⟨⟨rfl, rfl⟩, ?_⟩)) (by repeat (first | exact True.intro | refine ⟨⟨rfl, rfl, rfl⟩, ?_⟩)) ?_
       rintro J3 n3 vs hs hJ3 ⟨k, kv, ab, hk, hkv, hab, rfl, rfl⟩
       conv => arg 4; cbv
       refine AKt.node (fun hb3 => ?_) (fun hb3 => ?_)
       · have hlt3 : k < y.rl.length := by rw [hF, f_ltI, f_lenD, hrl, hkv] at hb3; have := of_decide_eq_true hb3; omega
         obtain ⟨r, hrr⟩ : ∃ r, y.rl[k]? = some r := ⟨_, List.getElem?_eq_getElem hlt3⟩
         have hdr : y4[k]? = some r.dat := by rw [hy4]; exact rlDs_get hrr
         have hr_ : F .hasD y4 kv [.view 1, .view 1, .view 1, .view 1, .view 1] = true := t_hasD hF hdr hkv rfl
         obtain ⟨r0, hr0⟩ : ∃ z, z = strDs r.us := ⟨_, rfl⟩
         try rw [show F .viewA y4 kv 0 = r0 by rw [hr0]; exact t_viewA hF hdr hkv rfl]
         obtain ⟨r1, hr1⟩ : ∃ z, z = strDs r.gs := ⟨_, rfl⟩
         try rw [show F .viewA y4 kv 1 = r1 by rw [hr1]; exact t_viewA hF hdr hkv rfl]
         obtain ⟨r2, hr2⟩ : ∃ z, z = strDs r.vs := ⟨_, rfl⟩
         try rw [show F .viewA y4 kv 2 = r2 by rw [hr2]; exact t_viewA hF hdr hkv rfl]
         obtain ⟨r3, hr3⟩ : ∃ z, z = strDs r.rs := ⟨_, rfl⟩
         try rw [show F .viewA y4 kv 3 = r3 by rw [hr3]; exact t_viewA hF hdr hkv rfl]
         obtain ⟨r4, hr4⟩ : ∃ z, z = strDs r.ps := ⟨_, rfl⟩
         try rw [show F .viewA y4 kv 4 = r4 by rw [hr4]; exact t_viewA hF hdr hkv rfl]
         have htn : (y.rl.take (k + 1)).any allR = (ab || allR r) := by rw [List.take_add_one, hrr, List.any_append, hab]; simp
         have st : ∀ l : List Wd, uRStar (strDs l) = true ∧ uRStar1 (strDs l) = decide (l = star) := fun l => by rw [huRStar, huRStar1, isStar, isStrs_strDs, unStr_strDs]; exact ⟨rfl, rfl⟩
         have m0 : uRStar r0 = true := by rw [hr0]; exact (st _).1
         have m2 : uRStar r2 = true := by rw [hr2]; exact (st _).1
         have m3 : uRStar r3 = true := by rw [hr3]; exact (st _).1
         have m4 : uRStar r4 = true := by rw [hr4]; exact (st _).1
         have v0 : uRStar1 r0 = decide (r.us = star) := by rw [hr0]; exact (st _).2
         have v2 : uRStar1 r2 = decide (r.vs = star) := by rw [hr2]; exact (st _).2
         have v3 : uRStar1 r3 = decide (r.rs = star) := by rw [hr3]; exact (st _).2
         have v4 : uRStar1 r4 = decide (r.ps = star) := by rw [hr4]; exact (st _).2
         have hall : allR r = (uRStar1 r0 && (uRStar1 r2 && (uRStar1 r3 && uRStar1 r4))) := by rw [v0, v2, v3, v4]; rfl
         rw [hall] at htn
         refine AKt.need hr_ fun _ => ?_
         refine AKt.node (fun ht => ?_) (fun ht => ?_)
         · rw [ht, Bool.true_or] at htn
           repeat' (first|with_reducible (first|refine qAh ?_|refine qAt ?_|refine qAf ?_|refine qAy (by assumption) ?_|refine qAn (by assumption) ?_|refine qAd (fun hb => ?_) (fun hb => ?_)|refine qAe ?_ (fun hb => ?_)|refine qAl ?_)|((with_reducible show _=true); assumption))
           refine AKp.again _ hfr (by repeat (first | exact True.intro | refine ⟨⟨rfl, rfl⟩, ?_⟩)) (by repeat (first | exact True.intro | refine ⟨⟨rfl, rfl, rfl⟩, ?_⟩)) (hJ3 (n3 - 1) _ _ (by omega) ⟨k + 1, _, _, by omega, inc_i hF hkv (by omega), htn.symm, rfl, rfl⟩)
         rw [ht, Bool.false_or] at htn
         refine AKt.need m0 fun _ => ?_
         refine AKt.node (fun h0 => ?_) (fun h0 => ?_)
         rotate_left
         · rw [h0, Bool.false_and] at htn
           repeat' (first|with_reducible (first|refine qAh ?_|refine qAt ?_|refine qAf ?_|refine qAy (by assumption) ?_|refine qAn (by assumption) ?_|refine qAd (fun hb => ?_) (fun hb => ?_)|refine qAe ?_ (fun hb => ?_)|refine qAl ?_)|((with_reducible show _=true); assumption))
           refine AKp.again _ hfr (by repeat (first | exact True.intro | refine ⟨⟨rfl, rfl⟩, ?_⟩)) (by repeat (first | exact True.intro | refine ⟨⟨rfl, rfl, rfl⟩, ?_⟩)) (hJ3 (n3 - 1) _ _ (by omega) ⟨k + 1, _, _, by omega, inc_i hF hkv (by omega), htn.symm, rfl, rfl⟩)
         rw [h0, Bool.true_and] at htn
         refine AKt.need m2 fun _ => ?_
         refine AKt.node (fun h2 => ?_) (fun h2 => ?_)
         rotate_left
         · rw [h2, Bool.false_and] at htn
           repeat' (first|with_reducible (first|refine qAh ?_|refine qAt ?_|refine qAf ?_|refine qAy (by assumption) ?_|refine qAn (by assumption) ?_|refine qAd (fun hb => ?_) (fun hb => ?_)|refine qAe ?_ (fun hb => ?_)|refine qAl ?_)|((with_reducible show _=true); assumption))
           refine AKp.again _ hfr (by repeat (first | exact True.intro | refine ⟨⟨rfl, rfl⟩, ?_⟩)) (by repeat (first | exact True.intro | refine ⟨⟨rfl, rfl, rfl⟩, ?_⟩)) (hJ3 (n3 - 1) _ _ (by omega) ⟨k + 1, _, _, by omega, inc_i hF hkv (by omega), htn.symm, rfl, rfl⟩)
         rw [h2, Bool.true_and] at htn
         refine AKt.need m3 fun _ => ?_
         refine AKt.node (fun h3 => ?_) (fun h3 => ?_)
         rotate_left
         · rw [h3, Bool.false_and] at htn
           repeat' (first|with_reducible (first|refine qAh ?_|refine qAt ?_|refine qAf ?_|refine qAy (by assumption) ?_|refine qAn (by assumption) ?_|refine qAd (fun hb => ?_) (fun hb => ?_)|refine qAe ?_ (fun hb => ?_)|refine qAl ?_)|((with_reducible show _=true); assumption))
           refine AKp.again _ hfr (by repeat (first | exact True.intro | refine ⟨⟨rfl, rfl⟩, ?_⟩)) (by repeat (first | exact True.intro | refine ⟨⟨rfl, rfl, rfl⟩, ?_⟩)) (hJ3 (n3 - 1) _ _ (by omega) ⟨k + 1, _, _, by omega, inc_i hF hkv (by omega), htn.symm, rfl, rfl⟩)
         rw [h3, Bool.true_and] at htn
         repeat' (first|with_reducible (first|refine qAh ?_|refine qAt ?_|refine qAf ?_|refine qAy (by assumption) ?_|refine qAn (by assumption) ?_|refine qAd (fun hb => ?_) (fun hb => ?_)|refine qAe ?_ (fun hb => ?_)|refine qAl ?_)|((with_reducible show _=true); assumption))
         refine AKp.again _ hfr (by repeat (first | exact True.intro | refine ⟨⟨rfl, rfl⟩, ?_⟩)) (by repeat (first | exact True.intro | refine ⟨⟨rfl, rfl, rfl⟩, ?_⟩)) (hJ3 (n3 - 1) _ _ (by omega) ⟨k + 1, _, _, by omega, inc_i hF hkv (by omega), htn.symm, rfl, rfl⟩)
       have hge3 : ¬ k < y.rl.length := by rw [hF, f_ltI, f_lenD, hrl, hkv] at hb3; have := of_decide_eq_false hb3; omega
       rw [List.take_of_length_le (by omega)] at hab
       rw [← hab] at e7
       clear hJ3 hb3
       by_cases q4 : y1 ≠ wCa ∨ y2 ≠ 10000 ∨ ab = false
       · rw [if_pos ⟨q3, q4⟩] at e7
         rw [← hab, e7, if_pos (by decide)] at hr
         simp only [Prod.mk.injEq] at hr
         obtain ⟨rfl, rfl⟩ := hr
         have ret : (AV.tup [.d (.s (.int .i64 11)), .d (.s (.str [115,99,104,101,109,97,32,99,97,116,99,104,45,97,108,108]))]) = AV.tup [.d (.s (.int .i64 11)), .d (.s (.str (wSchema ++ y0)))] := by rw [q3]; rfl
         by_cases g1 : y1 = wCa
         · have b4 : F .not (F .eqS y1 [99,97,116,99,104,45,97,108,108]) = false := fN0.2 (fS.2 g1)
           by_cases g2 : y2 = 10000
           · have b5 : F .not (F .eqI y2 10000) = false := fN0.2 (fI.2 g2)
             have b6 : ab = false := (q4.resolve_left (fun h => h g1)).resolve_left (fun h => h g2)
             have b7 : F .not ab = true := fN.2 b6
             repeat' (first|with_reducible (first|refine qAh ?_|refine qAt ?_|refine qAf ?_|refine qAy (by assumption) ?_|refine qAn (by assumption) ?_|refine qAd (fun hb => ?_) (fun hb => ?_)|refine qAe ?_ (fun hb => ?_)|refine qAl ?_)|((with_reducible show _=true); assumption))
             refine AKp.doneE tabOK hfr (by rfl) ?_
             show _ = _
             simp only [tupAV]
             rw [q3]
             rfl
           · have b5 : F .not (F .eqI y2 10000) = true := fN.2 (fI0.2 g2)
             repeat' (first|with_reducible (first|refine qAh ?_|refine qAt ?_|refine qAf ?_|refine qAy (by assumption) ?_|refine qAn (by assumption) ?_|refine qAd (fun hb => ?_) (fun hb => ?_)|refine qAe ?_ (fun hb => ?_)|refine qAl ?_)|((with_reducible show _=true); assumption))
             refine AKp.doneE tabOK hfr (by rfl) ?_
             show _ = _
             simp only [tupAV]
             rw [q3]
             rfl
         · have b4 : F .not (F .eqS y1 [99,97,116,99,104,45,97,108,108]) = true := fN.2 (fS0.2 g1)
           repeat' (first|with_reducible (first|refine qAh ?_|refine qAt ?_|refine qAf ?_|refine qAy (by assumption) ?_|refine qAn (by assumption) ?_|refine qAd (fun hb => ?_) (fun hb => ?_)|refine qAe ?_ (fun hb => ?_)|refine qAl ?_)|((with_reducible show _=true); assumption))
           refine AKp.doneE tabOK hfr (by rfl) ?_
           show _ = _
           simp only [tupAV]
           rw [q3]
           rfl
       · rw [if_neg (fun h => q4 h.2)] at e7
         rw [← hab, e7, if_neg (fun h => h rfl)] at hr
         have g1 : y1 = wCa := Classical.byContradiction fun h => q4 (.inl h)
         have g2 : y2 = 10000 := Classical.byContradiction fun h => q4 (.inr (.inl h))
         have g3 : ab = true := by cases ab with | true => rfl | false => exact absurd (.inr (.inr rfl)) q4
         have b4 : F .not (F .eqS y1 [99,97,116,99,104,45,97,108,108]) = false := fN0.2 (fS.2 g1)
         have b5 : F .not (F .eqI y2 10000) = false := fN0.2 (fI.2 g2)
         have b7 : F .not ab = false := fN0.2 g3
         repeat' (first|with_reducible (first|refine qAh ?_|refine qAt ?_|refine qAf ?_|refine qAy (by assumption) ?_|refine qAn (by assumption) ?_|refine qAd (fun hb => ?_) (fun hb => ?_)|refine qAe ?_ (fun hb => ?_)|refine qAl ?_)|((with_reducible show _=true); assumption))
         refine AKp.again _ hfr (by repeat (first | exact True.intro | refine ⟨⟨rfl, rfl⟩, ?_⟩)) (by repeat (first | exact True.intro | refine ⟨⟨rfl, rfl, rfl⟩, ?_⟩)) (hJ (n - 1) _ _ (by omega) ⟨i + 1, _, _, _, by omega, inc_i hF hiv (by omega), hG0, hq1n.symm, hr, rfl, rfl⟩)
     · have b3 : F .eqS y0 [99,97,116,99,104,45,97,108,108] = false := fS0.2 q3
       rw [decide_eq_false q3, Bool.or_false] at hq1n
       rw [if_neg (fun h => q3 h.1)] at e7
       rw [e7, if_neg (fun h => h rfl)] at hr
       repeat' (first|with_reducible (first|refine qAh ?_|refine qAt ?_|refine qAf ?_|refine qAy (by assumption) ?_|refine qAn (by assumption) ?_|refine qAd (fun hb => ?_) (fun hb => ?_)|refine qAe ?_ (fun hb => ?_)|refine qAl ?_)|((with_reducible show _=true); assumption))
       refine AKp.again _ hfr (by repeat (first | exact True.intro | refine ⟨⟨rfl, rfl⟩, ?_⟩)) (by repeat (first | exact True.intro | refine ⟨⟨rfl, rfl, rfl⟩, ?_⟩)) (hJ (n - 1) _ _ (by omega) ⟨i + 1, _, _, _, by omega, inc_i hF hiv (by omega), hG0, hq1n.symm, hr, rfl, rfl⟩)
 have hge : ¬ i < SS.length := by rw [hF, f_ltI, f_lenD, hsl, hiv] at hbb; have := of_decide_eq_false hbb; omega
 rw [List.drop_eq_nil_of_le (by omega), rchS] at hr
 rw [List.take_of_length_le (by omega)] at hg0 hg1
 clear hJ hbb
 repeat' (first|with_reducible (first|refine qAh ?_|refine qAt ?_|refine qAf ?_|refine qAy (by assumption) ?_|refine qAn (by assumption) ?_|refine qAd (fun hb => ?_) (fun hb => ?_)|refine qAe ?_ (fun hb => ?_)|refine qAl ?_)|((with_reducible show _=true); assumption))
 have k0 : F .inB 0 2 = some 0 := by rw [hF]; rfl
 have k1 : F .inB 1 2 = some 1 := by rw [hF]; rfl
 have l0 : F .ltI 0 2 = true := by rw [hF]; rfl
 have l1 : F .ltI 1 2 = true := by rw [hF]; rfl
 have l2 : F .ltI 2 2 = false := by rw [hF]; rfl
 have a0 : F .wrap .i64 (F .add 0 1) = 1 := by rw [hF]; rfl
 have a1 : F .wrap .i64 (F .add 1 1) = 2 := by rw [hF]; rfl
 have nb : ∀ b : Bool, F .not b = !b := fun b => by rw [hF]; rfl
 clear hge hi hiv
 refine AKp.unroll 3 fun A0 b0 => ?_
 refine AK.runT hF tabOK hmix hnt hfr true _ hG ?_
 conv => arg 4; cbv
 with_reducible refine AKt.yes l0 ?_
 rw [k0]
 conv => arg 4; cbv
 rw [nb]
 cases c0 : p0
 · have e : lackF LS SS = (12, wLevel ++ wEx) := by
     unfold lackF
     rw [if_pos ((hp0).symm.trans c0)]
   rw [e] at hr
   simp only [Prod.mk.injEq] at hr
   obtain ⟨rfl, rfl⟩ := hr
   refine AKt.yes rfl ?_
   rw [k0]
   conv => arg 4; cbv
   refine AKt.need (t_hasCat hF (by decide)) fun _ => ?_
   repeat' (first|with_reducible (first|refine qAh ?_|refine qAt ?_|refine qAf ?_|refine qAy (by assumption) ?_|refine qAn (by assumption) ?_|refine qAd (fun hb => ?_) (fun hb => ?_)|refine qAe ?_ (fun hb => ?_)|refine qAl ?_)|((with_reducible show _=true); assumption))
   refine AKp.doneE tabOK hfr (by rfl) ?_
   show _ = _
   simp only [tupAV]
   rw [t_app hF]
   rfl
 refine AKt.no rfl ?_
 repeat' (first|with_reducible (first|refine qAh ?_|refine qAt ?_|refine qAf ?_|refine qAy (by assumption) ?_|refine qAn (by assumption) ?_|refine qAd (fun hb => ?_) (fun hb => ?_)|refine qAe ?_ (fun hb => ?_)|refine qAl ?_)|((with_reducible show _=true); assumption))
 rw [a0]
 obtain ⟨A1, b1, nx⟩ := b0
 refine AKp.backTo (nx _ ?_)
 clear nx
 refine AK.runT hF tabOK hmix hnt hfr true _ hG ?_
 conv => arg 4; cbv
 with_reducible refine AKt.yes l1 ?_
 rw [k1]
 conv => arg 4; cbv
 rw [nb]
 cases c1 : p1
 · have e : lackF LS SS = (12, wLevel ++ wCa) := by
     unfold lackF
     rw [if_neg (fun h => Bool.noConfusion (h.symm.trans ((hp0).symm.trans c0)))]
     rw [if_pos ((hp1).symm.trans c1)]
   rw [e] at hr
   simp only [Prod.mk.injEq] at hr
   obtain ⟨rfl, rfl⟩ := hr
   refine AKt.yes rfl ?_
   rw [k1]
   conv => arg 4; cbv
   refine AKt.need (t_hasCat hF (by decide)) fun _ => ?_
   repeat' (first|with_reducible (first|refine qAh ?_|refine qAt ?_|refine qAf ?_|refine qAy (by assumption) ?_|refine qAn (by assumption) ?_|refine qAd (fun hb => ?_) (fun hb => ?_)|refine qAe ?_ (fun hb => ?_)|refine qAl ?_)|((with_reducible show _=true); assumption))
   refine AKp.doneE tabOK hfr (by rfl) ?_
   show _ = _
   simp only [tupAV]
   rw [t_app hF]
   rfl
 refine AKt.no rfl ?_
 repeat' (first|with_reducible (first|refine qAh ?_|refine qAt ?_|refine qAf ?_|refine qAy (by assumption) ?_|refine qAn (by assumption) ?_|refine qAd (fun hb => ?_) (fun hb => ?_)|refine qAe ?_ (fun hb => ?_)|refine qAl ?_)|((with_reducible show _=true); assumption))
 rw [a1]
 obtain ⟨A2, b2, nx⟩ := b1
 refine AKp.backTo (nx _ ?_)
 clear nx
 refine AK.runT hF tabOK hmix hnt hfr true _ hG ?_
 conv => arg 4; cbv
 with_reducible refine AKt.no l2 ?_
 repeat' (first|with_reducible (first|refine qAh ?_|refine qAt ?_|refine qAf ?_|refine qAy (by assumption) ?_|refine qAn (by assumption) ?_|refine qAd (fun hb => ?_) (fun hb => ?_)|refine qAe ?_ (fun hb => ?_)|refine qAl ?_)|((with_reducible show _=true); assumption))
 refine AKp.unroll 3 fun C0 d0 => ?_
 refine AK.runT hF tabOK hmix hnt hfr true _ hG ?_
 conv => arg 4; cbv
 with_reducible refine AKt.yes l0 ?_
 rw [k0]
 conv => arg 4; cbv
 rw [nb]
 cases c2 : g0
 · have e : lackF LS SS = (12, wSchema ++ wEx) := by
     unfold lackF
     rw [if_neg (fun h => Bool.noConfusion (h.symm.trans ((hp0).symm.trans c0)))]
     rw [if_neg (fun h => Bool.noConfusion (h.symm.trans ((hp1).symm.trans c1)))]
     rw [if_pos ((hg0).symm.trans c2)]
   rw [e] at hr
   simp only [Prod.mk.injEq] at hr
   obtain ⟨rfl, rfl⟩ := hr
   refine AKt.yes rfl ?_
   rw [k0]
   conv => arg 4; cbv
   refine AKt.need (t_hasCat hF (by decide)) fun _ => ?_
   repeat' (first|with_reducible (first|refine qAh ?_|refine qAt ?_|refine qAf ?_|refine qAy (by assumption) ?_|refine qAn (by assumption) ?_|refine qAd (fun hb => ?_) (fun hb => ?_)|refine qAe ?_ (fun hb => ?_)|refine qAl ?_)|((with_reducible show _=true); assumption))
   refine AKp.doneE tabOK hfr (by rfl) ?_
   show _ = _
   simp only [tupAV]
   rw [t_app hF]
   rfl
 refine AKt.no rfl ?_
 repeat' (first|with_reducible (first|refine qAh ?_|refine qAt ?_|refine qAf ?_|refine qAy (by assumption) ?_|refine qAn (by assumption) ?_|refine qAd (fun hb => ?_) (fun hb => ?_)|refine qAe ?_ (fun hb => ?_)|refine qAl ?_)|((with_reducible show _=true); assumption))
 rw [a0]
 obtain ⟨C1, d1, nx⟩ := d0
 refine AKp.backTo (nx _ ?_)
 clear nx
 refine AK.runT hF tabOK hmix hnt hfr true _ hG ?_
 conv => arg 4; cbv
 with_reducible refine AKt.yes l1 ?_
 rw [k1]
 conv => arg 4; cbv
 rw [nb]
 cases c3 : g1
 · have e : lackF LS SS = (12, wSchema ++ wCa) := by
     unfold lackF
     rw [if_neg (fun h => Bool.noConfusion (h.symm.trans ((hp0).symm.trans c0)))]
     rw [if_neg (fun h => Bool.noConfusion (h.symm.trans ((hp1).symm.trans c1)))]
     rw [if_neg (fun h => Bool.noConfusion (h.symm.trans ((hg0).symm.trans c2)))]
     rw [if_pos ((hg1).symm.trans c3)]
   rw [e] at hr
   simp only [Prod.mk.injEq] at hr
   obtain ⟨rfl, rfl⟩ := hr
   refine AKt.yes rfl ?_
   rw [k1]
   conv => arg 4; cbv
   refine AKt.need (t_hasCat hF (by decide)) fun _ => ?_
   repeat' (first|with_reducible (first|refine qAh ?_|refine qAt ?_|refine qAf ?_|refine qAy (by assumption) ?_|refine qAn (by assumption) ?_|refine qAd (fun hb => ?_) (fun hb => ?_)|refine qAe ?_ (fun hb => ?_)|refine qAl ?_)|((with_reducible show _=true); assumption))
   refine AKp.doneE tabOK hfr (by rfl) ?_
   show _ = _
   simp only [tupAV]
   rw [t_app hF]
   rfl
 refine AKt.no rfl ?_
 repeat' (first|with_reducible (first|refine qAh ?_|refine qAt ?_|refine qAf ?_|refine qAy (by assumption) ?_|refine qAn (by assumption) ?_|refine qAd (fun hb => ?_) (fun hb => ?_)|refine qAe ?_ (fun hb => ?_)|refine qAl ?_)|((with_reducible show _=true); assumption))
 rw [a1]
 obtain ⟨C2, d2, nx⟩ := d1
 refine AKp.backTo (nx _ ?_)
 clear nx
 refine AK.runT hF tabOK hmix hnt hfr true _ hG ?_
 conv => arg 4; cbv
 with_reducible refine AKt.no l2 ?_
 have e : lackF LS SS = (0, []) := by
   unfold lackF
   rw [if_neg (fun h => Bool.noConfusion (h.symm.trans ((hp0).symm.trans c0)))]
   rw [if_neg (fun h => Bool.noConfusion (h.symm.trans ((hp1).symm.trans c1)))]
   rw [if_neg (fun h => Bool.noConfusion (h.symm.trans ((hg0).symm.trans c2)))]
   rw [if_neg (fun h => Bool.noConfusion (h.symm.trans ((hg1).symm.trans c3)))]
 rw [e] at hr
 simp only [Prod.mk.injEq] at hr
 obtain ⟨rfl, rfl⟩ := hr
 repeat' (first|with_reducible (first|refine qAh ?_|refine qAt ?_|refine qAf ?_|refine qAy (by assumption) ?_|refine qAn (by assumption) ?_|refine qAd (fun hb => ?_) (fun hb => ?_)|refine qAe ?_ (fun hb => ?_)|refine qAl ?_)|((with_reducible show _=true); assumption))
 refine AKp.doneE tabOK hfr (by rfl) ?_
 show _ = _
 simp only [tupAV]
end Go.Proofs.YtpmpajodihpkaaaGreatDoor
