/- The library of this claim and its walks, part 49, joined out of smaller texts. No statement stands in it. -/
import Derived.Test.YtpmpajodihpkaaaGreatDoorUaM29
import Derived.Test.YtpmpajodihpkaaaGreatDoorUaM36
import Derived.Test.YtpmpajodihpkaaaGreatDoorUaM43
import Derived.Test.YtpmpajodihpkaaaGreatDoorUaM45
import Derived.Test.YtpmpajodihpkaaaGreatDoorUaM47
import Derived.Test.YtpmpajodihpkaaaGreatDoorUaM48
set_option linter.unusedSimpArgs false
set_option linter.unusedVariables false
namespace Go.Proofs.YtpmpajodihpkaaaGreatDoor
open Go Go.Proofs Go.Ua Go.Extern
set_option maxRecDepth 10000
theorem chk13D_spec (a b c d : Int) (ls ss : List Dat) (hb : meP a b c d ls ss = true) : ESpec Tryz.prog 9 [.d (.agg [.s (.int .i64 a), .s (.int .i64 b), .s (.int .i64 c), .s (.int .i64 d), .view 10 ls, .view 5 ss])] (fun x => x = .tup [.d (.s (.int .i64 (rchF ⟨a, b, c, d, unLv ls, unSm ss⟩).1)), .d (.s (.str (rchF ⟨a, b, c, d, unLv ls, unSm ss⟩).2))]) := by
 rw [meP, Bool.and_eq_true] at hb
 exact chk13_spec a b c d ls ss hb.1 hb.2
theorem lack_nil {ls : List Lv} {ss : List Sm} : (lackF ls ss).1 = 0 → (lackF ls ss).2 = [] := by
 unfold lackF
 repeat' split
 all_goals simp
theorem rchS_nil {ls : List Lv} {all : List Sm} : ∀ {l : List Sm}, (rchS ls all l).1 = 0 → (rchS ls all l).2 = []
 | [] => lack_nil
 | s :: r => by
   rw [rchS]
   by_cases h : rsmE s ls = 0
   · rw [if_neg (fun g => g h)]
     exact rchS_nil
   · rw [if_pos h]
     exact fun g => absurd g h
theorem rchL_nil {all : List Lv} {ss : List Sm} : ∀ {l : List Lv}, (rchL all ss l).1 = 0 → (rchL all ss l).2 = []
 | [] => rchS_nil
 | x :: r => by
   rw [rchL]
   by_cases h : rlvE x = 0
   · rw [if_neg (fun g => g h)]
     exact rchL_nil
   · rw [if_pos h]
     exact fun g => absurd g h
theorem rch_nil {c : Cf} : (rchF c).1 = 0 → (rchF c).2 = [] := by
 unfold rchF
 repeat' split
 all_goals try simp
 exact rchL_nil
def φRCheck13 (p : Int → Int → Int → Int → List Dat → List Dat → Bool) (u : Int → Int → Int → Int → List Dat → List Dat → Int) (w : Int → Int → Int → Int → List Dat → List Dat → Wd) : List AV → Option (Bool × AV)
 | [.d (.agg [.s (.int .i64 a), .s (.int .i64 b), .s (.int .i64 c), .s (.int .i64 d), .view 10 ls, .view 5 ss])] => some (p a b c d ls ss, .tup [.d (.s (.int .i64 (u a b c d ls ss))), .d (.s (.str (w a b c d ls ss)))])
 | _ => none
theorem φRCheck13_ok : SpOK Tryz.prog 9 (φRCheck13 (meP) (fun a b c d ls ss => (rchF ⟨a, b, c, d, unLv ls, unSm ss⟩).1) (fun a b c d ls ss => (rchF ⟨a, b, c, d, unLv ls, unSm ss⟩).2)) := by
 intro xs b x h hb
 unfold φRCheck13 at h
 split at h
 · simp only [Option.some.injEq, Prod.mk.injEq] at h
   obtain ⟨rfl, rfl⟩ := h
   exact chk13D_spec _ _ _ _ _ _ hb
 · cases h
set_option maxHeartbeats 8000000 in
set_option cbv.maxSteps 10000000 in
set_option maxRecDepth 100000 in
theorem rulesAll_spec (a b c d : Int) (ls ss : List Dat) (hb : isCf0 ls ss = true) : ESpec Tryz.prog 3 [.d (.agg [.s (.int .i64 a), .s (.int .i64 b), .s (.int .i64 c), .s (.int .i64 d), .view 10 ls, .view 5 ss])] (fun x => x = .d (.s (.bool true))) := by
 obtain ⟨uSmallC, huSmallC⟩ : ∃ u : List Dat → List Dat → Bool, u = isCf0 := ⟨_, rfl⟩
 obtain ⟨uSmallC1, huSmallC1⟩ : ∃ u : Int → Int → Int → Int → List Dat → List Dat → Bool, u = fun a b c d ls ss => smallF ⟨a, b, c, d, unLv ls, unSm ss⟩ := ⟨_, rfl⟩
 obtain ⟨uFillV, huFillV⟩ : ∃ u : Int → Int → Int → Int → List Dat → List Dat → Bool, u = fun a b c d ls ss => isCf0 ls ss && cpC ⟨a, b, c, d, unLv ls, unSm ss⟩ := ⟨_, rfl⟩
 obtain ⟨uFillV1, huFillV1⟩ : ∃ u : Int → Int → Int, u = orF := ⟨_, rfl⟩
 obtain ⟨uFillV2, huFillV2⟩ : ∃ u : List Dat → List Dat, u = filL := ⟨_, rfl⟩
 obtain ⟨uFillV3, huFillV3⟩ : ∃ u : List Dat → List Dat, u = filS := ⟨_, rfl⟩
 have hG : TblOK Tryz.prog [(4, .p (φAwake13 )), (5, .p (φSmallC uSmallC uSmallC1)), (6, .p (φFillV uFillV uFillV1 uFillV2 uFillV3))] := ⟨φAwake13_ok, (by rw [huSmallC, huSmallC1]; exact φSmallC_ok), (by rw [huFillV, huFillV1, huFillV2, huFillV3]; exact φFillV_ok), trivial⟩
 have hb0 := hb
 simp only [isCf0, Bool.and_eq_true] at hb
 have qs : uSmallC ls ss = true := by rw [huSmallC]; exact hb0
 have vs1 : uSmallC1 a b c d ls ss = smallF ⟨a, b, c, d, unLv ls, unSm ss⟩ := by rw [huSmallC1]
 refine ESpec.enter Tryz.func3 (by kernel_rfl) rfl (Nat.le_of_ble_eq_true rfl) fun hok cx hnt hfr => ?_
 obtain ⟨F, hF⟩ := real_ex
 refine AK.runTs hF tabOK hmix hnt hfr [5] true _ hG ?_
 conv => arg 4; cbv
 refine AKt.need rfl fun _ => AKt.no (by rw [hF]; rfl) ?_
 refine AKt.need qs fun _ => ?_
 refine AKt.node (fun t => ?_) (fun t => ?_)
 · repeat' (first|with_reducible (first|refine qAh ?_|refine qAt ?_|refine qAf ?_|refine qAy (by assumption) ?_|refine qAn (by assumption) ?_|refine qAd (fun hb => ?_) (fun hb => ?_)|refine qAe ?_ (fun hb => ?_)|refine qAl ?_)|((with_reducible show _=true); assumption))
   refine AKp.doneE tabOK hfr (by rfl) ?_
   show _ = _
   simp only [tupAV]
 simp only [not_iff hF] at t
 rw [vs1] at t
 have hcp := cp_small t
 have qf : uFillV a b c d ls ss = true := by rw [huFillV]; show (isCf0 ls ss && cpC _) = true; rw [hb0, hcp]; rfl
 obtain ⟨C, hC⟩ : ∃ z, z = fillF ⟨a, b, c, d, unLv ls, unSm ss⟩ := ⟨_, rfl⟩
 obtain ⟨ct, hct⟩ : ∃ z, z = C.tt := ⟨_, rfl⟩
 obtain ⟨cp, hcpe⟩ : ∃ z, z = C.pe := ⟨_, rfl⟩
 obtain ⟨cr, hcr⟩ : ∃ z, z = C.pr := ⟨_, rfl⟩
 obtain ⟨cm, hcm⟩ : ∃ z, z = C.mo := ⟨_, rfl⟩
 obtain ⟨L, hL⟩ : ∃ z, z = lvDs C.ls := ⟨_, rfl⟩
 obtain ⟨S, hS⟩ : ∃ z, z = smDs C.ss := ⟨_, rfl⟩
 have w1 : uFillV1 a 100 = ct := by rw [huFillV1, hct, hC]; rfl
 have w2 : uFillV1 b 10 = cp := by rw [huFillV1, hcpe, hC]; rfl
 have w3 : uFillV1 c 100 = cr := by rw [huFillV1, hcr, hC]; rfl
 have w4 : uFillV1 d 10 = cm := by rw [huFillV1, hcm, hC]; rfl
 have w5 : uFillV2 ls = L := by rw [huFillV2, hL, hC]; rfl
 have w6 : uFillV3 ss = S := by rw [huFillV3, hS, hC]; rfl
 have hcf : isCf0 L S = true := by rw [hL, hS, isCf0, is_lv, is_sm]; rfl
 have eC : (⟨ct, cp, cr, cm, unLv L, unSm S⟩ : Cf) = C := by rw [hct, hcpe, hcr, hcm, hL, hS, un_lv, un_sm]
 have hcpC : cpC C = true := by rw [hC]; exact fill_cp t
 have hmeC : medF C = true := by rw [hC]; exact med_fill t
 have hmed := med_small t
 refine AKt.leaf ?_
 refine AKp.runD2 hF tabOK hmix hnt true _ hG (Nat.le_trans (Nat.le_of_eq hfr) (Nat.le_of_ble_eq_true rfl)) ?_
 conv => arg 4; cbv
 refine AKt.need qf fun _ => ?_
 rw [w1, w2, w3, w4, w5, w6]
 obtain ⟨ES, hES⟩ : ∃ z, z = [Dat.agg [.s (.int .i64 a), .s (.int .i64 b), .s (.int .i64 c), .s (.int .i64 d), .view 10 ls, .view 5 ss], Dat.agg [.s (.int .i64 ct), .s (.int .i64 cp), .s (.int .i64 cr), .s (.int .i64 cm), .view 10 L, .view 5 S]] := ⟨_, rfl⟩
 rw [← hES]
 have hlen : F .lenD ES = 2 := by rw [hF, f_lenD, hES]; rfl
 rw [hlen]
 have hel : ∀ i, i < 2 → ∃ (x0 x1 x2 x3 : Int) (x4 x5 : List Dat), ES[i]? = some (.agg [.s (.int .i64 x0), .s (.int .i64 x1), .s (.int .i64 x2), .s (.int .i64 x3), .view 10 x4, .view 5 x5]) ∧ isCf0 x4 x5 = true ∧ cpC ⟨x0, x1, x2, x3, unLv x4, unSm x5⟩ = true ∧ medF ⟨x0, x1, x2, x3, unLv x4, unSm x5⟩ = true := by
   intro i hi
   rcases i with _ | _ | i
   · exact ⟨a, b, c, d, ls, ss, by rw [hES]; rfl, hb0, hcp, hmed⟩
   · exact ⟨ct, cp, cr, cm, L, S, by rw [hES]; rfl, hcf, by rw [eC]; exact hcpC, by rw [eC]; exact hmeC⟩
   · omega
 clear hES
 clear w1 w2 w3 w4 w5 w6
 have _ := hlen
 obtain ⟨uCopyC, huCopyC⟩ : ∃ u : Int → Int → Int → Int → List Dat → List Dat → Bool, u = fun a b c d ls ss => isCf0 ls ss && cpC ⟨a, b, c, d, unLv ls, unSm ss⟩ := ⟨_, rfl⟩
 have hG : TblOK Tryz.prog [(7, .p (φCopyC uCopyC))] := ⟨(by rw [huCopyC]; exact φCopyC_ok), trivial⟩
 refine AKt.leaf ?_
 refine AKp.enterLoop 20 ?_
 conv => arg 7; cbv
 refine AKl.invTs hF tabOK hmix hnt (Nat.le_trans (Nat.le_of_eq hfr) (Nat.le_of_ble_eq_true rfl)) [9] true _ hG (fun n vs hs => ∃ (i : Nat) (iv : Int), i + n = 2 ∧ iv = i ∧ vs = [(19, .d (.s (.int .i64 iv)))] ∧ hs = []) 2 ⟨0, _, by omega, rfl, rfl, rfl⟩ (by repeat (first | exact True.intro | refine ⟨⟨rfl, rfl⟩, ?_⟩)) (by repeat (first | exact True.intro | refine ⟨⟨rfl, rfl, rfl⟩, ?_⟩)) ?_
 rintro J n vs hs hJ ⟨i, iv, hi, hiv, rfl, rfl⟩
 conv => arg 4; cbv
 refine AKt.node (fun hbb => ?_) (fun hbb => ?_)
 · have hlt : i < 2 := by rw [hF, f_ltI, hiv] at hbb; have := of_decide_eq_true hbb; omega
   obtain ⟨x0, x1, x2, x3, x4, x5, hd, g1, g2, g3⟩ := hel i hlt
   have hx_ : F .hasD ES iv [.int .i64, .int .i64, .int .i64, .int .i64, .view 10, .view 5] = true := t_hasD hF hd hiv rfl
   try rw [show F .intA ES iv 0 = x0 by exact t_intA hF hd hiv rfl]
   try rw [show F .intA ES iv 1 = x1 by exact t_intA hF hd hiv rfl]
   try rw [show F .intA ES iv 2 = x2 by exact t_intA hF hd hiv rfl]
   try rw [show F .intA ES iv 3 = x3 by exact t_intA hF hd hiv rfl]
   try rw [show F .viewA ES iv 4 = x4 by exact t_viewA hF hd hiv rfl]
   try rw [show F .viewA ES iv 5 = x5 by exact t_viewA hF hd hiv rfl]
   have qcp : uCopyC x0 x1 x2 x3 x4 x5 = true := by rw [huCopyC]; show (isCf0 x4 x5 && cpC _) = true; rw [g1, g2]; rfl
   refine AKt.need hx_ fun _ => AKt.need qcp fun _ => ?_
   refine AKt.leaf ?_
   obtain ⟨D, hD⟩ : ∃ z, z = (⟨x0, x1, x2, x3, unLv x4, unSm x5⟩ : Cf) := ⟨_, rfl⟩
   rw [← hD] at g2 g3
   have qm : meP x0 x1 x2 x3 x4 x5 = true := by rw [meP, g1, ← hD, g3]; rfl
   by_cases hp : (rchF D).1 = 0
   rotate_left
   · have _ := hp
     obtain ⟨uCheckBad, huCheckBad⟩ : ∃ u : Int → Int → Int → Int → List Dat → List Dat → Bool, u = chkBad := ⟨_, rfl⟩
     obtain ⟨uCheckBad1, huCheckBad1⟩ : ∃ u : Int → Int → Int → Int → List Dat → List Dat → Wd, u = fun a b c d ls ss => (rchF ⟨a, b, c, d, unLv ls, unSm ss⟩).2 := ⟨_, rfl⟩
     obtain ⟨uCheckBad2, huCheckBad2⟩ : ∃ u : Int → Int → Int → Int → List Dat → List Dat → Int, u = fun a b c d ls ss => (rchF ⟨a, b, c, d, unLv ls, unSm ss⟩).1 := ⟨_, rfl⟩
     obtain ⟨uRCheck13, huRCheck13⟩ : ∃ u : Int → Int → Int → Int → List Dat → List Dat → Bool, u = meP := ⟨_, rfl⟩
     obtain ⟨uRCheck131, huRCheck131⟩ : ∃ u : Int → Int → Int → Int → List Dat → List Dat → Int, u = fun a b c d ls ss => (rchF ⟨a, b, c, d, unLv ls, unSm ss⟩).1 := ⟨_, rfl⟩
     obtain ⟨uRCheck132, huRCheck132⟩ : ∃ u : Int → Int → Int → Int → List Dat → List Dat → Wd, u = fun a b c d ls ss => (rchF ⟨a, b, c, d, unLv ls, unSm ss⟩).2 := ⟨_, rfl⟩
     obtain ⟨uSameCf, huSameCf⟩ : ∃ u : List Dat → List Dat → List Dat → List Dat → Bool, u = fun ls ss ks ts => isCf0 ls ss && isCf0 ks ts := ⟨_, rfl⟩
     obtain ⟨uSameCf1, huSameCf1⟩ : ∃ u : Int → Int → Int → Int → List Dat → List Dat → Int → Int → Int → Int → List Dat → List Dat → Bool, u = fun a b c d ls ss a2 b2 c2 d2 ks ts => sameC ⟨a, b, c, d, unLv ls, unSm ss⟩ ⟨a2, b2, c2, d2, unLv ks, unSm ts⟩ := ⟨_, rfl⟩
     have hG : TblOK Tryz.prog [(8, .p (φCheckBad uCheckBad uCheckBad1 uCheckBad2)), (9, .p (φRCheck13 uRCheck13 uRCheck131 uRCheck132)), (10, .p (φFCode )), (11, .p (φFWhat )), (12, .p (φSameCf uSameCf uSameCf1))] := ⟨(by rw [huCheckBad, huCheckBad1, huCheckBad2]; exact φCheckBad_ok), (by rw [huRCheck13, huRCheck131, huRCheck132]; exact φRCheck13_ok), φFCode_ok, φFWhat_ok, (by rw [huSameCf, huSameCf1]; exact φSameCf_ok), trivial⟩
     have qc : uCheckBad x0 x1 x2 x3 x4 x5 = true := by rw [huCheckBad]; show chkBad _ _ _ _ _ _ = true; rw [chkBad, g1, ← hD, decide_eq_true hp]; rfl
     have q3 : uRCheck13 x0 x1 x2 x3 x4 x5 = true := by rw [huRCheck13]; exact qm
     obtain ⟨en, hen⟩ : ∃ z, z = (rchF D).1 := ⟨_, rfl⟩
     obtain ⟨ew, hew⟩ : ∃ z, z = (rchF D).2 := ⟨_, rfl⟩
     have v1 : uCheckBad1 x0 x1 x2 x3 x4 x5 = ew := by rw [huCheckBad1, hew, hD]
     have v2 : uCheckBad2 x0 x1 x2 x3 x4 x5 = en := by rw [huCheckBad2, hen, hD]
     have v3 : uRCheck131 x0 x1 x2 x3 x4 x5 = en := by rw [huRCheck131, hen, hD]
     have v4 : uRCheck132 x0 x1 x2 x3 x4 x5 = ew := by rw [huRCheck132, hew, hD]
     have q5 : uSameCf x4 x5 x4 x5 = true := by rw [huSameCf]; show (isCf0 _ _ && isCf0 _ _) = true; rw [g1]; rfl
     have q6 : uSameCf1 x0 x1 x2 x3 x4 x5 x0 x1 x2 x3 x4 x5 = true := by rw [huSameCf1]; exact decide_eq_true rfl
     have e1 : F .eqI en en = true := (eqI_iff hF).1.2 rfl
     have e2 : F .eqS ew ew = true := (eqS_iff hF).1.2 rfl
     have e3 : F .eqI en 0 = false := (eqI_iff hF).2.2 (by rw [hen]; exact hp)
     have nb : ∀ b : Bool, F .not b = !b := fun b => by rw [hF]; rfl
     refine AK.runT hF tabOK hmix hnt hfr true _ hG ?_
     conv => arg 4; cbv
     refine AKt.need qc fun _ => AKt.need q3 fun _ => ?_
     rw [v1, v2, v3, v4]
     have d1 : F .not (F .eqI en en) = false := by rw [e1, nb]; rfl
     have d2 : F .not (F .eqS ew ew) = false := by rw [e2, nb]; rfl
     have d3 : F .not (F .eqB false (F .eqI en 0)) = false := by rw [e3, nb, hF]; rfl
     have d4 : F .not (uSameCf1 x0 x1 x2 x3 x4 x5 x0 x1 x2 x3 x4 x5) = false := by rw [q6, nb]; rfl
     refine AKt.need rfl fun _ => AKt.no d1 (AKt.need rfl fun _ => AKt.no d2 (AKt.no d3 (AKt.need q5 fun _ => AKt.no d4 ?_)))
     repeat' (first|with_reducible (first|refine qAh ?_|refine qAt ?_|refine qAf ?_|refine qAy (by assumption) ?_|refine qAn (by assumption) ?_|refine qAd (fun hb => ?_) (fun hb => ?_)|refine qAe ?_ (fun hb => ?_)|refine qAl ?_)|((with_reducible show _=true); assumption))
     refine AKp.again _ hfr (by repeat (first | exact True.intro | refine ⟨⟨rfl, rfl⟩, ?_⟩)) (by repeat (first | exact True.intro | refine ⟨⟨rfl, rfl, rfl⟩, ?_⟩)) (hJ (n - 1) _ _ (by omega) ⟨i + 1, _, by omega, inc_i hF hiv (by omega), rfl, rfl⟩)
   · have _ := hp
     obtain ⟨uCheckOk, huCheckOk⟩ : ∃ u : Int → Int → Int → Int → List Dat → List Dat → Bool, u = chkOk := ⟨_, rfl⟩
     obtain ⟨uRCheck13, huRCheck13⟩ : ∃ u : Int → Int → Int → Int → List Dat → List Dat → Bool, u = meP := ⟨_, rfl⟩
     obtain ⟨uRCheck131, huRCheck131⟩ : ∃ u : Int → Int → Int → Int → List Dat → List Dat → Int, u = fun a b c d ls ss => (rchF ⟨a, b, c, d, unLv ls, unSm ss⟩).1 := ⟨_, rfl⟩
     obtain ⟨uRCheck132, huRCheck132⟩ : ∃ u : Int → Int → Int → Int → List Dat → List Dat → Wd, u = fun a b c d ls ss => (rchF ⟨a, b, c, d, unLv ls, unSm ss⟩).2 := ⟨_, rfl⟩
     obtain ⟨uSameCf, huSameCf⟩ : ∃ u : List Dat → List Dat → List Dat → List Dat → Bool, u = fun ls ss ks ts => isCf0 ls ss && isCf0 ks ts := ⟨_, rfl⟩
     obtain ⟨uSameCf1, huSameCf1⟩ : ∃ u : Int → Int → Int → Int → List Dat → List Dat → Int → Int → Int → Int → List Dat → List Dat → Bool, u = fun a b c d ls ss a2 b2 c2 d2 ks ts => sameC ⟨a, b, c, d, unLv ls, unSm ss⟩ ⟨a2, b2, c2, d2, unLv ks, unSm ts⟩ := ⟨_, rfl⟩
     have hG : TblOK Tryz.prog [(8, .p (φCheckOk uCheckOk)), (9, .p (φRCheck13 uRCheck13 uRCheck131 uRCheck132)), (10, .p (φFCode0 )), (11, .p (φFWhat0 )), (12, .p (φSameCf uSameCf uSameCf1))] := ⟨(by rw [huCheckOk]; exact φCheckOk_ok), (by rw [huRCheck13, huRCheck131, huRCheck132]; exact φRCheck13_ok), φFCode0_ok, φFWhat0_ok, (by rw [huSameCf, huSameCf1]; exact φSameCf_ok), trivial⟩
     have qc : uCheckOk x0 x1 x2 x3 x4 x5 = true := by rw [huCheckOk]; show chkOk _ _ _ _ _ _ = true; rw [chkOk, g1, ← hD, decide_eq_true hp]; rfl
     have q3 : uRCheck13 x0 x1 x2 x3 x4 x5 = true := by rw [huRCheck13]; exact qm
     have v3 : uRCheck131 x0 x1 x2 x3 x4 x5 = 0 := by rw [huRCheck131]; show (rchF _).1 = 0; rw [← hD, hp]
     have v4 : uRCheck132 x0 x1 x2 x3 x4 x5 = [] := by rw [huRCheck132]; show (rchF _).2 = []; rw [← hD, rch_nil hp]
     have q5 : uSameCf x4 x5 x4 x5 = true := by rw [huSameCf]; show (isCf0 _ _ && isCf0 _ _) = true; rw [g1]; rfl
     have q6 : uSameCf1 x0 x1 x2 x3 x4 x5 x0 x1 x2 x3 x4 x5 = true := by rw [huSameCf1]; exact decide_eq_true rfl
     have e1 : F .eqI 0 0 = true := (eqI_iff hF).1.2 rfl
     have e2 : F .eqS [] [] = true := (eqS_iff hF).1.2 rfl
     have nb : ∀ b : Bool, F .not b = !b := fun b => by rw [hF]; rfl
     refine AK.runT hF tabOK hmix hnt hfr true _ hG ?_
     conv => arg 4; cbv
     refine AKt.need qc fun _ => AKt.need q3 fun _ => ?_
     rw [v3, v4]
     have d1 : F .not (F .eqI 0 0) = false := by rw [e1, nb]; rfl
     have d2 : F .not (F .eqS [] []) = false := by rw [e2, nb]; rfl
     have d3 : F .not (F .eqB true (F .eqI 0 0)) = false := by rw [e1, nb, hF]; rfl
     have d4 : F .not (uSameCf1 x0 x1 x2 x3 x4 x5 x0 x1 x2 x3 x4 x5) = false := by rw [q6, nb]; rfl
     refine AKt.need rfl fun _ => AKt.no d1 (AKt.need rfl fun _ => AKt.no d2 (AKt.no d3 (AKt.need q5 fun _ => AKt.no d4 ?_)))
     repeat' (first|with_reducible (first|refine qAh ?_|refine qAt ?_|refine qAf ?_|refine qAy (by assumption) ?_|refine qAn (by assumption) ?_|refine qAd (fun hb => ?_) (fun hb => ?_)|refine qAe ?_ (fun hb => ?_)|refine qAl ?_)|((with_reducible show _=true); assumption))
     refine AKp.again _ hfr (by repeat (first | exact True.intro | refine ⟨⟨rfl, rfl⟩, ?_⟩)) (by repeat (first | exact True.intro | refine ⟨⟨rfl, rfl, rfl⟩, ?_⟩)) (hJ (n - 1) _ _ (by omega) ⟨i + 1, _, by omega, inc_i hF hiv (by omega), rfl, rfl⟩)
 repeat' (first|with_reducible (first|refine qAh ?_|refine qAt ?_|refine qAf ?_|refine qAy (by assumption) ?_|refine qAn (by assumption) ?_|refine qAd (fun hb => ?_) (fun hb => ?_)|refine qAe ?_ (fun hb => ?_)|refine qAl ?_)|((with_reducible show _=true); assumption))
 refine AKp.doneE tabOK hfr (by rfl) ?_
 show _ = _
 simp only [tupAV]
theorem RulesAllT_spec (c : Cf) : ESpec Tryz.prog 3 [.d (.agg c.cells)] (fun x => x = .d (.s (.bool true))) := rulesAll_spec _ _ _ _ _ _ (by rw [isCf0, is_lv, is_sm]; rfl)
end Go.Proofs.YtpmpajodihpkaaaGreatDoor
