/- The library of this claim and its walks, part 41, joined out of smaller texts. No statement stands in it. -/
import Derived.Test.YtpmpajodihpkaaaGreatDoorUaM28
import Derived.Test.YtpmpajodihpkaaaGreatDoorUaM35
import Derived.Test.YtpmpajodihpkaaaGreatDoorUaM38
import Derived.Test.YtpmpajodihpkaaaGreatDoorUaM39
import Derived.Test.YtpmpajodihpkaaaGreatDoorUaM40
set_option linter.unusedSimpArgs false
set_option linter.unusedVariables false
namespace Go.Proofs.YtpmpajodihpkaaaGreatDoor
open Go Go.Proofs Go.Ua Go.Extern
set_option maxRecDepth 10000
def φNums (p : List Dat → Bool) (u : List Dat → Int → Int → List Dat) (e : List Dat → Int → Int → Int) (u2 : List Dat → Int → Int → Int → Int → List Dat) (e2 : List Dat → Int → Int → Int → Int → Int) (xs : List AV) : Option (Bool × AV) := match φNums1 p u e xs with
 | some r => some r
 | none => φNums2 p u2 e2 xs
theorem φNums_ok : SpOK Tryz.prog 55 (φNums isStrs n1V n1E n2V n2E) := by
 intro xs b x h hb
 unfold φNums at h
 split at h
 · rename_i r hr
   obtain rfl := Option.some.inj h
   exact φNums1_ok xs b x hr hb
 · exact φNums2_ok xs b x h hb
theorem linC_lev (c : Cf) (w : List Wd) (h : wAt w 0 = LEVEL) : linE c w = levE c w ∧ linC c w = { c with ls := levC c w } := by
 have e : linE c w = levE c w := by
   unfold linE
   rw [h, if_neg (by decide), if_neg (by decide), if_neg (by decide), if_pos rfl]
 refine ⟨e, ?_⟩
 unfold linC levC
 rw [e, show linA c w = { c with ls := c.ls ++ [lvOf w] } by unfold linA; rw [h, if_neg (by decide), if_neg (by decide), if_neg (by decide), if_pos rfl]]
 split <;> rfl
theorem linC_sch (c : Cf) (w : List Wd) (h : wAt w 0 = SCHEMA) : linE c w = schE c w ∧ linC c w = { c with ss := schC c w } := by
 have e : linE c w = schE c w := by
   unfold linE
   rw [h, if_neg (by decide), if_neg (by decide), if_neg (by decide), if_neg (by decide), if_pos rfl]
 refine ⟨e, ?_⟩
 unfold linC schC
 rw [e, show linA c w = { c with ss := c.ss ++ [smOf w] } by unfold linA; rw [h, if_neg (by decide), if_neg (by decide), if_neg (by decide), if_neg (by decide), if_pos rfl]]
 split <;> rfl
theorem linC_rul (c : Cf) (w : List Wd) (h : wAt w 0 = RULE) : linE c w = rulE c w ∧ linC c w = { c with ss := rulC c w } := by
 have e : linE c w = rulE c w := by
   unfold linE
   rw [h, if_neg (by decide), if_neg (by decide), if_neg (by decide), if_neg (by decide), if_neg (by decide), if_pos rfl]
 refine ⟨e, ?_⟩
 unfold linC rulC
 rw [e, show linA c w = { c with ss := addR c.ss (rlOf w) } by unfold linA; rw [h, if_neg (by decide), if_neg (by decide), if_neg (by decide), if_neg (by decide), if_neg (by decide)]]
 split <;> rfl
def linP (c : Cf) (ws : List Wd) : Bool := decide (c.ls.length ≤ 1000) && (decide (c.ss.length ≤ 1000) && (ws.all le32 && decide (0 < ws.length)))
set_option maxHeartbeats 8000000 in
set_option cbv.maxSteps 10000000 in
theorem Line_spec (c : Cf) (ws : List Wd) (hp : linP c ws = true) : ESpec Tryz.prog 38 [.d (.agg [.s (.int .i64 c.tt), .s (.int .i64 c.pe), .s (.int .i64 c.pr), .s (.int .i64 c.mo), .view 10 (lvDs c.ls), .view 5 (smDs c.ss)]), .d (.view 1 (strDs ws))] (fun x => x = .tup [.d (.agg [.s (.int .i64 (linC c ws).tt), .s (.int .i64 (linC c ws).pe), .s (.int .i64 (linC c ws).pr), .s (.int .i64 (linC c ws).mo), .view 10 (lvDs (linC c ws).ls), .view 5 (smDs (linC c ws).ss)]), .d (.s (.int .i64 (linE c ws)))]) := by
 obtain ⟨uNums, huNums⟩ : ∃ u : List Dat → Bool, u = isStrs := ⟨_, rfl⟩
 obtain ⟨uNums1, huNums1⟩ : ∃ u : List Dat → Int → Int → List Dat, u = n1V := ⟨_, rfl⟩
 obtain ⟨uNums2, huNums2⟩ : ∃ u : List Dat → Int → Int → Int, u = n1E := ⟨_, rfl⟩
 obtain ⟨uNums3, huNums3⟩ : ∃ u : List Dat → Int → Int → Int → Int → List Dat, u = n2V := ⟨_, rfl⟩
 obtain ⟨uNums4, huNums4⟩ : ∃ u : List Dat → Int → Int → Int → Int → Int, u = n2E := ⟨_, rfl⟩
 obtain ⟨uRLevel, huRLevel⟩ : ∃ u : List Dat → List Dat → List Dat → Bool, u = lcP := ⟨_, rfl⟩
 obtain ⟨uRLevel1, huRLevel1⟩ : ∃ u : List Dat → List Dat → List Dat, u = lvRV := ⟨_, rfl⟩
 obtain ⟨uRLevel2, huRLevel2⟩ : ∃ u : List Dat → List Dat → Int, u = lvRE := ⟨_, rfl⟩
 obtain ⟨uRSchema, huRSchema⟩ : ∃ u : List Dat → List Dat → List Dat → Bool, u = scP := ⟨_, rfl⟩
 obtain ⟨uRSchema1, huRSchema1⟩ : ∃ u : List Dat → List Dat → List Dat, u = smRV := ⟨_, rfl⟩
 obtain ⟨uRSchema2, huRSchema2⟩ : ∃ u : List Dat → List Dat → Int, u = smRE := ⟨_, rfl⟩
 obtain ⟨uRRule, huRRule⟩ : ∃ u : List Dat → List Dat → List Dat → Bool, u = rcP := ⟨_, rfl⟩
 obtain ⟨uRRule1, huRRule1⟩ : ∃ u : List Dat → List Dat → List Dat, u = rlRV := ⟨_, rfl⟩
 obtain ⟨uRRule2, huRRule2⟩ : ∃ u : List Dat → List Dat → Int, u = rlRE := ⟨_, rfl⟩
 have hG : TblOK Tryz.prog [(55, .p (φNums uNums uNums1 uNums2 uNums3 uNums4)), (56, .p (φRLevel uRLevel uRLevel1 uRLevel2)), (57, .p (φRSchema uRSchema uRSchema1 uRSchema2)), (58, .p (φRRule uRRule uRRule1 uRRule2))] := ⟨(by rw [huNums, huNums1, huNums2, huNums3, huNums4]; exact φNums_ok), (by rw [huRLevel, huRLevel1, huRLevel2]; exact φRLevel_ok), (by rw [huRSchema, huRSchema1, huRSchema2]; exact φRSchema_ok), (by rw [huRRule, huRRule1, huRRule2]; exact φRRule_ok), trivial⟩
 simp only [linP, Bool.and_eq_true, decide_eq_true_eq] at hp
 obtain ⟨p1, p2, p3, p4⟩ := hp
 obtain ⟨E, hE⟩ : ∃ z, z = linE c ws := ⟨_, rfl⟩
 obtain ⟨C, hC⟩ : ∃ z, z = linC c ws := ⟨_, rfl⟩
 rw [← hE, ← hC]
 have lev := linC_lev c ws
 have sch := linC_sch c ws
 have rul := linC_rul c ws
 rw [← hE, ← hC] at lev sch rul
 unfold linC at hC
 rw [← hE] at hC
 unfold linE at hE
 unfold linA at hC
 obtain ⟨tt, pe, pr, mo, ls, ss⟩ := c
 simp only at hE hC lev sch rul p1 p2 ⊢
 obtain ⟨ld, hld⟩ : ∃ z, z = lvDs ls := ⟨_, rfl⟩
 obtain ⟨sd, hsd⟩ : ∃ z, z = smDs ss := ⟨_, rfl⟩
 obtain ⟨es, hes⟩ : ∃ z, z = strDs ws := ⟨_, rfl⟩
 rw [← hld, ← hsd, ← hes]
 have hes2 : unStr es = ws := by rw [hes, unStr_strDs]
 have hel : es.length = ws.length := by rw [hes, strDs_length]
 have qs : uNums es = true := by subst huNums huNums1 huNums2 huNums3 huNums4 huRLevel huRLevel1 huRLevel2 huRSchema huRSchema1 huRSchema2 huRRule huRRule1 huRRule2; rw [hes]; exact isStrs_strDs _
 have ql : uRLevel ld sd es = true := by
   subst huNums huNums1 huNums2 huNums3 huNums4 huRLevel huRLevel1 huRLevel2 huRSchema huRSchema1 huRSchema2 huRRule huRRule1 huRRule2
   rw [hes, hld, hsd]
   simp only [lcP, is_lv, is_sm, isStrs_strDs, Bool.true_and, lvDs_len]
   exact decide_eq_true p1
 have qc : uRSchema ld sd es = true := by
   subst huNums huNums1 huNums2 huNums3 huNums4 huRLevel huRLevel1 huRLevel2 huRSchema huRSchema1 huRSchema2 huRRule huRRule1 huRRule2
   rw [hes, hld, hsd]
   simp only [scP, is_lv, is_sm, isStrs_strDs, Bool.true_and, smDs_len]
   exact decide_eq_true p2
 have qr : uRRule ld sd es = true := by
   subst huNums huNums1 huNums2 huNums3 huNums4 huRLevel huRLevel1 huRLevel2 huRSchema huRSchema1 huRSchema2 huRRule huRRule1 huRRule2
   rw [hes, hld, hsd]
   simp only [rcP, is_lv, is_sm, isStrs_strDs, unStr_strDs, p3, Bool.true_and, smDs_len]
   exact decide_eq_true p2
 refine ESpec.enter Tryz.func38 (by kernel_rfl) rfl (Nat.le_of_ble_eq_true rfl) fun hok cx hnt hfr => ?_
 obtain ⟨F, hF⟩ := real_ex
 refine AK.runT hF tabOK hmix hnt hfr true _ hG ?_
 conv => arg 4; cbv
 have h0 : F .hasD es 0 [.str] = true := by rw [hes]; exact t_hasG hF (n := 0) (by omega)
 obtain ⟨w0, hw0⟩ : ∃ z, z = wAt ws 0 := ⟨_, rfl⟩
 rw [show F .strA es 0 0 = w0 by rw [hw0, hes]; exact w_at hF ws 0]
 rw [← hw0] at hE hC lev sch rul
 have S : ∀ a b : Wd, F .eqS a b = true → a = b := fun a b h => by rw [hF, f_eqS] at h; exact eq_of_beq h
 have NS : ∀ a b : Wd, F .eqS a b = false → a ≠ b := fun a b h e => by rw [hF, f_eqS, e] at h; simp at h
 have EI : ∀ a : Int, F .eqI a 0 = decide (a = 0) := fun a => by
   rw [hF, f_eqI]
   by_cases e : a = 0 <;> simp [e]
 have fin : ∀ (a b c d e : Int), C = ⟨a, b, c, d, ls, ss⟩ → E = e → (AV.tup [.d (.agg [.s (.int .i64 C.tt), .s (.int .i64 C.pe), .s (.int .i64 C.pr), .s (.int .i64 C.mo), .view 10 (lvDs C.ls), .view 5 (smDs C.ss)]), .d (.s (.int .i64 E))]) = .tup [.d (.agg [.s (.int .i64 a), .s (.int .i64 b), .s (.int .i64 c), .s (.int .i64 d), .view 10 ld, .view 5 sd]), .d (.s (.int .i64 e))] := fun a b c d e h1 h2 => by rw [h1, h2, hld, hsd]
 have f5 : F .eqI 5 0 = false := by rw [EI]; rfl
 refine AKt.need h0 fun _ => ?_
 refine AKt.node (fun k0 => ?_) (fun k0 => ?_)
 · have hw : w0 = TOTAL := S _ _ k0
   rw [if_pos hw] at hE
   rw [if_pos hw] at hC
   obtain ⟨ee, hee⟩ : ∃ z, z = uNums2 es 1 4096 := ⟨_, rfl⟩
   obtain ⟨vv, hvv⟩ : ∃ z, z = uNums1 es 1 4096 := ⟨_, rfl⟩
   rw [← hee, ← hvv]
   have hee2 : ee = if ws.length ≠ 2 then 2 else if numB (wAt ws 1) 1 4096 = false then 8 else 0 := by rw [hee, huNums2, n1E, hel, wS, hes2]
   have hvv2 : ee = 0 → vv = [.s (.int .i64 (numV (wAt ws 1) 1 4096))] := fun h => by rw [hvv, huNums1, n1V, ← huNums2, ← hee, if_pos h, wS, hes2]
   have hE2 : E = if ee = 0 then (if tt ≠ 0 then 5 else 0) else ee := by
     rw [hE, hee2, totE]
     split
     · rfl
     · split <;> rfl
   refine AKt.need qs fun _ => ?_
   by_cases z : ee = 0
   · have zb : F .eqI ee 0 = true := by rw [EI, decide_eq_true z]
     rw [if_pos z] at hE2
     by_cases t0 : tt = 0
     · have tb : F .not (F .eqI tt 0) = false := by rw [EI, decide_eq_true t0, hF]; rfl
       rw [if_neg (fun h => h t0)] at hE2
       have hv : F .hasD vv 0 [.int .i64] = true := by rw [hvv2 z, hF]; rfl
       have hi : F .intA vv 0 0 = numV (wAt ws 1) 1 4096 := by rw [hvv2 z, hF]; rfl
       rw [hi]
       rw [if_pos hE2] at hC
       repeat' (first|with_reducible (first|refine qAh ?_|refine qAt ?_|refine qAf ?_|refine qAy (by assumption) ?_|refine qAn (by assumption) ?_|refine qAd (fun hb => ?_) (fun hb => ?_)|refine qAe ?_ (fun hb => ?_)|refine qAl ?_)|((with_reducible show _=true); assumption))
       refine AKp.doneE tabOK hfr (by rfl) ?_
       show _ = _
       simp only [tupAV]
       rw [fin _ _ _ _ _ hC (hE2.trans z.symm)]
       rfl
     · have tb : F .not (F .eqI tt 0) = true := by rw [EI, decide_eq_false t0, hF]; rfl
       rw [if_pos t0] at hE2
       rw [if_neg (by rw [hE2]; decide)] at hC
       repeat' (first|with_reducible (first|refine qAh ?_|refine qAt ?_|refine qAf ?_|refine qAy (by assumption) ?_|refine qAn (by assumption) ?_|refine qAd (fun hb => ?_) (fun hb => ?_)|refine qAe ?_ (fun hb => ?_)|refine qAl ?_)|((with_reducible show _=true); assumption))
       refine AKp.doneE tabOK hfr (by rfl) ?_
       show _ = _
       simp only [tupAV]
       rw [fin _ _ _ _ _ hC hE2]
       rfl
   · have zb : F .eqI ee 0 = false := by rw [EI, decide_eq_false z]
     rw [if_neg z] at hE2
     rw [if_neg (by rw [hE2]; exact z)] at hC
     repeat' (first|with_reducible (first|refine qAh ?_|refine qAt ?_|refine qAf ?_|refine qAy (by assumption) ?_|refine qAn (by assumption) ?_|refine qAd (fun hb => ?_) (fun hb => ?_)|refine qAe ?_ (fun hb => ?_)|refine qAl ?_)|((with_reducible show _=true); assumption))
     refine AKp.doneE tabOK hfr (by rfl) ?_
     show _ = _
     simp only [tupAV]
     rw [fin _ _ _ _ _ hC hE2]
     rfl
 have xTOTAL : w0 ≠ TOTAL := NS _ _ k0
 rw [if_neg xTOTAL] at hE
 rw [if_neg xTOTAL] at hC
 refine AKt.node (fun k0 => ?_) (fun k0 => ?_)
 · have hw : w0 = PERIOD := S _ _ k0
   rw [if_pos hw] at hE
   rw [if_pos hw] at hC
   obtain ⟨ee, hee⟩ : ∃ z, z = uNums2 es 1 1000 := ⟨_, rfl⟩
   obtain ⟨vv, hvv⟩ : ∃ z, z = uNums1 es 1 1000 := ⟨_, rfl⟩
   rw [← hee, ← hvv]
   have hee2 : ee = if ws.length ≠ 2 then 2 else if numB (wAt ws 1) 1 1000 = false then 8 else 0 := by rw [hee, huNums2, n1E, hel, wS, hes2]
   have hvv2 : ee = 0 → vv = [.s (.int .i64 (numV (wAt ws 1) 1 1000))] := fun h => by rw [hvv, huNums1, n1V, ← huNums2, ← hee, if_pos h, wS, hes2]
   have hE2 : E = if ee = 0 then (if pe ≠ 0 then 5 else 0) else ee := by
     rw [hE, hee2, perE]
     split
     · rfl
     · split <;> rfl
   refine AKt.need qs fun _ => ?_
   by_cases z : ee = 0
   · have zb : F .eqI ee 0 = true := by rw [EI, decide_eq_true z]
     rw [if_pos z] at hE2
     by_cases t0 : pe = 0
     · have tb : F .not (F .eqI pe 0) = false := by rw [EI, decide_eq_true t0, hF]; rfl
       rw [if_neg (fun h => h t0)] at hE2
       have hv : F .hasD vv 0 [.int .i64] = true := by rw [hvv2 z, hF]; rfl
       have hi : F .intA vv 0 0 = numV (wAt ws 1) 1 1000 := by rw [hvv2 z, hF]; rfl
       rw [hi]
       rw [if_pos hE2] at hC
       repeat' (first|with_reducible (first|refine qAh ?_|refine qAt ?_|refine qAf ?_|refine qAy (by assumption) ?_|refine qAn (by assumption) ?_|refine qAd (fun hb => ?_) (fun hb => ?_)|refine qAe ?_ (fun hb => ?_)|refine qAl ?_)|((with_reducible show _=true); assumption))
       refine AKp.doneE tabOK hfr (by rfl) ?_
       show _ = _
       simp only [tupAV]
       rw [fin _ _ _ _ _ hC (hE2.trans z.symm)]
       rfl
     · have tb : F .not (F .eqI pe 0) = true := by rw [EI, decide_eq_false t0, hF]; rfl
       rw [if_pos t0] at hE2
       rw [if_neg (by rw [hE2]; decide)] at hC
       repeat' (first|with_reducible (first|refine qAh ?_|refine qAt ?_|refine qAf ?_|refine qAy (by assumption) ?_|refine qAn (by assumption) ?_|refine qAd (fun hb => ?_) (fun hb => ?_)|refine qAe ?_ (fun hb => ?_)|refine qAl ?_)|((with_reducible show _=true); assumption))
       refine AKp.doneE tabOK hfr (by rfl) ?_
       show _ = _
       simp only [tupAV]
       rw [fin _ _ _ _ _ hC hE2]
       rfl
   · have zb : F .eqI ee 0 = false := by rw [EI, decide_eq_false z]
     rw [if_neg z] at hE2
     rw [if_neg (by rw [hE2]; exact z)] at hC
     repeat' (first|with_reducible (first|refine qAh ?_|refine qAt ?_|refine qAf ?_|refine qAy (by assumption) ?_|refine qAn (by assumption) ?_|refine qAd (fun hb => ?_) (fun hb => ?_)|refine qAe ?_ (fun hb => ?_)|refine qAl ?_)|((with_reducible show _=true); assumption))
     refine AKp.doneE tabOK hfr (by rfl) ?_
     show _ = _
     simp only [tupAV]
     rw [fin _ _ _ _ _ hC hE2]
     rfl
 have xPERIOD : w0 ≠ PERIOD := NS _ _ k0
 rw [if_neg xPERIOD] at hE
 rw [if_neg xPERIOD] at hC
 refine AKt.node (fun k0 => ?_) (fun k0 => ?_)
 · have hw : w0 = SEATS := S _ _ k0
   rw [if_pos hw] at hE
   rw [if_pos hw] at hC
   obtain ⟨ee, hee⟩ : ∃ z, z = uNums4 es 1 1048576 1 16 := ⟨_, rfl⟩
   obtain ⟨vv, hvv⟩ : ∃ z, z = uNums3 es 1 1048576 1 16 := ⟨_, rfl⟩
   rw [← hee, ← hvv]
   have hee2 : ee = if ws.length ≠ 3 then 2 else if (numB (wAt ws 1) 1 1048576 && numB (wAt ws 2) 1 16) = false then 8 else 0 := by rw [hee, huNums4, n2E, hel, wS, wS, hes2]
   have hvv2 : ee = 0 → vv = [.s (.int .i64 (numV (wAt ws 1) 1 1048576)), .s (.int .i64 (numV (wAt ws 2) 1 16))] := fun h => by rw [hvv, huNums3, n2V, ← huNums4, ← hee, if_pos h, wS, wS, hes2]
   have hE2 : E = if ee = 0 then (if pr ≠ 0 then 5 else 0) else ee := by
     rw [hE, hee2, seaE]
     split
     · rfl
     · split <;> rfl
   refine AKt.need qs fun _ => ?_
   by_cases z : ee = 0
   · have zb : F .eqI ee 0 = true := by rw [EI, decide_eq_true z]
     rw [if_pos z] at hE2
     by_cases t0 : pr = 0
     · have tb : F .not (F .eqI pr 0) = false := by rw [EI, decide_eq_true t0, hF]; rfl
       rw [if_neg (fun h => h t0)] at hE2
       have hv : F .hasD vv 0 [.int .i64] = true := by rw [hvv2 z, hF]; rfl
       have hv1 : F .hasD vv 1 [.int .i64] = true := by rw [hvv2 z, hF]; rfl
       have hi : F .intA vv 0 0 = numV (wAt ws 1) 1 1048576 := by rw [hvv2 z, hF]; rfl
       have hi1 : F .intA vv 1 0 = numV (wAt ws 2) 1 16 := by rw [hvv2 z, hF]; rfl
       rw [hi, hi1]
       rw [if_pos hE2] at hC
       repeat' (first|with_reducible (first|refine qAh ?_|refine qAt ?_|refine qAf ?_|refine qAy (by assumption) ?_|refine qAn (by assumption) ?_|refine qAd (fun hb => ?_) (fun hb => ?_)|refine qAe ?_ (fun hb => ?_)|refine qAl ?_)|((with_reducible show _=true); assumption))
       refine AKp.doneE tabOK hfr (by rfl) ?_
       show _ = _
       simp only [tupAV]
       rw [fin _ _ _ _ _ hC (hE2.trans z.symm)]
       rfl
     · have tb : F .not (F .eqI pr 0) = true := by rw [EI, decide_eq_false t0, hF]; rfl
       rw [if_pos t0] at hE2
       rw [if_neg (by rw [hE2]; decide)] at hC
       repeat' (first|with_reducible (first|refine qAh ?_|refine qAt ?_|refine qAf ?_|refine qAy (by assumption) ?_|refine qAn (by assumption) ?_|refine qAd (fun hb => ?_) (fun hb => ?_)|refine qAe ?_ (fun hb => ?_)|refine qAl ?_)|((with_reducible show _=true); assumption))
       refine AKp.doneE tabOK hfr (by rfl) ?_
       show _ = _
       simp only [tupAV]
       rw [fin _ _ _ _ _ hC hE2]
       rfl
   · have zb : F .eqI ee 0 = false := by rw [EI, decide_eq_false z]
     rw [if_neg z] at hE2
     rw [if_neg (by rw [hE2]; exact z)] at hC
     repeat' (first|with_reducible (first|refine qAh ?_|refine qAt ?_|refine qAf ?_|refine qAy (by assumption) ?_|refine qAn (by assumption) ?_|refine qAd (fun hb => ?_) (fun hb => ?_)|refine qAe ?_ (fun hb => ?_)|refine qAl ?_)|((with_reducible show _=true); assumption))
     refine AKp.doneE tabOK hfr (by rfl) ?_
     show _ = _
     simp only [tupAV]
     rw [fin _ _ _ _ _ hC hE2]
     rfl
 have xSEATS : w0 ≠ SEATS := NS _ _ k0
 rw [if_neg xSEATS] at hE
 rw [if_neg xSEATS] at hC
 refine AKt.node (fun k0 => ?_) (fun k0 => ?_)
 · obtain ⟨g1, g2⟩ := lev (S _ _ k0)
   repeat' (first|with_reducible (first|refine qAh ?_|refine qAt ?_|refine qAf ?_|refine qAy (by assumption) ?_|refine qAn (by assumption) ?_|refine qAd (fun hb => ?_) (fun hb => ?_)|refine qAe ?_ (fun hb => ?_)|refine qAl ?_)|((with_reducible show _=true); assumption))
   refine AKp.doneE tabOK hfr (by rfl) ?_
   show _ = _
   simp only [tupAV]
   rw [g1, g2, huRLevel1, huRLevel2, lvRV, lvRE, hes2, hld, hsd, un_lv]
   rfl
 refine AKt.node (fun k1 => ?_) (fun k1 => ?_)
 · obtain ⟨g1, g2⟩ := sch (S _ _ k1)
   repeat' (first|with_reducible (first|refine qAh ?_|refine qAt ?_|refine qAf ?_|refine qAy (by assumption) ?_|refine qAn (by assumption) ?_|refine qAd (fun hb => ?_) (fun hb => ?_)|refine qAe ?_ (fun hb => ?_)|refine qAl ?_)|((with_reducible show _=true); assumption))
   refine AKp.doneE tabOK hfr (by rfl) ?_
   show _ = _
   simp only [tupAV]
   rw [g1, g2, huRSchema1, huRSchema2, smRV, smRE, hes2, hld, hsd, un_sm]
   rfl
 refine AKt.node (fun k2 => ?_) (fun k2 => ?_)
 · obtain ⟨g1, g2⟩ := rul (S _ _ k2)
   repeat' (first|with_reducible (first|refine qAh ?_|refine qAt ?_|refine qAf ?_|refine qAy (by assumption) ?_|refine qAn (by assumption) ?_|refine qAd (fun hb => ?_) (fun hb => ?_)|refine qAe ?_ (fun hb => ?_)|refine qAl ?_)|((with_reducible show _=true); assumption))
   refine AKp.doneE tabOK hfr (by rfl) ?_
   show _ = _
   simp only [tupAV]
   rw [g1, g2, huRRule1, huRRule2, rlRV, rlRE, hes2, hld, hsd, un_sm]
   rfl
 · have n0 : w0 ≠ LEVEL := NS _ _ k0
   have n1 : w0 ≠ SCHEMA := NS _ _ k1
   have n2 : w0 ≠ RULE := NS _ _ k2
   rw [if_neg n0, if_neg n1, if_neg n2] at hE
   rw [hE, if_neg (by decide)] at hC
   repeat' (first|with_reducible (first|refine qAh ?_|refine qAt ?_|refine qAf ?_|refine qAy (by assumption) ?_|refine qAn (by assumption) ?_|refine qAd (fun hb => ?_) (fun hb => ?_)|refine qAe ?_ (fun hb => ?_)|refine qAl ?_)|((with_reducible show _=true); assumption))
   refine AKp.doneE tabOK hfr (by rfl) ?_
   show _ = _
   simp only [tupAV]
   rw [fin _ _ _ _ _ hC hE]
   rfl
def cfU (a b c d : Int) (ls ss : List Dat) : Cf := ⟨a, b, c, d, unLv ls, unSm ss⟩
def lnP (a b c d : Int) (ls ss w : List Dat) : Bool := (isLv ls && isSm ss) && (isStrs w && linP (cfU a b c d ls ss) (unStr w))
theorem LineD_spec (a b c d : Int) (ls ss w : List Dat) (h : lnP a b c d ls ss w = true) : ESpec Tryz.prog 38 [.d (.agg [.s (.int .i64 a), .s (.int .i64 b), .s (.int .i64 c), .s (.int .i64 d), .view 10 ls, .view 5 ss]), .d (.view 1 w)] (fun x => x = .tup [.d (.agg [.s (.int .i64 (linC (cfU a b c d ls ss) (unStr w)).tt), .s (.int .i64 (linC (cfU a b c d ls ss) (unStr w)).pe), .s (.int .i64 (linC (cfU a b c d ls ss) (unStr w)).pr), .s (.int .i64 (linC (cfU a b c d ls ss) (unStr w)).mo), .view 10 (lvDs (linC (cfU a b c d ls ss) (unStr w)).ls), .view 5 (smDs (linC (cfU a b c d ls ss) (unStr w)).ss)]), .d (.s (.int .i64 (linE (cfU a b c d ls ss) (unStr w))))]) := by
 simp only [lnP, Bool.and_eq_true] at h
 have := Line_spec (cfU a b c d ls ss) (unStr w) h.2.2
 simp only [cfU, lv_un h.1.1, sm_un h.1.2, strDs_unStr h.2.1] at this
 exact this
def φRLine (p : Int → Int → Int → Int → List Dat → List Dat → List Dat → Bool) (u1 u2 u3 u4 : Int → Int → Int → Int → List Dat → List Dat → List Dat → Int) (u5 u6 : Int → Int → Int → Int → List Dat → List Dat → List Dat → List Dat) (e : Int → Int → Int → Int → List Dat → List Dat → List Dat → Int) : List AV → Option (Bool × AV)
 | [.d (.agg [.s (.int .i64 a), .s (.int .i64 b), .s (.int .i64 c), .s (.int .i64 d), .view 10 ls, .view 5 ss]), .d (.view 1 w)] => some (p a b c d ls ss w, .tup [.d (.agg [.s (.int .i64 (u1 a b c d ls ss w)), .s (.int .i64 (u2 a b c d ls ss w)), .s (.int .i64 (u3 a b c d ls ss w)), .s (.int .i64 (u4 a b c d ls ss w)), .view 10 (u5 a b c d ls ss w), .view 5 (u6 a b c d ls ss w)]), .d (.s (.int .i64 (e a b c d ls ss w)))])
 | _ => none
theorem φRLine_ok : SpOK Tryz.prog 38 (φRLine (lnP) (fun a b c d ls ss w => (linC (cfU a b c d ls ss) (unStr w)).tt) (fun a b c d ls ss w => (linC (cfU a b c d ls ss) (unStr w)).pe) (fun a b c d ls ss w => (linC (cfU a b c d ls ss) (unStr w)).pr) (fun a b c d ls ss w => (linC (cfU a b c d ls ss) (unStr w)).mo) (fun a b c d ls ss w => lvDs (linC (cfU a b c d ls ss) (unStr w)).ls) (fun a b c d ls ss w => smDs (linC (cfU a b c d ls ss) (unStr w)).ss) (fun a b c d ls ss w => linE (cfU a b c d ls ss) (unStr w))) := by
 intro xs b x h hb
 unfold φRLine at h
 split at h
 · simp only [Option.some.injEq, Prod.mk.injEq] at h
   obtain ⟨rfl, rfl⟩ := h
   exact LineD_spec _ _ _ _ _ _ _ hb
 · cases h
end Go.Proofs.YtpmpajodihpkaaaGreatDoor
namespace Go.Proofs.YtpmpajodihpkaaaGreatDoor
open Go Go.Proofs Go.Ua Go.Extern
set_option maxRecDepth 10000
theorem rdigits_spec (n : Int) : ESpec Tryz.prog 53 [.d (.s (.int .i64 n))] (fun x => x = .d (.s (.str (digR n)))) := by
 obtain ⟨uRefDigits, huRefDigits⟩ : ∃ u : Int → List UInt8, u = fun n => Lib.decDigits n.toNat := ⟨_, rfl⟩
 have hG : TblOK Tryz.prog [(67, .p (φRefDigits uRefDigits))] := ⟨(by rw [huRefDigits]; exact φRefDigits_ok), trivial⟩
 refine ESpec.enter Tryz.func53 (by kernel_rfl) rfl (Nat.le_of_ble_eq_true rfl) fun hok cx hnt hfr => ?_
 obtain ⟨F, hF⟩ := real_ex
 refine AK.runT hF tabOK hmix hnt hfr false _ hG ?_
 conv => arg 4; cbv
 repeat' (first|with_reducible (first|refine qAh ?_|refine qAt ?_|refine qAf ?_|refine qAy (by assumption) ?_|refine qAn (by assumption) ?_|refine qAd (fun hb => ?_) (fun hb => ?_)|refine qAe ?_ (fun hb => ?_)|refine qAl ?_)|((with_reducible show _=true); assumption))
 all_goals
   refine AKp.doneE tabOK hfr (by rfl) ?_
   show _ = _
   simp only [tupAV]
   subst huRefDigits
   simp only [hF, f_ltI, f_leI, f_eqI, f_eqS, f_eqB, f_not, f_andB, f_orB, f_lenS, f_lenD, f_hasS, f_atS, f_hasC, f_subS, f_hasCat, f_app, f_wrap, f_add, f_sub, f_mul, f_appD, f_fits, f_hasV, f_subV, decide_eq_true_eq, decide_eq_false_iff_not, beq_iff_eq, beq_eq_false_iff_ne, Bool.and_eq_true, Bool.and_eq_false_iff, Bool.not_eq_true, Bool.not_eq_false, Bool.not_eq_eq_eq_not, Bool.not_true, Bool.not_false] at *
   first
     | (simp [digR, digI, *]; done)
     | (rw [digR, if_neg (by omega)]; rfl)
def φRDig (u : Int → List UInt8) : List AV → Option (Bool × AV)
 | [.d (.s (.int .i64 n))] => some (true, .d (.s (.str (u n))))
 | _ => none
theorem φRDig_ok : SpOK Tryz.prog 53 (φRDig (digR)) := by
 intro xs b x h hb
 unfold φRDig at h
 split at h
 · simp only [Option.some.injEq, Prod.mk.injEq] at h
   obtain ⟨rfl, rfl⟩ := h
   exact rdigits_spec _
 · cases h
theorem rlist_spec (es : List Dat) (h : isStrs es = true) : ESpec Tryz.prog 54 [.d (.view 1 es)] (fun x => x = .d (.s (.str (lisR (unStr es))))) := by
 obtain ⟨uRefJoin, huRefJoin⟩ : ∃ u : List Dat → Bool, u = isStrs := ⟨_, rfl⟩
 obtain ⟨uRefJoin1, huRefJoin1⟩ : ∃ u : List Dat → List UInt8, u = fun l => joinF (unStr l) := ⟨_, rfl⟩
 have hG : TblOK Tryz.prog [(68, .p (φRefJoin uRefJoin uRefJoin1))] := ⟨(by rw [huRefJoin, huRefJoin1]; exact φRefJoin_ok), trivial⟩
 have q : uRefJoin es = true := by subst huRefJoin huRefJoin1; exact h
 refine ESpec.enter Tryz.func54 (by kernel_rfl) rfl (Nat.le_of_ble_eq_true rfl) fun hok cx hnt hfr => ?_
 obtain ⟨F, hF⟩ := real_ex
 refine AK.runT hF tabOK hmix hnt hfr false _ hG ?_
 conv => arg 4; cbv
 repeat' (first|with_reducible (first|refine qAh ?_|refine qAt ?_|refine qAf ?_|refine qAy (by assumption) ?_|refine qAn (by assumption) ?_|refine qAd (fun hb => ?_) (fun hb => ?_)|refine qAe ?_ (fun hb => ?_)|refine qAl ?_)|((with_reducible show _=true); assumption))
 all_goals
   refine AKp.doneE tabOK hfr (by rfl) ?_
   show _ = _
   simp only [tupAV]
   subst huRefJoin huRefJoin1
   simp only [hF, f_ltI, f_leI, f_eqI, f_eqS, f_eqB, f_not, f_andB, f_orB, f_lenS, f_lenD, f_hasS, f_atS, f_hasC, f_subS, f_hasCat, f_app, f_wrap, f_add, f_sub, f_mul, f_appD, f_fits, f_hasV, f_subV, decide_eq_true_eq, decide_eq_false_iff_not, beq_iff_eq, beq_eq_false_iff_ne, Bool.and_eq_true, Bool.and_eq_false_iff, Bool.not_eq_true, Bool.not_eq_false, Bool.not_eq_eq_eq_not, Bool.not_true, Bool.not_false] at *
   simp_all [lisR]
def φRLis (p : List Dat → Bool) (u : List Dat → List UInt8) : List AV → Option (Bool × AV)
 | [.d (.view 1 es)] => some (p es, .d (.s (.str (u es))))
 | _ => none
theorem φRLis_ok : SpOK Tryz.prog 54 (φRLis (isStrs) (fun es => lisR (unStr es))) := by
 intro xs b x h hb
 unfold φRLis at h
 split at h
 · simp only [Option.some.injEq, Prod.mk.injEq] at h
   obtain ⟨rfl, rfl⟩ := h
   exact rlist_spec _ hb
 · cases h
theorem digR_len {n : Int} (h : n ≤ 9223372036854775807) : (digR n).length ≤ 21 := by
 unfold digR
 split
 · simp
 · exact decDigits_le _ (by omega)
theorem good_len {l : List Wd} (h : goodF l = true) : (joinF l).length ≤ 520 := by
 unfold joinF
 rw [if_pos h]
 split
 · simp
 · obtain ⟨h1, h2⟩ := good_le h
   have := join_le l h2
   have h3 : 65 * l.length ≤ 65 * 8 := Nat.mul_le_mul_left _ h1
   omega
theorem lisR_len (l : List Wd) : (lisR l).length ≤ 520 := by
 unfold lisR
 cases hg : goodF l with
 | false =>
   have : joinF l = [] := by unfold joinF; rw [if_neg (by rw [hg]; decide)]
   rw [if_pos this]; simp
 | true =>
   split
   · simp
   · exact good_len hg
end Go.Proofs.YtpmpajodihpkaaaGreatDoor
