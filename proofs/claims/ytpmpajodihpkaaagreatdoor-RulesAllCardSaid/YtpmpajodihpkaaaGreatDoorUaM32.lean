/- The library of this claim and its walks, part 32, joined out of smaller texts. No statement stands in it. -/
import Derived.Test.YtpmpajodihpkaaaGreatDoorUaM28
import Derived.Test.YtpmpajodihpkaaaGreatDoorUaM31
set_option linter.unusedSimpArgs false
set_option linter.unusedVariables false
namespace Go.Proofs.YtpmpajodihpkaaaGreatDoor
open Go Go.Proofs Go.Ua Go.Extern
set_option maxRecDepth 10000
def rlvF (nm : Wd) (kd sh qu ha : Int) : Int :=
 if kd = 3 ∧ handsE qu ha ≠ 0 then handsE qu ha else if nm = wEx ∧ kd ≠ 1 then 11 else if nm = wCa ∧ (kd = 1 ∨ sh = 0) then 11 else 0
def rlvE (l : Lv) : Int := rlvF l.nm l.kd l.sh l.qu l.ha
theorem not_iff {F : Fam} (hF : F = Fam.real) {b : Bool} : (F .not b = true ↔ b = false) ∧ (F .not b = false ↔ b = true) := by
 rw [hF]
 show ((!b) = true ↔ b = false) ∧ ((!b) = false ↔ b = true)
 cases b <;> simp
theorem eqI_iff {F : Fam} (hF : F = Fam.real) {a b : Int} : (F .eqI a b = true ↔ a = b) ∧ (F .eqI a b = false ↔ ¬ a = b) := by
 rw [hF, f_eqI]; simp
theorem eqS_iff {F : Fam} (hF : F = Fam.real) {a b : Wd} : (F .eqS a b = true ↔ a = b) ∧ (F .eqS a b = false ↔ ¬ a = b) := by
 rw [hF, f_eqS]; simp
theorem rulevel_spec (x0 : Wd) (x1 x2 x3 x4 x5 x6 x7 x8 x9 : Int) : ESpec Tryz.prog 19 [.d (.agg [.s (.str x0), .s (.int .i64 x1), .s (.int .i64 x2), .s (.int .i64 x3), .s (.int .i64 x4), .s (.int .i64 x5), .s (.int .i64 x6), .s (.int .i64 x7), .s (.int .i64 x8), .s (.int .i64 x9)])] (fun x => x = .d (.s (.int .i64 (rlvF x0 x1 x2 x5 x6)))) := by
 obtain ⟨uHands, huHands⟩ : ∃ u : Int → Int → Int, u = handsV := ⟨_, rfl⟩
 obtain ⟨uHands1, huHands1⟩ : ∃ u : Int → Int → Int, u = handsE := ⟨_, rfl⟩
 have hG : TblOK Tryz.prog [(31, .p (φHands uHands uHands1))] := ⟨(by rw [huHands, huHands1]; exact φHands_ok), trivial⟩
 have he : ∀ a b, uHands1 a b = handsE a b := fun a b => by subst huHands huHands1; rfl
 refine ESpec.enter Tryz.func19 (by kernel_rfl) rfl (Nat.le_of_ble_eq_true rfl) fun hok cx hnt hfr => ?_
 obtain ⟨F, hF⟩ := real_ex
 refine AK.runT hF tabOK hmix hnt hfr true _ hG ?_
 conv => arg 4; cbv
 simp only [he]
 repeat' (first|with_reducible (first|refine qAh ?_|refine qAt ?_|refine qAf ?_|refine qAy (by assumption) ?_|refine qAn (by assumption) ?_|refine qAd (fun hb => ?_) (fun hb => ?_)|refine qAe ?_ (fun hb => ?_)|refine qAl ?_)|((with_reducible show _=true); assumption))
 all_goals refine AKp.doneE tabOK hfr (by rfl) ?_
           show _ = _
           simp only [tupAV]
 all_goals simp only [eqI_iff hF, eqS_iff hF, not_iff hF] at *
 all_goals refine congrArg (fun z => AV.d (.s (.int .i64 z))) ?_
 all_goals unfold rlvF wEx wCa
 all_goals simp_all
def φRuLevel (u : Wd → Int → Int → Int → Int → Int) : List AV → Option (Bool × AV)
 | [.d (.agg [.s (.str x0), .s (.int .i64 x1), .s (.int .i64 x2), .s (.int .i64 x3), .s (.int .i64 x4), .s (.int .i64 x5), .s (.int .i64 x6), .s (.int .i64 x7), .s (.int .i64 x8), .s (.int .i64 x9)])] => some (true, .d (.s (.int .i64 (u x0 x1 x2 x5 x6))))
 | _ => none
theorem φRuLevel_ok : SpOK Tryz.prog 19 (φRuLevel (rlvF)) := by
 intro xs b x h hb
 unfold φRuLevel at h
 split at h
 · simp only [Option.some.injEq, Prod.mk.injEq] at h
   obtain ⟨rfl, rfl⟩ := h
   exact rulevel_spec _ _ _ _ _ _ _ _ _ _
 · cases h
def isStar (es : List Dat) : Bool := decide (unStr es = star)
theorem isall_spec (es : List Dat) (hb : isStrs es = true) : ESpec Tryz.prog 51 [.d (.view 1 es)] (fun x => x = .d (.s (.bool (isStar es)))) := by
 have hG : TblOK Tryz.prog [] := trivial
 obtain ⟨l, hl⟩ : ∃ l, es = strDs l := ⟨unStr es, (strDs_unStr hb).symm⟩
 have hlen : es.length = l.length := by rw [hl, strDs_length]
 have hst : isStar es = decide (l = star) := by rw [isStar, hl, unStr_strDs]
 refine ESpec.enter Tryz.func51 (by kernel_rfl) rfl (Nat.le_of_ble_eq_true rfl) fun hok cx hnt hfr => ?_
 obtain ⟨F, hF⟩ := real_ex
 refine AK.runT hF tabOK hmix hnt hfr true _ hG ?_
 conv => arg 4; cbv
 refine AKt.node (fun hb => ?_) (fun hb => ?_)
 · have h1 : l.length = 1 := by rw [hF, f_eqI, f_lenD, hlen] at hb; have := eq_of_beq hb; omega
   obtain ⟨x, hx⟩ : ∃ x, l = [x] := by
     match l, h1 with
     | [x], _ => exact ⟨x, rfl⟩
   refine AKt.need (by rw [hl]; exact t_hasG hF (n := 0) (by omega)) fun _ => ?_
   rw [show F .strA es 0 0 = x by rw [hl]; exact (t_strG hF l 0).trans (by rw [hx]; rfl)]
   repeat' (first|with_reducible (first|refine qAh ?_|refine qAt ?_|refine qAf ?_|refine qAy (by assumption) ?_|refine qAn (by assumption) ?_|refine qAd (fun hb => ?_) (fun hb => ?_)|refine qAe ?_ (fun hb => ?_)|refine qAl ?_)|((with_reducible show _=true); assumption))
   refine AKp.doneE tabOK hfr (by rfl) ?_
   show _ = _
   simp only [tupAV]
   rw [hst, hx, hF, f_eqS]
   refine avb (Bool.eq_iff_iff.2 ?_)
   simp [star]
 · have h1 : ¬ l.length = 1 := by rw [hF, f_eqI, f_lenD, hlen] at hb; have := ne_of_beq_false hb; omega
   repeat' (first|with_reducible (first|refine qAh ?_|refine qAt ?_|refine qAf ?_|refine qAy (by assumption) ?_|refine qAn (by assumption) ?_|refine qAd (fun hb => ?_) (fun hb => ?_)|refine qAe ?_ (fun hb => ?_)|refine qAl ?_)|((with_reducible show _=true); assumption))
   refine AKp.doneE tabOK hfr (by rfl) ?_
   show _ = _
   simp only [tupAV]
   have hne : ¬ l = star := fun e => h1 (by rw [e]; rfl)
   rw [hst, decide_eq_false hne]
def φIsAll (p u : List Dat → Bool) : List AV → Option (Bool × AV)
 | [.d (.view 1 es)] => some (p es, .d (.s (.bool (u es))))
 | _ => none
theorem φIsAll_ok : SpOK Tryz.prog 51 (φIsAll (isStrs) (isStar)) := by
 intro xs b x h hb
 unfold φIsAll at h
 split at h
 · simp only [Option.some.injEq, Prod.mk.injEq] at h
   obtain ⟨rfl, rfl⟩ := h
   exact isall_spec _ hb
 · cases h
def allR (r : Rl) : Bool := decide (r.us = star) && (decide (r.vs = star) && (decide (r.rs = star) && decide (r.ps = star)))
theorem ofall_spec (a b c d e : List Dat) (hb : isR (.agg [.view 1 a, .view 1 b, .view 1 c, .view 1 d, .view 1 e]) = true) : ESpec Tryz.prog 34 [.d (.agg [.view 1 a, .view 1 b, .view 1 c, .view 1 d, .view 1 e])] (fun x => x = .d (.s (.bool (allR (unR (.agg [.view 1 a, .view 1 b, .view 1 c, .view 1 d, .view 1 e])))))) := by
 obtain ⟨uIsAll, huIsAll⟩ : ∃ u : List Dat → Bool, u = isStrs := ⟨_, rfl⟩
 obtain ⟨uIsAll1, huIsAll1⟩ : ∃ u : List Dat → Bool, u = isStar := ⟨_, rfl⟩
 have hG : TblOK Tryz.prog [(51, .p (φIsAll uIsAll uIsAll1))] := ⟨(by rw [huIsAll, huIsAll1]; exact φIsAll_ok), trivial⟩
 simp only [isR, Bool.and_eq_true] at hb
 obtain ⟨h1, h2, h3, h4, h5⟩ := hb
 have q1 : uIsAll a = true := by rw [huIsAll]; exact h1
 have q3 : uIsAll c = true := by rw [huIsAll]; exact h3
 have q4 : uIsAll d = true := by rw [huIsAll]; exact h4
 have q5 : uIsAll e = true := by rw [huIsAll]; exact h5
 refine ESpec.enter Tryz.func34 (by kernel_rfl) rfl (Nat.le_of_ble_eq_true rfl) fun hok cx hnt hfr => ?_
 obtain ⟨F, hF⟩ := real_ex
 refine AK.runT hF tabOK hmix hnt hfr true _ hG ?_
 conv => arg 4; cbv
 simp only [huIsAll1, isStar]
 repeat' (first|with_reducible (first|refine qAh ?_|refine qAt ?_|refine qAf ?_|refine qAy (by assumption) ?_|refine qAn (by assumption) ?_|refine qAd (fun hb => ?_) (fun hb => ?_)|refine qAe ?_ (fun hb => ?_)|refine qAl ?_)|((with_reducible show _=true); assumption))
 all_goals refine AKp.doneE tabOK hfr (by rfl) ?_
           show _ = _
           simp only [tupAV]
 all_goals refine avb ?_
 all_goals simp_all [allR, unR]
def allD (d : Dat) : Bool := allR (unR d)
def φOfAll (p u : List Dat → List Dat → List Dat → List Dat → List Dat → Bool) : List AV → Option (Bool × AV)
 | [.d (.agg [.view 1 a, .view 1 b, .view 1 c, .view 1 d, .view 1 e])] => some (p a b c d e, .d (.s (.bool (u a b c d e))))
 | _ => none
theorem φOfAll_ok : SpOK Tryz.prog 34 (φOfAll (fun a b c d e => isR (.agg [.view 1 a, .view 1 b, .view 1 c, .view 1 d, .view 1 e])) (fun a b c d e => allD (.agg [.view 1 a, .view 1 b, .view 1 c, .view 1 d, .view 1 e]))) := by
 intro xs b x h hb
 unfold φOfAll at h
 split at h
 · simp only [Option.some.injEq, Prod.mk.injEq] at h
   obtain ⟨rfl, rfl⟩ := h
   exact ofall_spec _ _ _ _ _ hb
 · cases h
set_option maxHeartbeats 2000000 in
theorem indexR_spec (ls : List Rl) : ESpec Tryz.prog 50 [.d (.view 5 (rlDs ls)), .d (.s (.fn 34))] (fun x => x = .d (.s (.int .i64 (idxF allR 0 ls)))) := by
 obtain ⟨uOfAll, huOfAll⟩ : ∃ u : List Dat → List Dat → List Dat → List Dat → List Dat → Bool, u = fun a b c d e => isR (.agg [.view 1 a, .view 1 b, .view 1 c, .view 1 d, .view 1 e]) := ⟨_, rfl⟩
 obtain ⟨uOfAll1, huOfAll1⟩ : ∃ u : List Dat → List Dat → List Dat → List Dat → List Dat → Bool, u = fun a b c d e => allD (.agg [.view 1 a, .view 1 b, .view 1 c, .view 1 d, .view 1 e]) := ⟨_, rfl⟩
 have hG : TblOK Tryz.prog [(34, .p (φOfAll uOfAll uOfAll1))] := ⟨(by rw [huOfAll, huOfAll1]; exact φOfAll_ok), trivial⟩
 obtain ⟨es, hes⟩ : ∃ z, z = rlDs ls := ⟨_, rfl⟩
 rw [← hes]
 have hl : es.length = ls.length := by rw [hes, rlDs_len]
 refine ESpec.enter Tryz.func50 (by kernel_rfl) rfl (Nat.le_of_ble_eq_true rfl) fun hok cx hnt hfr => ?_
 obtain ⟨F, hF⟩ := real_ex
 refine AK.runT hF tabOK hmix hnt hfr true _ hG ?_
 conv => arg 4; cbv
 have hlm : es.length ≤ maxLen := hok.1.1
 simp only [maxLen] at hlm
 repeat' (first|with_reducible (first|refine qAh ?_|refine qAt ?_|refine qAf ?_|refine qAy (by assumption) ?_|refine qAn (by assumption) ?_|refine qAd (fun hb => ?_) (fun hb => ?_)|refine qAe ?_ (fun hb => ?_)|refine qAl ?_)|((with_reducible show _=true); assumption))
 refine AKp.enterLoop 9 ?_
 conv => arg 7; cbv
 refine AKl.invT hF tabOK hmix hnt hfr true _ hG (fun n vs hs => ∃ (i : Nat) (iv : Int), i + n = ls.length ∧ iv = i ∧ idxF allR i (ls.drop i) = idxF allR 0 ls ∧ vs = [(8, .d (.s (.int .i64 iv)))] ∧ hs = []) ls.length ⟨0, _, by omega, rfl, rfl, rfl, rfl⟩ (by repeat (first | exact True.intro | refine ⟨⟨rfl, rfl⟩, ?_⟩)) (by repeat (first | exact True.intro | refine ⟨⟨rfl, rfl, rfl⟩, ?_⟩)) ?_
 rintro J n vs hs hJ ⟨i, iv, hi, hiv, hr, rfl, rfl⟩
 conv => arg 4; cbv
 refine AKt.node (fun hb => ?_) (fun hb => ?_)
 · have hlt : i < ls.length := by rw [hF, f_ltI, f_lenD, hl, hiv] at hb; have := of_decide_eq_true hb; omega
   obtain ⟨x, hx⟩ : ∃ x, ls[i]? = some x := ⟨_, List.getElem?_eq_getElem hlt⟩
   have hd : es[i]? = some x.dat := by rw [hes]; exact rlDs_get hx
   have hx_ : F .hasD es iv [.view 1, .view 1, .view 1, .view 1, .view 1] = true := t_hasD hF hd hiv rfl
   obtain ⟨x0, hx0⟩ : ∃ z, z = strDs x.us := ⟨_, rfl⟩
   try rw [show F .viewA es iv 0 = x0 by rw [hx0]; exact t_viewA hF hd hiv rfl]
   obtain ⟨x1, hx1⟩ : ∃ z, z = strDs x.gs := ⟨_, rfl⟩
   try rw [show F .viewA es iv 1 = x1 by rw [hx1]; exact t_viewA hF hd hiv rfl]
   obtain ⟨x2, hx2⟩ : ∃ z, z = strDs x.vs := ⟨_, rfl⟩
   try rw [show F .viewA es iv 2 = x2 by rw [hx2]; exact t_viewA hF hd hiv rfl]
   obtain ⟨x3, hx3⟩ : ∃ z, z = strDs x.rs := ⟨_, rfl⟩
   try rw [show F .viewA es iv 3 = x3 by rw [hx3]; exact t_viewA hF hd hiv rfl]
   obtain ⟨x4, hx4⟩ : ∃ z, z = strDs x.ps := ⟨_, rfl⟩
   try rw [show F .viewA es iv 4 = x4 by rw [hx4]; exact t_viewA hF hd hiv rfl]
   rw [idxF_drop hx] at hr
   have hxd : Dat.agg [.view 1 x0, .view 1 x1, .view 1 x2, .view 1 x3, .view 1 x4] = x.dat := by rw [hx0, hx1, hx2, hx3, hx4]; rfl
   have hq : uOfAll x0 x1 x2 x3 x4 = true := by rw [huOfAll]; show isR (.agg _) = true; rw [hxd, is_r]
   have hcl : uOfAll1 x0 x1 x2 x3 x4 = allR x := by rw [huOfAll1]; show allD (.agg _) = _; rw [hxd, allD, un_r]
   refine AKt.need hx_ fun _ => AKt.need hq fun _ => ?_
   rw [hcl]
   refine AKt.node (fun hb2 => ?_) (fun hb2 => ?_)
   · rw [if_pos hb2] at hr
     repeat' (first|with_reducible (first|refine qAh ?_|refine qAt ?_|refine qAf ?_|refine qAy (by assumption) ?_|refine qAn (by assumption) ?_|refine qAd (fun hb => ?_) (fun hb => ?_)|refine qAe ?_ (fun hb => ?_)|refine qAl ?_)|((with_reducible show _=true); assumption))
     refine AKp.doneE tabOK hfr (by rfl) ?_
     show _ = _
     simp only [tupAV]
     rw [← hr, hiv]
   · rw [if_neg (fun h => Bool.noConfusion (h.symm.trans hb2))] at hr
     repeat' (first|with_reducible (first|refine qAh ?_|refine qAt ?_|refine qAf ?_|refine qAy (by assumption) ?_|refine qAn (by assumption) ?_|refine qAd (fun hb => ?_) (fun hb => ?_)|refine qAe ?_ (fun hb => ?_)|refine qAl ?_)|((with_reducible show _=true); assumption))
     refine AKp.again _ hfr (by repeat (first | exact True.intro | refine ⟨⟨rfl, rfl⟩, ?_⟩)) (by repeat (first | exact True.intro | refine ⟨⟨rfl, rfl, rfl⟩, ?_⟩)) (hJ (n - 1) _ _ (by omega) ⟨i + 1, _, by omega, inc_i hF hiv (by omega), hr, rfl, rfl⟩)
 · have hge : ¬ i < ls.length := by rw [hF, f_ltI, f_lenD, hl, hiv] at hb; have := of_decide_eq_false hb; omega
   rw [idxF_end (by omega)] at hr
   repeat' (first|with_reducible (first|refine qAh ?_|refine qAt ?_|refine qAf ?_|refine qAy (by assumption) ?_|refine qAn (by assumption) ?_|refine qAd (fun hb => ?_) (fun hb => ?_)|refine qAe ?_ (fun hb => ?_)|refine qAl ?_)|((with_reducible show _=true); assumption))
   refine AKp.doneE tabOK hfr (by rfl) ?_
   show _ = _
   simp only [tupAV]
   rw [← hr]
theorem indexDR_spec (es : List Dat) (hb : isRl es = true) : ESpec Tryz.prog 50 [.d (.view 5 es), .d (.s (.fn 34))] (fun x => x = .d (.s (.int .i64 (idxF allR 0 (unRl es))))) := by
 have h := indexR_spec (unRl es)
 rw [rl_un hb] at h
 exact h
def φIxR (p : List Dat → Bool) (u : List Dat → Int) : List AV → Option (Bool × AV)
 | [.d (.view 5 es), .d (.s (.fn 34))] => some (p es, .d (.s (.int .i64 (u es))))
 | _ => none
theorem φIxR_ok : SpOK Tryz.prog 50 (φIxR (isRl) (fun es => idxF allR 0 (unRl es))) := by
 intro xs b x h hb
 unfold φIxR at h
 split at h
 · simp only [Option.some.injEq, Prod.mk.injEq] at h
   obtain ⟨rfl, rfl⟩ := h
   exact indexDR_spec _ hb
 · cases h
theorem hasR_spec (es : List Dat) (hb : isRl es = true) : ESpec Tryz.prog 33 [.d (.view 5 es), .d (.s (.fn 34))] (fun x => x = .d (.s (.bool ((unRl es).any allR)))) := by
 obtain ⟨uIxR, huIxR⟩ : ∃ u : List Dat → Bool, u = isRl := ⟨_, rfl⟩
 obtain ⟨uIxR1, huIxR1⟩ : ∃ u : List Dat → Int, u = fun es => idxF allR 0 (unRl es) := ⟨_, rfl⟩
 have hG : TblOK Tryz.prog [(50, .p (φIxR uIxR uIxR1))] := ⟨(by rw [huIxR, huIxR1]; exact φIxR_ok), trivial⟩
 have hq : uIxR es = true := by rw [huIxR]; exact hb
 have hv : uIxR1 es = idxF allR 0 (unRl es) := by rw [huIxR1]
 refine ESpec.enter Tryz.func33 (by kernel_rfl) rfl (Nat.le_of_ble_eq_true rfl) fun hok cx hnt hfr => ?_
 obtain ⟨F, hF⟩ := real_ex
 refine AK.runT hF tabOK hmix hnt hfr true _ hG ?_
 conv => arg 4; cbv
 repeat' (first|with_reducible (first|refine qAh ?_|refine qAt ?_|refine qAf ?_|refine qAy (by assumption) ?_|refine qAn (by assumption) ?_|refine qAd (fun hb => ?_) (fun hb => ?_)|refine qAe ?_ (fun hb => ?_)|refine qAl ?_)|((with_reducible show _=true); assumption))
 refine AKp.doneE tabOK hfr (by rfl) ?_
 show _ = _
 simp only [tupAV]
 rw [hv, hF]
 exact avb (by rw [f_leI]; exact idxF_any)
def φHasR (p u : List Dat → Bool) : List AV → Option (Bool × AV)
 | [.d (.view 5 es), .d (.s (.fn 34))] => some (p es, .d (.s (.bool (u es))))
 | _ => none
theorem φHasR_ok : SpOK Tryz.prog 33 (φHasR (isRl) (fun es => (unRl es).any allR)) := by
 intro xs b x h hb
 unfold φHasR at h
 split at h
 · simp only [Option.some.injEq, Prod.mk.injEq] at h
   obtain ⟨rfl, rfl⟩ := h
   exact hasR_spec _ hb
 · cases h
def rsmF (nm lv : Wd) (rk : Int) (rl : Bool) (has : Bool) : Int :=
 if has = false then 6 else if nm = wEx ∧ (lv ≠ wEx ∨ rk ≠ 1) then 11 else if nm = wCa ∧ (lv ≠ wCa ∨ rk ≠ 10000 ∨ rl = false) then 11 else 0
def rsmE (s : Sm) (ls : List Lv) : Int := rsmF s.nm s.lv s.rk (s.rl.any allR) (haveL s.lv ls)
def isRS (rs ls : List Dat) : Bool := isRl rs && isLv ls
def rsmD (nm lv : Wd) (rk : Int) (rs ls : List Dat) : Int := rsmF nm lv rk ((unRl rs).any allR) (haveL lv (unLv ls))
theorem ruschema_spec (nm lv : Wd) (rk bb : Int) (rs ls : List Dat) (hb : isRS rs ls = true) : ESpec Tryz.prog 20 [.d (.agg [.s (.str nm), .s (.str lv), .s (.int .i64 rk), .s (.int .i64 bb), .view 5 rs]), .d (.view 10 ls)] (fun x => x = .d (.s (.int .i64 (rsmD nm lv rk rs ls)))) := by
 obtain ⟨uThere, huThere⟩ : ∃ u : List Dat → Bool, u = isLv := ⟨_, rfl⟩
 obtain ⟨uThere1, huThere1⟩ : ∃ u : List Dat → Wd → Bool, u = fun es q => (unLv es).any (fun x : Lv => eqW x.nm q) := ⟨_, rfl⟩
 obtain ⟨uHasR, huHasR⟩ : ∃ u : List Dat → Bool, u = isRl := ⟨_, rfl⟩
 obtain ⟨uHasR1, huHasR1⟩ : ∃ u : List Dat → Bool, u = fun es => (unRl es).any allR := ⟨_, rfl⟩
 have hG : TblOK Tryz.prog [(32, .p (φThere uThere uThere1)), (33, .p (φHasR uHasR uHasR1))] := ⟨(by rw [huThere, huThere1]; exact φThere_ok), (by rw [huHasR, huHasR1]; exact φHasR_ok), trivial⟩
 rw [isRS, Bool.and_eq_true] at hb
 have q1 : uThere ls = true := by rw [huThere]; exact hb.2
 have q2 : uHasR rs = true := by rw [huHasR]; exact hb.1
 have v1 : uThere1 ls lv = haveL lv (unLv ls) := by rw [huThere1]; rfl
 have v2 : uHasR1 rs = (unRl rs).any allR := by rw [huHasR1]
 rw [rsmD, ← v1, ← v2]
 refine ESpec.enter Tryz.func20 (by kernel_rfl) rfl (Nat.le_of_ble_eq_true rfl) fun hok cx hnt hfr => ?_
 obtain ⟨F, hF⟩ := real_ex
 refine AK.runT hF tabOK hmix hnt hfr true _ hG ?_
 conv => arg 4; cbv
 repeat' (first|with_reducible (first|refine qAh ?_|refine qAt ?_|refine qAf ?_|refine qAy (by assumption) ?_|refine qAn (by assumption) ?_|refine qAd (fun hb => ?_) (fun hb => ?_)|refine qAe ?_ (fun hb => ?_)|refine qAl ?_)|((with_reducible show _=true); assumption))
 all_goals refine AKp.doneE tabOK hfr (by rfl) ?_
           show _ = _
           simp only [tupAV]
 all_goals simp only [eqI_iff hF, eqS_iff hF, not_iff hF] at *
 all_goals refine congrArg (fun z => AV.d (.s (.int .i64 z))) ?_
 all_goals unfold rsmF wEx wCa
 all_goals simp_all
def φRuSchema (p : List Dat → List Dat → Bool) (u : Wd → Wd → Int → List Dat → List Dat → Int) : List AV → Option (Bool × AV)
 | [.d (.agg [.s (.str nm), .s (.str lv), .s (.int .i64 rk), .s (.int .i64 bb), .view 5 rs]), .d (.view 10 ls)] => some (p rs ls, .d (.s (.int .i64 (u nm lv rk rs ls))))
 | _ => none
theorem φRuSchema_ok : SpOK Tryz.prog 20 (φRuSchema (isRS) (rsmD)) := by
 intro xs b x h hb
 unfold φRuSchema at h
 split at h
 · simp only [Option.some.injEq, Prod.mk.injEq] at h
   obtain ⟨rfl, rfl⟩ := h
   exact ruschema_spec _ _ _ _ _ _ hb
 · cases h
end Go.Proofs.YtpmpajodihpkaaaGreatDoor
namespace Go.Proofs.YtpmpajodihpkaaaGreatDoor
open Go Go.Proofs Go.Ua Go.Extern
def TOTAL : Wd := [116, 111, 116, 97, 108]
def PERIOD : Wd := [112, 101, 114, 105, 111, 100]
def SEATS : Wd := [115, 101, 97, 116, 115]
def LEVEL : Wd := [108, 101, 118, 101, 108]
def SCHEMA : Wd := [115, 99, 104, 101, 109, 97]
def RULE : Wd := [114, 117, 108, 101]
def EXEMPT : Wd := [101, 120, 101, 109, 112, 116]
def REJECT : Wd := [114, 101, 106, 101, 99, 116]
def QUEUE : Wd := [113, 117, 101, 117, 101]
def ALLW : Wd := [97, 108, 108]
def NONE : Wd := [110, 111, 110, 101]
def USER : Wd := [117, 115, 101, 114]
def SPACE : Wd := [115, 112, 97, 99, 101]
def wAt (w : List Wd) (i : Nat) : Wd := w.getD i []
def totE (c : Cf) (w : List Wd) : Int := if w.length ≠ 2 then 2 else if numB (wAt w 1) 1 4096 = false then 8 else if c.tt ≠ 0 then 5 else 0
def perE (c : Cf) (w : List Wd) : Int := if w.length ≠ 2 then 2 else if numB (wAt w 1) 1 1000 = false then 8 else if c.pe ≠ 0 then 5 else 0
def seaE (c : Cf) (w : List Wd) : Int := if w.length ≠ 3 then 2 else if (numB (wAt w 1) 1 1048576 && numB (wAt w 2) 1 16) = false then 8 else if c.pr ≠ 0 then 5 else 0
def kindL (w : List Wd) : Int := if w.length = 3 ∧ wAt w 2 = EXEMPT then 1 else if w.length = 6 ∧ wAt w 5 = REJECT then 2 else if w.length = 11 ∧ wAt w 5 = QUEUE then 3 else 0
def borB (x : Wd) : Bool := decide (x = ALLW) || numB x 0 1000
def borV (x : Wd) : Int := if x = ALLW then -1 else numV x 0 1000
def limB (w : List Wd) : Bool := numB (wAt w 2) 0 10000 && (numB (wAt w 3) 0 100 && borB (wAt w 4))
def queB (w : List Wd) : Bool := numB (wAt w 6) 1 64 && (numB (wAt w 7) 1 8 && (numB (wAt w 8) 1 64 && (numB (wAt w 9) 1 1000 && numB (wAt w 10) 1 1000)))
def lvOf (w : List Wd) : Lv :=
 if kindL w = 1 then ⟨wAt w 1, 1, 0, 0, 0, 0, 0, 0, 0, 0⟩
 else if kindL w = 2 then ⟨wAt w 1, 2, numV (wAt w 2) 0 10000, numV (wAt w 3) 0 100, borV (wAt w 4), 0, 0, 0, 0, 0⟩
 else ⟨wAt w 1, 3, numV (wAt w 2) 0 10000, numV (wAt w 3) 0 100, borV (wAt w 4), numV (wAt w 6) 1 64, numV (wAt w 7) 1 8, numV (wAt w 8) 1 64, numV (wAt w 9) 1 1000, numV (wAt w 10) 1 1000⟩
def hasL (l : List Lv) (n : Wd) : Bool := l.any fun x => decide (x.nm = n)
def hasM (l : List Sm) (n : Wd) : Bool := l.any fun x => decide (x.nm = n)
def levE (c : Cf) (w : List Wd) : Int :=
 if kindL w = 0 then 2 else if nameF (wAt w 1) = false then 4 else if kindL w ≠ 1 ∧ limB w = false then 8 else if kindL w = 3 ∧ queB w = false then 8
 else if hasL c.ls (wAt w 1) = true then 5 else if 16 ≤ c.ls.length then 3 else 0
def byB (x : Wd) : Bool := decide (x = NONE) || (decide (x = USER) || decide (x = SPACE))
def byV (x : Wd) : Int := if x = USER then 1 else if x = SPACE then 2 else 0
def smOf (w : List Wd) : Sm := ⟨wAt w 1, wAt w 2, numV (wAt w 3) 1 10000, byV (wAt w 4), []⟩
def schE (c : Cf) (w : List Wd) : Int :=
 if w.length ≠ 5 then 2 else if (nameF (wAt w 1) && nameF (wAt w 2)) = false then 4 else if numB (wAt w 3) 1 10000 = false then 8 else if byB (wAt w 4) = false then 2
 else if hasM c.ss (wAt w 1) = true then 5 else if 32 ≤ c.ss.length then 3 else 0
def lisV (x : Wd) : List Wd := (listF x).getD []
def rlOf (w : List Wd) : Rl := ⟨lisV (wAt w 1), lisV (wAt w 2), lisV (wAt w 3), lisV (wAt w 4), lisV (wAt w 5)⟩
def lisB (w : List Wd) : Bool := listB (wAt w 1) && (listB (wAt w 2) && (listB (wAt w 3) && (listB (wAt w 4) && listB (wAt w 5))))
def lastR (c : Cf) : List Rl := (c.ss.getLastD zeroS).rl
def rulE (c : Cf) (w : List Wd) : Int :=
 if w.length ≠ 6 ∨ c.ss = [] then 2 else if lisB w = false then 2 else if 8 ≤ (lastR c).length then 3 else 0
def addR (l : List Sm) (r : Rl) : List Sm := l.dropLast ++ [⟨(l.getLastD zeroS).nm, (l.getLastD zeroS).lv, (l.getLastD zeroS).rk, (l.getLastD zeroS).bb, (l.getLastD zeroS).rl ++ [r]⟩]
def linE (c : Cf) (w : List Wd) : Int :=
 if wAt w 0 = TOTAL then totE c w else if wAt w 0 = PERIOD then perE c w else if wAt w 0 = SEATS then seaE c w
 else if wAt w 0 = LEVEL then levE c w else if wAt w 0 = SCHEMA then schE c w else if wAt w 0 = RULE then rulE c w else 2
def linA (c : Cf) (w : List Wd) : Cf :=
 if wAt w 0 = TOTAL then { c with tt := numV (wAt w 1) 1 4096 } else if wAt w 0 = PERIOD then { c with pe := numV (wAt w 1) 1 1000 }
 else if wAt w 0 = SEATS then { c with pr := numV (wAt w 1) 1 1048576, mo := numV (wAt w 2) 1 16 }
 else if wAt w 0 = LEVEL then { c with ls := c.ls ++ [lvOf w] } else if wAt w 0 = SCHEMA then { c with ss := c.ss ++ [smOf w] } else { c with ss := addR c.ss (rlOf w) }
def linC (c : Cf) (w : List Wd) : Cf := if linE c w = 0 then linA c w else c
def inB (n a b : Int) : Bool := decide (a ≤ n) && decide (n ≤ b)
def levOK (l : Lv) : Bool := nameF l.nm &&
 (if l.kd = 1 then decide (l.sh = 0) && (decide (l.ld = 0) && (decide (l.bo = 0) && (decide (l.qu = 0) && (decide (l.ha = 0) && (decide (l.le = 0) && (decide (l.wa = 0) && decide (l.gu = 0)))))))
  else if l.kd = 2 then (decide (l.qu = 0) && (decide (l.ha = 0) && (decide (l.le = 0) && (decide (l.wa = 0) && decide (l.gu = 0))))) && (inB l.sh 0 10000 && (inB l.ld 0 100 && inB l.bo (-1) 1000))
  else if l.kd = 3 then (inB l.qu 1 64 && (inB l.ha 1 8 && (inB l.le 1 64 && (inB l.wa 1 1000 && inB l.gu 1 1000)))) && (inB l.sh 0 10000 && (inB l.ld 0 100 && inB l.bo (-1) 1000))
  else false)
def rlOK (r : Rl) : Bool := goodF r.us && (goodF r.gs && (goodF r.vs && (goodF r.rs && goodF r.ps)))
def smOK (s : Sm) : Bool := nameF s.nm && (nameF s.lv && (inB s.rk 1 10000 && (inB s.bb 0 2 && (decide (s.rl.length ≤ 8) && s.rl.all rlOK))))
def allL : List Lv → List Lv → Bool
 | _, [] => true
 | p, x :: r => levOK x && (!hasL p x.nm && allL (p ++ [x]) r)
def allM : List Sm → List Sm → Bool
 | _, [] => true
 | p, x :: r => smOK x && (!hasM p x.nm && allM (p ++ [x]) r)
def formC (c : Cf) : Bool := inB c.tt 0 4096 && (inB c.pe 0 1000 && (inB c.pr 0 1048576 && (inB c.mo 0 16 && (decide (c.pr = 0 ↔ c.mo = 0) && (decide (c.ls.length ≤ 16) && (decide (c.ss.length ≤ 32) && (allL [] c.ls && allM [] c.ss)))))))
theorem allL_app : ∀ (a p b : List Lv), allL p (a ++ b) = (allL p a && allL (p ++ a) b)
 | [], p, b => by simp [allL]
 | x :: a, p, b => by simp [allL, allL_app a, List.append_assoc, Bool.and_assoc]
theorem allM_app : ∀ (a p b : List Sm), allM p (a ++ b) = (allM p a && allM (p ++ a) b)
 | [], p, b => by simp [allM]
 | x :: a, p, b => by simp [allM, allM_app a, List.append_assoc, Bool.and_assoc]
theorem allL_snoc (a : List Lv) (x : Lv) : allL [] (a ++ [x]) = (allL [] a && (levOK x && !hasL a x.nm)) := by simp [allL_app, allL]
theorem allM_snoc (a : List Sm) (x : Sm) : allM [] (a ++ [x]) = (allM [] a && (smOK x && !hasM a x.nm)) := by simp [allM_app, allM]
theorem allL_take {l : List Lv} (h : allL [] l = true) (n : Nat) : allL [] (l.take n) = true := by
 rw [← List.take_append_drop n l, allL_app] at h
 simp only [Bool.and_eq_true] at h
 exact h.1
theorem allM_take {l : List Sm} (h : allM [] l = true) (n : Nat) : allM [] (l.take n) = true := by
 rw [← List.take_append_drop n l, allM_app] at h
 simp only [Bool.and_eq_true] at h
 exact h.1
theorem num_in {w : Wd} {a b : Int} (h : numB w a b = true) : inB (numV w a b) a b = true ∧ Lib.decDigits (numV w a b).toNat = w ∧ 0 ≤ numV w a b := by
 unfold numB at h
 unfold numV
 cases hn : numberF w a b with
 | none => rw [hn] at h; cases h
 | some v =>
   unfold numberF at hn
   split at hn
   · rename_i hc
     obtain rfl := Option.some.inj hn
     obtain ⟨h1, h2, h3⟩ := hc
     have hf := h1
     simp only [numForm, Bool.and_eq_true, decide_eq_true_eq] at h1
     refine ⟨?_, ?_, ?_⟩
     · simp only [Option.getD_some, inB, Bool.and_eq_true, decide_eq_true_eq]
       exact ⟨h2, h3⟩
     · simp only [Option.getD_some, Int.toNat_natCast]
       have := num_dig h1.2 h1.1.1.2
       rw [hf] at this
       exact of_decide_eq_true this.symm
     · simp
   · cases hn
theorem num_of {n : Int} {a b : Int} (ha : 0 ≤ a) (hb : b ≤ 999999999) (h : inB n a b = true) : numB (Lib.decDigits n.toNat) a b = true ∧ numV (Lib.decDigits n.toNat) a b = n := by
 simp only [inB, Bool.and_eq_true, decide_eq_true_eq] at h
 have h1 : numForm (Lib.decDigits n.toNat) = true := num_of_dig (by omega)
 have h2 : valN (Lib.decDigits n.toNat) = n.toNat := dig_val _
 have h3 : numberF (Lib.decDigits n.toNat) a b = some n := by
   unfold numberF
   rw [if_pos ⟨h1, by rw [h2]; omega, by rw [h2]; omega⟩, h2]
   congr 1
   omega
 unfold numB numV
 rw [h3]
 exact ⟨rfl, rfl⟩
theorem allW_no (a b : Int) : numB ALLW a b = false := by
 unfold numB numberF
 rw [if_neg]
 · rfl
 · rintro ⟨h, _⟩
   have : numForm ALLW = false := by decide
   rw [this] at h
   cases h
theorem lev_ok {c : Cf} {w : List Wd} (h : levE c w = 0) : levOK (lvOf w) = true ∧ hasL c.ls (lvOf w).nm = false ∧ c.ls.length < 16 := by
 unfold levE at h
 split at h; · cases h
 rename_i h0
 split at h; · cases h
 rename_i h1
 split at h; · cases h
 rename_i h2
 split at h; · cases h
 rename_i h3
 split at h; · cases h
 rename_i h4
 split at h; · cases h
 rename_i h5
 have hk : kindL w = 1 ∨ kindL w = 2 ∨ kindL w = 3 := by
   unfold kindL at h0 ⊢
   split
   · simp
   · split
     · simp
     · split
       · simp
       · rename_i a b c; rw [if_neg a, if_neg b, if_neg c] at h0; exact absurd rfl h0
 have hn : (lvOf w).nm = wAt w 1 := by unfold lvOf; split; rfl; split; rfl; rfl
 rw [hn]
 have h1' : nameF (wAt w 1) = true := by simpa using h1
 refine ⟨?_, by simpa using h4, by omega⟩
 unfold levOK
 rw [hn, h1', Bool.true_and]
 have lim : kindL w ≠ 1 → inB (numV (wAt w 2) 0 10000) 0 10000 = true ∧ inB (numV (wAt w 3) 0 100) 0 100 = true ∧ inB (borV (wAt w 4)) (-1) 1000 = true := fun hk1 => by
   have hl : limB w = true := by
     cases hl : limB w with
     | true => rfl
     | false => exact absurd ⟨hk1, hl⟩ h2
   simp only [limB, Bool.and_eq_true] at hl
   obtain ⟨g1, g2, g3⟩ := hl
   refine ⟨(num_in g1).1, (num_in g2).1, ?_⟩
   unfold borV
   split
   · rfl
   · rename_i hne
     unfold borB at g3
     rw [decide_eq_false hne, Bool.false_or] at g3
     have := (num_in g3).1
     simp only [inB, Bool.and_eq_true, decide_eq_true_eq] at this ⊢
     omega
 rcases hk with hk | hk | hk
 · have e : lvOf w = ⟨wAt w 1, 1, 0, 0, 0, 0, 0, 0, 0, 0⟩ := by unfold lvOf; rw [if_pos hk]
   rw [e]
   rfl
 · have e : lvOf w = ⟨wAt w 1, 2, numV (wAt w 2) 0 10000, numV (wAt w 3) 0 100, borV (wAt w 4), 0, 0, 0, 0, 0⟩ := by unfold lvOf; rw [if_neg (by rw [hk]; decide), if_pos hk]
   rw [e]
   obtain ⟨g1, g2, g3⟩ := lim (by rw [hk]; decide)
   simp [g1, g2, g3]
 · have e : lvOf w = ⟨wAt w 1, 3, numV (wAt w 2) 0 10000, numV (wAt w 3) 0 100, borV (wAt w 4), numV (wAt w 6) 1 64, numV (wAt w 7) 1 8, numV (wAt w 8) 1 64, numV (wAt w 9) 1 1000, numV (wAt w 10) 1 1000⟩ := by
     unfold lvOf; rw [if_neg (by rw [hk]; decide), if_neg (by rw [hk]; decide)]
   rw [e]
   obtain ⟨g1, g2, g3⟩ := lim (by rw [hk]; decide)
   have hq : queB w = true := by
     cases hq : queB w with
     | true => rfl
     | false => exact absurd ⟨hk, hq⟩ h3
   simp only [queB, Bool.and_eq_true] at hq
   obtain ⟨q1, q2, q3, q4, q5⟩ := hq
   simp [g1, g2, g3, (num_in q1).1, (num_in q2).1, (num_in q3).1, (num_in q4).1, (num_in q5).1]
theorem sch_ok {c : Cf} {w : List Wd} (h : schE c w = 0) : smOK (smOf w) = true ∧ hasM c.ss (smOf w).nm = false ∧ c.ss.length < 32 := by
 unfold schE at h
 split at h; · cases h
 rename_i h0
 split at h; · cases h
 rename_i h1
 split at h; · cases h
 rename_i h2
 split at h; · cases h
 rename_i h3
 split at h; · cases h
 rename_i h4
 split at h; · cases h
 rename_i h5
 simp only [Bool.not_eq_false, Bool.and_eq_true] at h1 h2 h3
 refine ⟨?_, by simpa [smOf] using h4, by omega⟩
 have hb : inB (byV (wAt w 4)) 0 2 = true := by
   unfold byV
   split
   · rfl
   · split <;> rfl
 simp [smOK, smOf, h1.1, h1.2, (num_in h2).1, hb]
theorem list_good {x : Wd} (h : listB x = true) : goodF (lisV x) = true ∧ joinF (lisV x) = x := by
 unfold listB at h
 unfold lisV
 cases hl : listF x with
 | none => rw [hl] at h; cases h
 | some m =>
   have hj := join_list hl
   refine ⟨?_, by simpa using hj⟩
   simp only [Option.getD_some]
   unfold listF at hl
   split at hl
   · obtain rfl := Option.some.inj hl
     rfl
   · split at hl
     · cases hl
     · split at hl
       · rename_i hg
         obtain rfl := Option.some.inj hl
         exact hg
       · cases hl
theorem last_split {l : List Sm} (h : l ≠ []) : l = l.dropLast ++ [l.getLastD zeroS] := by
 rw [List.getLastD_eq_getLast?, List.getLast?_eq_some_getLast h]
 exact (List.dropLast_concat_getLast h).symm
theorem line_formed {c : Cf} {w : List Wd} (hc : formC c = true) (h : linE c w = 0) : formC (linA c w) = true := by
 simp only [formC, Bool.and_eq_true, decide_eq_true_eq] at hc
 obtain ⟨c1, c2, c3, c4, c5, c6, c7, c8, c9⟩ := hc
 unfold linE at h
 unfold linA
 split at h
 · rename_i e
   rw [if_pos e]
   unfold totE at h
   split at h; · cases h
   split at h; · cases h
   rename_i h1
   simp only [formC, Bool.and_eq_true, decide_eq_true_eq]
   refine ⟨?_, c2, c3, c4, c5, c6, c7, c8, c9⟩
   have := (num_in (by simpa using h1)).1
   simp only [inB, Bool.and_eq_true, decide_eq_true_eq] at this ⊢
   omega
 split at h
 · rename_i e0 e
   rw [if_neg e0, if_pos e]
   unfold perE at h
   split at h; · cases h
   split at h; · cases h
   rename_i h1
   simp only [formC, Bool.and_eq_true, decide_eq_true_eq]
   refine ⟨c1, ?_, c3, c4, c5, c6, c7, c8, c9⟩
   have := (num_in (by simpa using h1)).1
   simp only [inB, Bool.and_eq_true, decide_eq_true_eq] at this ⊢
   omega
 split at h
 · rename_i e0 e1 e
   rw [if_neg e0, if_neg e1, if_pos e]
   unfold seaE at h
   split at h; · cases h
   split at h; · cases h
   rename_i h1
   simp only [Bool.not_eq_false, Bool.and_eq_true] at h1
   have g1 := (num_in h1.1).1
   have g2 := (num_in h1.2).1
   simp only [inB, Bool.and_eq_true, decide_eq_true_eq] at g1 g2
   simp only [formC, Bool.and_eq_true, decide_eq_true_eq]
   refine ⟨c1, c2, ?_, ?_, ?_, c6, c7, c8, c9⟩
   · simp only [inB, Bool.and_eq_true, decide_eq_true_eq]; omega
   · simp only [inB, Bool.and_eq_true, decide_eq_true_eq]; omega
   · constructor <;> intro <;> omega
 split at h
 · rename_i e0 e1 e2 e
   rw [if_neg e0, if_neg e1, if_neg e2, if_pos e]
   obtain ⟨g1, g2, g3⟩ := lev_ok h
   simp only [formC, Bool.and_eq_true, decide_eq_true_eq]
   refine ⟨c1, c2, c3, c4, c5, by simp; omega, c7, ?_, c9⟩
   rw [allL_snoc, c8, g1, g2]
   rfl
 split at h
 · rename_i e0 e1 e2 e3 e
   rw [if_neg e0, if_neg e1, if_neg e2, if_neg e3, if_pos e]
   obtain ⟨g1, g2, g3⟩ := sch_ok h
   simp only [formC, Bool.and_eq_true, decide_eq_true_eq]
   refine ⟨c1, c2, c3, c4, c5, c6, by simp; omega, c8, ?_⟩
   rw [allM_snoc, c9, g1, g2]
   rfl
 split at h
 · rename_i e0 e1 e2 e3 e4 e
   rw [if_neg e0, if_neg e1, if_neg e2, if_neg e3, if_neg e4]
   unfold rulE at h
   split at h; · cases h
   rename_i h0
   split at h; · cases h
   rename_i h1
   split at h; · cases h
   rename_i h2
   have hne : c.ss ≠ [] := fun e => h0 (.inr e)
   have hs := last_split hne
   simp only [formC, Bool.and_eq_true, decide_eq_true_eq]
   refine ⟨c1, c2, c3, c4, c5, c6, ?_, c8, ?_⟩
   · rw [hs] at c7
     simp only [addR, List.length_append, List.length_cons, List.length_nil] at c7 ⊢
     exact c7
   · rw [hs, allM_snoc] at c9
     simp only [Bool.and_eq_true] at c9
     obtain ⟨k1, k2, k3⟩ := c9
     rw [addR, allM_snoc, k1]
     simp only [Bool.true_and, Bool.and_eq_true]
     refine ⟨?_, k3⟩
     simp only [Bool.not_eq_false, lisB, Bool.and_eq_true] at h1
     obtain ⟨l1, l2, l3, l4, l5⟩ := h1
     have hr : rlOK (rlOf w) = true := by simp [rlOK, rlOf, (list_good l1).1, (list_good l2).1, (list_good l3).1, (list_good l4).1, (list_good l5).1]
     unfold lastR at h2
     simp only [smOK, Bool.and_eq_true, decide_eq_true_eq] at k2 ⊢
     obtain ⟨m1, m2, m3, m4, m5, m6⟩ := k2
     refine ⟨m1, m2, m3, m4, ?_, ?_⟩
     · simp only [List.length_append, List.length_cons, List.length_nil]; omega
     · rw [List.all_append, m6]; simp [hr]
 · cases h
end Go.Proofs.YtpmpajodihpkaaaGreatDoor
