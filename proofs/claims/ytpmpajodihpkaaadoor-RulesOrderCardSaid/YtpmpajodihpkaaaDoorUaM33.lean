/- The library of this claim and its walks, part 33, joined out of smaller texts. No statement stands in it. -/
import Derived.Test.YtpmpajodihpkaaaDoorUaM27
import Derived.Test.YtpmpajodihpkaaaDoorUaM32
/- rules: levels, schemas. -/
namespace Go.Proofs.YtpmpajodihpkaaaDoor
open Go Go.Proofs Go.Ua Go.Extern
set_option linter.unusedVariables false
set_option linter.unusedSimpArgs false
set_option maxRecDepth 10000
def rlvF (nm : Wd) (kd sh qu ha : Int) : Int :=
  if kd = 3 ∧ handsE qu ha ≠ 0 then handsE qu ha else if nm = wEx ∧ kd ≠ 1 then 11 else if nm = wCa ∧ (kd = 1 ∨ sh = 0) then 11 else 0
def rlvE (l : Lv) : Int := rlvF l.nm l.kd l.sh l.qu l.ha
theorem not_iff {F : Fam} (hF : F = Fam.real) {b : Bool} : (F .not b = true ↔ b = false) ∧ (F .not b = false ↔ b = true) := by
  rw [hF]
  show ((!b) = true ↔ b = false) ∧ ((!b) = false ↔ b = true)
  cases b <;> simp
theorem eqI_iff {F : Fam} (hF : F = Fam.real) {a b : Int} : (F .eqI a b = true ↔ a = b) ∧ (F .eqI a b = false ↔ ¬ a = b) := by
  rw [hF, f_eqI]; simp
theorem eqS_iff {F : Fam} (hF : F = Fam.real) {a b : Wd} : (F .eqS a b = true ↔ a = b) ∧ (F .eqS a b = false ↔ ¬ a = b) := by
  rw [hF, f_eqS]; simp
theorem rulevel_spec (x0 : Wd) (x1 x2 x3 x4 x5 x6 x7 x8 x9 : Int) : ESpec Tryd.prog 18 [.d (.agg [.s (.str x0), .s (.int .i64 x1), .s (.int .i64 x2), .s (.int .i64 x3), .s (.int .i64 x4), .s (.int .i64 x5), .s (.int .i64 x6), .s (.int .i64 x7), .s (.int .i64 x8), .s (.int .i64 x9)])] (fun x => x = .d (.s (.int .i64 (rlvF x0 x1 x2 x5 x6)))) := by
  obtain ⟨uHands, huHands⟩ : ∃ u : Int → Int → Int, u = handsV := ⟨_, rfl⟩
  obtain ⟨uHands1, huHands1⟩ : ∃ u : Int → Int → Int, u = handsE := ⟨_, rfl⟩
  have hG : TblOK Tryd.prog [(9, .p (φHands uHands uHands1))] := ⟨(by rw [huHands, huHands1]; exact φHands_ok), trivial⟩
  have he : ∀ a b, uHands1 a b = handsE a b := fun a b => by subst huHands huHands1; rfl
  refine ESpec.enter Tryd.func18 (by kernel_rfl) rfl (Nat.le_of_ble_eq_true rfl) fun hok cx hnt hfr => ?_
  obtain ⟨F, hF⟩ := real_ex
  refine AK.runT hF tabOK hmix hnt hfr true _ hG ?_
  conv => arg 4; cbv
  simp only [he]
  repeat' (first | with_reducible (first | refine AKt.have ?_ | refine AKt.tt ?_ | refine AKt.ff ?_ | refine AKt.yes (by assumption) ?_ | refine AKt.no (by assumption) ?_ | refine AKt.node (fun hb => ?_) (fun hb => ?_) | refine AKt.need ?_ (fun hb => ?_) | refine AKt.leaf ?_) | ((with_reducible show _ = true); assumption))
  all_goals refine AKp.doneE tabOK hfr (by rfl) ?_
            show _ = _
            simp only [tupAV]
  all_goals simp only [eqI_iff hF, eqS_iff hF, not_iff hF] at *
  all_goals refine congrArg (fun z => AV.d (.s (.int .i64 z))) ?_
  all_goals unfold rlvF wEx wCa
  all_goals simp_all
def φRuLevel (u : Wd → Int → Int → Int → Int → Int) : List AV → Option (Bool × AV)
  | [.d (.agg [.s (.str x0), .s (.int .i64 x1), .s (.int .i64 x2), .s (.int .i64 x3), .s (.int .i64 x4), .s (.int .i64 x5), .s (.int .i64 x6), .s (.int .i64 x7), .s (.int .i64 x8), .s (.int .i64 x9)])] => some (true, .d (.s (.int .i64 (u x0 x1 x2 x5 x6))))
  | _ => none
theorem φRuLevel_ok : SpOK Tryd.prog 18 (φRuLevel (rlvF)) := by
  intro xs b x h hb
  unfold φRuLevel at h
  split at h
  · simp only [Option.some.injEq, Prod.mk.injEq] at h
    obtain ⟨rfl, rfl⟩ := h
    exact rulevel_spec _ _ _ _ _ _ _ _ _ _
  · cases h
def isStar (es : List Dat) : Bool := decide (unStr es = star)
theorem isall_spec (es : List Dat) (hb : isStrs es = true) : ESpec Tryd.prog 42 [.d (.view 1 es)] (fun x => x = .d (.s (.bool (isStar es)))) := by
  have hG : TblOK Tryd.prog [] := trivial
  obtain ⟨l, hl⟩ : ∃ l, es = strDs l := ⟨unStr es, (strDs_unStr hb).symm⟩
  have hlen : es.length = l.length := by rw [hl, strDs_length]
  have hst : isStar es = decide (l = star) := by rw [isStar, hl, unStr_strDs]
  refine ESpec.enter Tryd.func42 (by kernel_rfl) rfl (Nat.le_of_ble_eq_true rfl) fun hok cx hnt hfr => ?_
  obtain ⟨F, hF⟩ := real_ex
  refine AK.runT hF tabOK hmix hnt hfr true _ hG ?_
  conv => arg 4; cbv
  refine AKt.node (fun hb => ?_) (fun hb => ?_)
  · have h1 : l.length = 1 := by rw [hF, f_eqI, f_lenD, hlen] at hb; have := eq_of_beq hb; omega
    obtain ⟨x, hx⟩ : ∃ x, l = [x] := by
      match l, h1 with
      | [x], _ => exact ⟨x, rfl⟩
    refine AKt.need (by rw [hl]; exact t_hasG hF (n := 0) (by omega)) fun _ => ?_
    rw [show F .strA es 0 0 = x by rw [hl]; exact (t_strG hF l 0).trans (by rw [hx]; rfl)]
    repeat' (first | with_reducible (first | refine AKt.have ?_ | refine AKt.tt ?_ | refine AKt.ff ?_ | refine AKt.yes (by assumption) ?_ | refine AKt.no (by assumption) ?_ | refine AKt.node (fun hb => ?_) (fun hb => ?_) | refine AKt.need ?_ (fun hb => ?_) | refine AKt.leaf ?_) | ((with_reducible show _ = true); assumption))
    refine AKp.doneE tabOK hfr (by rfl) ?_
    show _ = _
    simp only [tupAV]
    rw [hst, hx, hF, f_eqS]
    refine avb (Bool.eq_iff_iff.2 ?_)
    simp [star]
  · have h1 : ¬ l.length = 1 := by rw [hF, f_eqI, f_lenD, hlen] at hb; have := ne_of_beq_false hb; omega
    repeat' (first | with_reducible (first | refine AKt.have ?_ | refine AKt.tt ?_ | refine AKt.ff ?_ | refine AKt.yes (by assumption) ?_ | refine AKt.no (by assumption) ?_ | refine AKt.node (fun hb => ?_) (fun hb => ?_) | refine AKt.need ?_ (fun hb => ?_) | refine AKt.leaf ?_) | ((with_reducible show _ = true); assumption))
    refine AKp.doneE tabOK hfr (by rfl) ?_
    show _ = _
    simp only [tupAV]
    have hne : ¬ l = star := fun e => h1 (by rw [e]; rfl)
    rw [hst, decide_eq_false hne]
def φIsAll (p u : List Dat → Bool) : List AV → Option (Bool × AV)
  | [.d (.view 1 es)] => some (p es, .d (.s (.bool (u es))))
  | _ => none
theorem φIsAll_ok : SpOK Tryd.prog 42 (φIsAll (isStrs) (isStar)) := by
  intro xs b x h hb
  unfold φIsAll at h
  split at h
  · simp only [Option.some.injEq, Prod.mk.injEq] at h
    obtain ⟨rfl, rfl⟩ := h
    exact isall_spec _ hb
  · cases h
def allR (r : Rl) : Bool := decide (r.us = star) && (decide (r.vs = star) && (decide (r.rs = star) && decide (r.ps = star)))
theorem ofall_spec (a b c d e : List Dat) (hb : isR (.agg [.view 1 a, .view 1 b, .view 1 c, .view 1 d, .view 1 e]) = true) : ESpec Tryd.prog 29 [.d (.agg [.view 1 a, .view 1 b, .view 1 c, .view 1 d, .view 1 e])] (fun x => x = .d (.s (.bool (allR (unR (.agg [.view 1 a, .view 1 b, .view 1 c, .view 1 d, .view 1 e])))))) := by
  obtain ⟨uIsAll, huIsAll⟩ : ∃ u : List Dat → Bool, u = isStrs := ⟨_, rfl⟩
  obtain ⟨uIsAll1, huIsAll1⟩ : ∃ u : List Dat → Bool, u = isStar := ⟨_, rfl⟩
  have hG : TblOK Tryd.prog [(42, .p (φIsAll uIsAll uIsAll1))] := ⟨(by rw [huIsAll, huIsAll1]; exact φIsAll_ok), trivial⟩
  simp only [isR, Bool.and_eq_true] at hb
  obtain ⟨h1, h2, h3, h4, h5⟩ := hb
  have q1 : uIsAll a = true := by rw [huIsAll]; exact h1
  have q3 : uIsAll c = true := by rw [huIsAll]; exact h3
  have q4 : uIsAll d = true := by rw [huIsAll]; exact h4
  have q5 : uIsAll e = true := by rw [huIsAll]; exact h5
  refine ESpec.enter Tryd.func29 (by kernel_rfl) rfl (Nat.le_of_ble_eq_true rfl) fun hok cx hnt hfr => ?_
  obtain ⟨F, hF⟩ := real_ex
  refine AK.runT hF tabOK hmix hnt hfr true _ hG ?_
  conv => arg 4; cbv
  simp only [huIsAll1, isStar]
  repeat' (first | with_reducible (first | refine AKt.have ?_ | refine AKt.tt ?_ | refine AKt.ff ?_ | refine AKt.yes (by assumption) ?_ | refine AKt.no (by assumption) ?_ | refine AKt.node (fun hb => ?_) (fun hb => ?_) | refine AKt.need ?_ (fun hb => ?_) | refine AKt.leaf ?_) | ((with_reducible show _ = true); assumption))
  all_goals refine AKp.doneE tabOK hfr (by rfl) ?_
            show _ = _
            simp only [tupAV]
  all_goals refine avb ?_
  all_goals simp_all [allR, unR]
def allD (d : Dat) : Bool := allR (unR d)
def φOfAll (p u : List Dat → List Dat → List Dat → List Dat → List Dat → Bool) : List AV → Option (Bool × AV)
  | [.d (.agg [.view 1 a, .view 1 b, .view 1 c, .view 1 d, .view 1 e])] => some (p a b c d e, .d (.s (.bool (u a b c d e))))
  | _ => none
theorem φOfAll_ok : SpOK Tryd.prog 29 (φOfAll (fun a b c d e => isR (.agg [.view 1 a, .view 1 b, .view 1 c, .view 1 d, .view 1 e])) (fun a b c d e => allD (.agg [.view 1 a, .view 1 b, .view 1 c, .view 1 d, .view 1 e]))) := by
  intro xs b x h hb
  unfold φOfAll at h
  split at h
  · simp only [Option.some.injEq, Prod.mk.injEq] at h
    obtain ⟨rfl, rfl⟩ := h
    exact ofall_spec _ _ _ _ _ hb
  · cases h
set_option maxHeartbeats 2000000 in
theorem indexR_spec (ls : List Rl) : ESpec Tryd.prog 41 [.d (.view 5 (rlDs ls)), .d (.s (.fn 29))] (fun x => x = .d (.s (.int .i64 (idxF allR 0 ls)))) := by
  obtain ⟨uOfAll, huOfAll⟩ : ∃ u : List Dat → List Dat → List Dat → List Dat → List Dat → Bool, u = fun a b c d e => isR (.agg [.view 1 a, .view 1 b, .view 1 c, .view 1 d, .view 1 e]) := ⟨_, rfl⟩
  obtain ⟨uOfAll1, huOfAll1⟩ : ∃ u : List Dat → List Dat → List Dat → List Dat → List Dat → Bool, u = fun a b c d e => allD (.agg [.view 1 a, .view 1 b, .view 1 c, .view 1 d, .view 1 e]) := ⟨_, rfl⟩
  have hG : TblOK Tryd.prog [(29, .p (φOfAll uOfAll uOfAll1))] := ⟨(by rw [huOfAll, huOfAll1]; exact φOfAll_ok), trivial⟩
  obtain ⟨es, hes⟩ : ∃ z, z = rlDs ls := ⟨_, rfl⟩
  rw [← hes]
  have hl : es.length = ls.length := by rw [hes, rlDs_len]
  refine ESpec.enter Tryd.func41 (by kernel_rfl) rfl (Nat.le_of_ble_eq_true rfl) fun hok cx hnt hfr => ?_
  obtain ⟨F, hF⟩ := real_ex
  refine AK.runT hF tabOK hmix hnt hfr true _ hG ?_
  conv => arg 4; cbv
  have hlm : es.length ≤ maxLen := hok.1.1
  simp only [maxLen] at hlm
  repeat' (first | with_reducible (first | refine AKt.have ?_ | refine AKt.tt ?_ | refine AKt.ff ?_ | refine AKt.yes (by assumption) ?_ | refine AKt.no (by assumption) ?_ | refine AKt.node (fun hb => ?_) (fun hb => ?_) | refine AKt.need ?_ (fun hb => ?_) | refine AKt.leaf ?_) | ((with_reducible show _ = true); assumption))
  refine AKp.enterLoop 9 ?_
  conv => arg 7; cbv
  refine AKl.invT hF tabOK hmix hnt hfr true _ hG (fun n vs hs => ∃ (i : Nat) (iv : Int), i + n = ls.length ∧ iv = i ∧ idxF allR i (ls.drop i) = idxF allR 0 ls ∧ vs = [(8, .d (.s (.int .i64 iv)))] ∧ hs = []) ls.length ⟨0, _, by omega, rfl, rfl, rfl, rfl⟩ (by repeat (first | exact True.intro | refine ⟨⟨rfl, rfl⟩, ?_⟩)) (by repeat (first | exact True.intro | refine ⟨⟨rfl, rfl, rfl⟩, ?_⟩)) ?_
  rintro J n vs hs hJ ⟨i, iv, hi, hiv, hr, rfl, rfl⟩
  conv => arg 4; cbv
  refine AKt.node (fun hb => ?_) (fun hb => ?_)
  · have hlt : i < ls.length := by rw [hF, f_ltI, f_lenD, hl, hiv] at hb; have := of_decide_eq_true hb; omega
    obtain ⟨x, hx⟩ : ∃ x, ls[i]? = some x := ⟨_, List.getElem?_eq_getElem hlt⟩
    have hd : es[i]? = some x.dat := by rw [hes]; exact rlDs_get hx
    have hx_ : F .hasD es iv [.view 1, .view 1, .view 1, .view 1, .view 1] = true := t_hasD hF hd hiv rfl
    obtain ⟨x0, hx0⟩ : ∃ z, z = strDs x.us := ⟨_, rfl⟩
    try rw [show F .viewA es iv 0 = x0 by rw [hx0]; exact t_viewA hF hd hiv rfl]
    obtain ⟨x1, hx1⟩ : ∃ z, z = strDs x.gs := ⟨_, rfl⟩
    try rw [show F .viewA es iv 1 = x1 by rw [hx1]; exact t_viewA hF hd hiv rfl]
    obtain ⟨x2, hx2⟩ : ∃ z, z = strDs x.vs := ⟨_, rfl⟩
    try rw [show F .viewA es iv 2 = x2 by rw [hx2]; exact t_viewA hF hd hiv rfl]
    obtain ⟨x3, hx3⟩ : ∃ z, z = strDs x.rs := ⟨_, rfl⟩
    try rw [show F .viewA es iv 3 = x3 by rw [hx3]; exact t_viewA hF hd hiv rfl]
    obtain ⟨x4, hx4⟩ : ∃ z, z = strDs x.ps := ⟨_, rfl⟩
    try rw [show F .viewA es iv 4 = x4 by rw [hx4]; exact t_viewA hF hd hiv rfl]
    rw [idxF_drop hx] at hr
    have hxd : Dat.agg [.view 1 x0, .view 1 x1, .view 1 x2, .view 1 x3, .view 1 x4] = x.dat := by rw [hx0, hx1, hx2, hx3, hx4]; rfl
    have hq : uOfAll x0 x1 x2 x3 x4 = true := by rw [huOfAll]; show isR (.agg _) = true; rw [hxd, is_r]
    have hcl : uOfAll1 x0 x1 x2 x3 x4 = allR x := by rw [huOfAll1]; show allD (.agg _) = _; rw [hxd, allD, un_r]
    refine AKt.need hx_ fun _ => AKt.need hq fun _ => ?_
    rw [hcl]
    refine AKt.node (fun hb2 => ?_) (fun hb2 => ?_)
    · rw [if_pos hb2] at hr
      repeat' (first | with_reducible (first | refine AKt.have ?_ | refine AKt.tt ?_ | refine AKt.ff ?_ | refine AKt.yes (by assumption) ?_ | refine AKt.no (by assumption) ?_ | refine AKt.node (fun hb => ?_) (fun hb => ?_) | refine AKt.need ?_ (fun hb => ?_) | refine AKt.leaf ?_) | ((with_reducible show _ = true); assumption))
      refine AKp.doneE tabOK hfr (by rfl) ?_
      show _ = _
      simp only [tupAV]
      rw [← hr, hiv]
    · rw [if_neg (fun h => Bool.noConfusion (h.symm.trans hb2))] at hr
      repeat' (first | with_reducible (first | refine AKt.have ?_ | refine AKt.tt ?_ | refine AKt.ff ?_ | refine AKt.yes (by assumption) ?_ | refine AKt.no (by assumption) ?_ | refine AKt.node (fun hb => ?_) (fun hb => ?_) | refine AKt.need ?_ (fun hb => ?_) | refine AKt.leaf ?_) | ((with_reducible show _ = true); assumption))
      refine AKp.again _ hfr (by repeat (first | exact True.intro | refine ⟨⟨rfl, rfl⟩, ?_⟩)) (by repeat (first | exact True.intro | refine ⟨⟨rfl, rfl, rfl⟩, ?_⟩)) (hJ (n - 1) _ _ (by omega) ⟨i + 1, _, by omega, inc_i hF hiv (by omega), hr, rfl, rfl⟩)
  · have hge : ¬ i < ls.length := by rw [hF, f_ltI, f_lenD, hl, hiv] at hb; have := of_decide_eq_false hb; omega
    rw [idxF_end (by omega)] at hr
    repeat' (first | with_reducible (first | refine AKt.have ?_ | refine AKt.tt ?_ | refine AKt.ff ?_ | refine AKt.yes (by assumption) ?_ | refine AKt.no (by assumption) ?_ | refine AKt.node (fun hb => ?_) (fun hb => ?_) | refine AKt.need ?_ (fun hb => ?_) | refine AKt.leaf ?_) | ((with_reducible show _ = true); assumption))
    refine AKp.doneE tabOK hfr (by rfl) ?_
    show _ = _
    simp only [tupAV]
    rw [← hr]
theorem indexDR_spec (es : List Dat) (hb : isRl es = true) : ESpec Tryd.prog 41 [.d (.view 5 es), .d (.s (.fn 29))] (fun x => x = .d (.s (.int .i64 (idxF allR 0 (unRl es))))) := by
  have h := indexR_spec (unRl es)
  rw [rl_un hb] at h
  exact h
def φIxR (p : List Dat → Bool) (u : List Dat → Int) : List AV → Option (Bool × AV)
  | [.d (.view 5 es), .d (.s (.fn 29))] => some (p es, .d (.s (.int .i64 (u es))))
  | _ => none
theorem φIxR_ok : SpOK Tryd.prog 41 (φIxR (isRl) (fun es => idxF allR 0 (unRl es))) := by
  intro xs b x h hb
  unfold φIxR at h
  split at h
  · simp only [Option.some.injEq, Prod.mk.injEq] at h
    obtain ⟨rfl, rfl⟩ := h
    exact indexDR_spec _ hb
  · cases h
theorem hasR_spec (es : List Dat) (hb : isRl es = true) : ESpec Tryd.prog 28 [.d (.view 5 es), .d (.s (.fn 29))] (fun x => x = .d (.s (.bool ((unRl es).any allR)))) := by
  obtain ⟨uIxR, huIxR⟩ : ∃ u : List Dat → Bool, u = isRl := ⟨_, rfl⟩
  obtain ⟨uIxR1, huIxR1⟩ : ∃ u : List Dat → Int, u = fun es => idxF allR 0 (unRl es) := ⟨_, rfl⟩
  have hG : TblOK Tryd.prog [(41, .p (φIxR uIxR uIxR1))] := ⟨(by rw [huIxR, huIxR1]; exact φIxR_ok), trivial⟩
  have hq : uIxR es = true := by rw [huIxR]; exact hb
  have hv : uIxR1 es = idxF allR 0 (unRl es) := by rw [huIxR1]
  refine ESpec.enter Tryd.func28 (by kernel_rfl) rfl (Nat.le_of_ble_eq_true rfl) fun hok cx hnt hfr => ?_
  obtain ⟨F, hF⟩ := real_ex
  refine AK.runT hF tabOK hmix hnt hfr true _ hG ?_
  conv => arg 4; cbv
  repeat' (first | with_reducible (first | refine AKt.have ?_ | refine AKt.tt ?_ | refine AKt.ff ?_ | refine AKt.yes (by assumption) ?_ | refine AKt.no (by assumption) ?_ | refine AKt.node (fun hb => ?_) (fun hb => ?_) | refine AKt.need ?_ (fun hb => ?_) | refine AKt.leaf ?_) | ((with_reducible show _ = true); assumption))
  refine AKp.doneE tabOK hfr (by rfl) ?_
  show _ = _
  simp only [tupAV]
  rw [hv, hF]
  exact avb (by rw [f_leI]; exact idxF_any)
def φHasR (p u : List Dat → Bool) : List AV → Option (Bool × AV)
  | [.d (.view 5 es), .d (.s (.fn 29))] => some (p es, .d (.s (.bool (u es))))
  | _ => none
theorem φHasR_ok : SpOK Tryd.prog 28 (φHasR (isRl) (fun es => (unRl es).any allR)) := by
  intro xs b x h hb
  unfold φHasR at h
  split at h
  · simp only [Option.some.injEq, Prod.mk.injEq] at h
    obtain ⟨rfl, rfl⟩ := h
    exact hasR_spec _ hb
  · cases h
def rsmF (nm lv : Wd) (rk : Int) (rl : Bool) (has : Bool) : Int :=
  if has = false then 6 else if nm = wEx ∧ (lv ≠ wEx ∨ rk ≠ 1) then 11 else if nm = wCa ∧ (lv ≠ wCa ∨ rk ≠ 10000 ∨ rl = false) then 11 else 0
def rsmE (s : Sm) (ls : List Lv) : Int := rsmF s.nm s.lv s.rk (s.rl.any allR) (haveL s.lv ls)
def isRS (rs ls : List Dat) : Bool := isRl rs && isLv ls
def rsmD (nm lv : Wd) (rk : Int) (rs ls : List Dat) : Int := rsmF nm lv rk ((unRl rs).any allR) (haveL lv (unLv ls))
theorem ruschema_spec (nm lv : Wd) (rk bb : Int) (rs ls : List Dat) (hb : isRS rs ls = true) : ESpec Tryd.prog 19 [.d (.agg [.s (.str nm), .s (.str lv), .s (.int .i64 rk), .s (.int .i64 bb), .view 5 rs]), .d (.view 10 ls)] (fun x => x = .d (.s (.int .i64 (rsmD nm lv rk rs ls)))) := by
  obtain ⟨uThere, huThere⟩ : ∃ u : List Dat → Bool, u = isLv := ⟨_, rfl⟩
  obtain ⟨uThere1, huThere1⟩ : ∃ u : List Dat → Wd → Bool, u = fun es q => (unLv es).any (fun x : Lv => eqW x.nm q) := ⟨_, rfl⟩
  obtain ⟨uHasR, huHasR⟩ : ∃ u : List Dat → Bool, u = isRl := ⟨_, rfl⟩
  obtain ⟨uHasR1, huHasR1⟩ : ∃ u : List Dat → Bool, u = fun es => (unRl es).any allR := ⟨_, rfl⟩
  have hG : TblOK Tryd.prog [(27, .p (φThere uThere uThere1)), (28, .p (φHasR uHasR uHasR1))] := ⟨(by rw [huThere, huThere1]; exact φThere_ok), (by rw [huHasR, huHasR1]; exact φHasR_ok), trivial⟩
  rw [isRS, Bool.and_eq_true] at hb
  have q1 : uThere ls = true := by rw [huThere]; exact hb.2
  have q2 : uHasR rs = true := by rw [huHasR]; exact hb.1
  have v1 : uThere1 ls lv = haveL lv (unLv ls) := by rw [huThere1]; rfl
  have v2 : uHasR1 rs = (unRl rs).any allR := by rw [huHasR1]
  rw [rsmD, ← v1, ← v2]
  refine ESpec.enter Tryd.func19 (by kernel_rfl) rfl (Nat.le_of_ble_eq_true rfl) fun hok cx hnt hfr => ?_
  obtain ⟨F, hF⟩ := real_ex
  refine AK.runT hF tabOK hmix hnt hfr true _ hG ?_
  conv => arg 4; cbv
  repeat' (first | with_reducible (first | refine AKt.have ?_ | refine AKt.tt ?_ | refine AKt.ff ?_ | refine AKt.yes (by assumption) ?_ | refine AKt.no (by assumption) ?_ | refine AKt.node (fun hb => ?_) (fun hb => ?_) | refine AKt.need ?_ (fun hb => ?_) | refine AKt.leaf ?_) | ((with_reducible show _ = true); assumption))
  all_goals refine AKp.doneE tabOK hfr (by rfl) ?_
            show _ = _
            simp only [tupAV]
  all_goals simp only [eqI_iff hF, eqS_iff hF, not_iff hF] at *
  all_goals refine congrArg (fun z => AV.d (.s (.int .i64 z))) ?_
  all_goals unfold rsmF wEx wCa
  all_goals simp_all
def φRuSchema (p : List Dat → List Dat → Bool) (u : Wd → Wd → Int → List Dat → List Dat → Int) : List AV → Option (Bool × AV)
  | [.d (.agg [.s (.str nm), .s (.str lv), .s (.int .i64 rk), .s (.int .i64 bb), .view 5 rs]), .d (.view 10 ls)] => some (p rs ls, .d (.s (.int .i64 (u nm lv rk rs ls))))
  | _ => none
theorem φRuSchema_ok : SpOK Tryd.prog 19 (φRuSchema (isRS) (rsmD)) := by
  intro xs b x h hb
  unfold φRuSchema at h
  split at h
  · simp only [Option.some.injEq, Prod.mk.injEq] at h
    obtain ⟨rfl, rfl⟩ := h
    exact ruschema_spec _ _ _ _ _ _ hb
  · cases h
end Go.Proofs.YtpmpajodihpkaaaDoor

/- What a line says of a configuration; what is formed: plain laws. -/
namespace Go.Proofs.YtpmpajodihpkaaaDoor
open Go Go.Proofs Go.Ua Go.Extern
set_option linter.unusedVariables false
set_option linter.unusedSimpArgs false

def hasL (l : List Lv) (n : Wd) : Bool := l.any fun x => decide (x.nm = n)
def hasM (l : List Sm) (n : Wd) : Bool := l.any fun x => decide (x.nm = n)
def lisV (x : Wd) : List Wd := (listF x).getD []
/-! ### What is formed -/
def inB (n a b : Int) : Bool := decide (a ≤ n) && decide (n ≤ b)
def levOK (l : Lv) : Bool := nameF l.nm &&
  (if l.kd = 1 then decide (l.sh = 0) && (decide (l.ld = 0) && (decide (l.bo = 0) && (decide (l.qu = 0) && (decide (l.ha = 0) && (decide (l.le = 0) && (decide (l.wa = 0) && decide (l.gu = 0)))))))
   else if l.kd = 2 then (decide (l.qu = 0) && (decide (l.ha = 0) && (decide (l.le = 0) && (decide (l.wa = 0) && decide (l.gu = 0))))) && (inB l.sh 0 10000 && (inB l.ld 0 100 && inB l.bo (-1) 1000))
   else if l.kd = 3 then (inB l.qu 1 64 && (inB l.ha 1 8 && (inB l.le 1 64 && (inB l.wa 1 1000 && inB l.gu 1 1000)))) && (inB l.sh 0 10000 && (inB l.ld 0 100 && inB l.bo (-1) 1000))
   else false)
def rlOK (r : Rl) : Bool := goodF r.us && (goodF r.gs && (goodF r.vs && (goodF r.rs && goodF r.ps)))
def smOK (s : Sm) : Bool := nameF s.nm && (nameF s.lv && (inB s.rk 1 10000 && (inB s.bb 0 2 && (decide (s.rl.length ≤ 8) && s.rl.all rlOK))))
/-- One by one: each is right, and has a name of its own. -/
def allL : List Lv → List Lv → Bool
  | _, [] => true
  | p, x :: r => levOK x && (!hasL p x.nm && allL (p ++ [x]) r)
def allM : List Sm → List Sm → Bool
  | _, [] => true
  | p, x :: r => smOK x && (!hasM p x.nm && allM (p ++ [x]) r)
def formC (c : Cf) : Bool := inB c.tt 0 4096 && (inB c.pe 0 1000 && (inB c.pr 0 1048576 && (inB c.mo 0 16 && (decide (c.pr = 0 ↔ c.mo = 0) && (decide (c.ls.length ≤ 16) && (decide (c.ss.length ≤ 32) && (allL [] c.ls && allM [] c.ss)))))))

theorem allL_app : ∀ (a p b : List Lv), allL p (a ++ b) = (allL p a && allL (p ++ a) b)
  | [], p, b => by simp [allL]
  | x :: a, p, b => by simp [allL, allL_app a, List.append_assoc, Bool.and_assoc]
theorem allM_app : ∀ (a p b : List Sm), allM p (a ++ b) = (allM p a && allM (p ++ a) b)
  | [], p, b => by simp [allM]
  | x :: a, p, b => by simp [allM, allM_app a, List.append_assoc, Bool.and_assoc]
theorem allL_snoc (a : List Lv) (x : Lv) : allL [] (a ++ [x]) = (allL [] a && (levOK x && !hasL a x.nm)) := by simp [allL_app, allL]
theorem allM_snoc (a : List Sm) (x : Sm) : allM [] (a ++ [x]) = (allM [] a && (smOK x && !hasM a x.nm)) := by simp [allM_app, allM]
theorem allL_take {l : List Lv} (h : allL [] l = true) (n : Nat) : allL [] (l.take n) = true := by
  rw [← List.take_append_drop n l, allL_app] at h
  simp only [Bool.and_eq_true] at h
  exact h.1
theorem allM_take {l : List Sm} (h : allM [] l = true) (n : Nat) : allM [] (l.take n) = true := by
  rw [← List.take_append_drop n l, allM_app] at h
  simp only [Bool.and_eq_true] at h
  exact h.1

end Go.Proofs.YtpmpajodihpkaaaDoor

/- What a text may tell: levels, schemas. -/
namespace Go.Proofs.YtpmpajodihpkaaaDoor
open Go Go.Proofs Go.Ua Go.Extern
set_option linter.unusedVariables false
set_option linter.unusedSimpArgs false
set_option maxRecDepth 10000

theorem pwithin_spec (n a b : Int) : ESpec Tryd.prog 24 [.d (.s (.int .i64 n)), .d (.s (.int .i64 a)), .d (.s (.int .i64 b))] (fun x => x = .d (.s (.bool (inB n a b)))) := by
  refine ESpec.enter Tryd.func24 (by kernel_rfl) rfl (Nat.le_of_ble_eq_true rfl) fun _ cx hnt hfr => ?_
  obtain ⟨F, hF⟩ := real_ex
  refine AK.runT hF tabOK hmix hnt hfr false [] trivial ?_
  conv => arg 4; cbv
  repeat' (first | with_reducible (first | refine AKt.have ?_ | refine AKt.tt ?_ | refine AKt.ff ?_ | refine AKt.yes (by assumption) ?_ | refine AKt.no (by assumption) ?_ | refine AKt.node (fun hb => ?_) (fun hb => ?_) | refine AKt.need ?_ (fun hb => ?_) | refine AKt.leaf ?_) | ((with_reducible show _ = true); assumption))
  all_goals
    refine AKp.doneE tabOK hfr (by rfl) ?_
    show _ = _
    simp only [tupAV]
    simp only [hF, f_ltI, f_leI, f_eqI, f_eqS, f_eqB, f_not, f_andB, f_orB, f_lenS, f_lenD, f_hasS, f_atS, f_hasC, f_subS, f_hasCat, f_app, f_wrap, f_add, f_sub, f_mul, f_appD, f_fits, f_hasV, f_subV, decide_eq_true_eq, decide_eq_false_iff_not, beq_iff_eq, beq_eq_false_iff_ne, Bool.and_eq_true, Bool.and_eq_false_iff, Bool.not_eq_true, Bool.not_eq_false, Bool.not_eq_eq_eq_not, Bool.not_true, Bool.not_false] at *
    simp [inB, *]
def φPWithin (u : Int → Int → Int → Bool) : List AV → Option (Bool × AV)
  | [.d (.s (.int .i64 n)), .d (.s (.int .i64 a)), .d (.s (.int .i64 b))] => some (true, .d (.s (.bool (u n a b))))
  | _ => none
theorem φPWithin_ok : SpOK Tryd.prog 24 (φPWithin (inB)) := by
  intro xs b x h hb
  unfold φPWithin at h
  split at h
  · simp only [Option.some.injEq, Prod.mk.injEq] at h
    obtain ⟨rfl, rfl⟩ := h
    exact pwithin_spec _ _ _
  · cases h

set_option maxHeartbeats 1000000 in
theorem plevel_spec (nm : Wd) (kd sh ld bo qu ha le wa gu : Int) : ESpec Tryd.prog 25 [.d (.agg [.s (.str nm), .s (.int .i64 kd), .s (.int .i64 sh), .s (.int .i64 ld), .s (.int .i64 bo), .s (.int .i64 qu), .s (.int .i64 ha), .s (.int .i64 le), .s (.int .i64 wa), .s (.int .i64 gu)])] (fun x => x = .d (.s (.bool (levOK ⟨nm, kd, sh, ld, bo, qu, ha, le, wa, gu⟩)))) := by
  obtain ⟨uPWithin, huPWithin⟩ : ∃ u : Int → Int → Int → Bool, u = inB := ⟨_, rfl⟩
  obtain ⟨uName, huName⟩ : ∃ u : List UInt8 → Bool, u = nameF := ⟨_, rfl⟩
  have hG : TblOK Tryd.prog [(24, .p (φPWithin uPWithin)), (36, .p (φName uName))] := ⟨(by rw [huPWithin]; exact φPWithin_ok), (by rw [huName]; exact φName_ok), trivial⟩
  refine ESpec.enter Tryd.func25 (by kernel_rfl) rfl (Nat.le_of_ble_eq_true rfl) fun hok cx hnt hfr => ?_
  obtain ⟨F, hF⟩ := real_ex
  refine AK.runT hF tabOK hmix hnt hfr true _ hG ?_
  conv => arg 4; cbv
  repeat' (first | with_reducible (first | refine AKt.have ?_ | refine AKt.tt ?_ | refine AKt.ff ?_ | refine AKt.yes (by assumption) ?_ | refine AKt.no (by assumption) ?_ | refine AKt.node (fun hb => ?_) (fun hb => ?_) | refine AKt.need ?_ (fun hb => ?_) | refine AKt.leaf ?_) | ((with_reducible show _ = true); assumption))
  all_goals
    refine AKp.doneE tabOK hfr (by rfl) ?_
    show _ = _
    simp only [tupAV]
    subst huPWithin huName
    simp only [hF, f_ltI, f_leI, f_eqI, f_eqS, f_eqB, f_not, f_andB, f_orB, f_lenS, f_lenD, f_hasS, f_atS, f_hasC, f_subS, f_hasCat, f_app, f_wrap, f_add, f_sub, f_mul, f_appD, f_fits, f_hasV, f_subV, decide_eq_true_eq, decide_eq_false_iff_not, beq_iff_eq, beq_eq_false_iff_ne, Bool.and_eq_true, Bool.and_eq_false_iff, Bool.not_eq_true, Bool.not_eq_false, Bool.not_eq_eq_eq_not, Bool.not_true, Bool.not_false] at *
    first
      | (simp [levOK, *]; done)
      | (rw [Bool.eq_iff_iff]; simp [levOK, *]; done)
      | (clear hok hG; grind [levOK])
def φPLevel (u : Wd → Int → Int → Int → Int → Int → Int → Int → Int → Int → Bool) : List AV → Option (Bool × AV)
  | [.d (.agg [.s (.str nm), .s (.int .i64 kd), .s (.int .i64 sh), .s (.int .i64 ld), .s (.int .i64 bo), .s (.int .i64 qu), .s (.int .i64 ha), .s (.int .i64 le), .s (.int .i64 wa), .s (.int .i64 gu)])] => some (true, .d (.s (.bool (u nm kd sh ld bo qu ha le wa gu))))
  | _ => none
theorem φPLevel_ok : SpOK Tryd.prog 25 (φPLevel (fun a b c d e f g h i j => levOK ⟨a, b, c, d, e, f, g, h, i, j⟩)) := by
  intro xs b x h hb
  unfold φPLevel at h
  split at h
  · simp only [Option.some.injEq, Prod.mk.injEq] at h
    obtain ⟨rfl, rfl⟩ := h
    exact plevel_spec _ _ _ _ _ _ _ _ _ _
  · cases h

theorem plists_spec (a b c d e : List Dat) : ESpec Tryd.prog 37 [.d (.agg [.view 1 a, .view 1 b, .view 1 c, .view 1 d, .view 1 e])] (fun x => x = .d (.agg [.view 1 a, .view 1 b, .view 1 c, .view 1 d, .view 1 e])) := by
  refine ESpec.enter Tryd.func37 (by kernel_rfl) rfl (Nat.le_of_ble_eq_true rfl) fun hok cx hnt hfr => ?_
  obtain ⟨F, hF⟩ := real_ex
  refine AK.runT hF tabOK hmix hnt hfr true [] trivial ?_
  conv => arg 4; cbv
  repeat' (first | with_reducible (first | refine AKt.have ?_ | refine AKt.tt ?_ | refine AKt.ff ?_ | refine AKt.yes (by assumption) ?_ | refine AKt.no (by assumption) ?_ | refine AKt.node (fun hb => ?_) (fun hb => ?_) | refine AKt.need ?_ (fun hb => ?_) | refine AKt.leaf ?_) | ((with_reducible show _ = true); assumption))
  refine AKp.doneE tabOK hfr (by rfl) ?_
  show _ = _
  simp only [tupAV]
  rfl
def φPLists  : List AV → Option (Bool × AV)
  | [.d (.agg [.view 1 a, .view 1 b, .view 1 c, .view 1 d, .view 1 e])] => some (true, .d (.agg [.view 1 a, .view 1 b, .view 1 c, .view 1 d, .view 1 e]))
  | _ => none
theorem φPLists_ok : SpOK Tryd.prog 37 (φPLists ) := by
  intro xs b x h hb
  unfold φPLists at h
  split at h
  · simp only [Option.some.injEq, Prod.mk.injEq] at h
    obtain ⟨rfl, rfl⟩ := h
    exact plists_spec _ _ _ _ _
  · cases h
end Go.Proofs.YtpmpajodihpkaaaDoor

/- A formed configuration is told in lines, and read as it was told: plain laws. -/
namespace Go.Proofs.YtpmpajodihpkaaaDoor
open Go Go.Proofs Go.Ua Go.Extern
set_option linter.unusedVariables false
set_option linter.unusedSimpArgs false

theorem lis_of {l : List Wd} (h : goodF l = true) : listB (joinF l) = true ∧ lisV (joinF l) = l ∧ joinF l ≠ [] := by
  have hne : joinF l ≠ [] := by
    unfold joinF
    rw [if_pos h]
    split
    · simp
    · rename_i hl
      obtain ⟨x, r, rfl⟩ := List.exists_cons_of_ne_nil hl
      intro e
      have hx : x ≠ [] := by
        unfold goodF at h
        simp only [Bool.or_eq_true, Bool.and_eq_true, beq_iff_eq] at h
        rcases h with h | h
        · injection h with h _; rw [h]; simp
        · have := List.all_eq_true.1 h.1.1 x (by simp)
          exact (word_parts this).1
      cases r with
      | nil => rw [Lib.join_one] at e; exact hx e
      | cons y r => rw [join_cons2] at e; simp at e
  have := list_join hne
  exact ⟨by rw [listB, this]; rfl, by rw [lisV, this]; rfl, hne⟩
end Go.Proofs.YtpmpajodihpkaaaDoor

