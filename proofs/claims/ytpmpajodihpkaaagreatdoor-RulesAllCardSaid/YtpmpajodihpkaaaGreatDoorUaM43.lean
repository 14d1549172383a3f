/- The library of this claim and its walks, part 43, joined out of smaller texts. No statement stands in it. -/
import Derived.Test.YtpmpajodihpkaaaGreatDoorUaM29
import Derived.Test.YtpmpajodihpkaaaGreatDoorUaM35
import Derived.Test.YtpmpajodihpkaaaGreatDoorUaM41
import Derived.Test.YtpmpajodihpkaaaGreatDoorUaM42
set_option linter.unusedSimpArgs false
set_option linter.unusedVariables false
namespace Go.Proofs.YtpmpajodihpkaaaGreatDoor
open Go Go.Proofs Go.Ua Go.Extern
set_option maxRecDepth 10000
theorem take_eq_succ {α : Type} {p q : List α} {i : Nat} {x y : α} (h : p.take i = q.take i) (hx : p[i]? = some x) (hy : q[i]? = some y) (e : x = y) : p.take (i + 1) = q.take (i + 1) := by
 rw [List.take_add_one, List.take_add_one, h, hx, hy, e]
theorem ne_at {α : Type} {p q : List α} {i : Nat} {x y : α} (hx : p[i]? = some x) (hy : q[i]? = some y) (e : x ≠ y) : p ≠ q := fun h => by
 rw [h, hy] at hx
 exact e (Option.some.inj hx).symm
set_option maxHeartbeats 4000000 in
set_option cbv.maxSteps 10000000 in
theorem SameRules_spec (p q : List Rl) : ESpec Tryz.prog 26 [.d (.view 5 (rlDs p)), .d (.view 5 (rlDs q))] (fun x => x = .d (.s (.bool (decide (p = q))))) := by
 obtain ⟨uSame, huSame⟩ : ∃ u : List Dat → List Dat → Bool, u = fun l m => isStrs l && isStrs m := ⟨_, rfl⟩
 obtain ⟨uSame1, huSame1⟩ : ∃ u : List Dat → List Dat → Bool, u = fun l m => decide (unStr l = unStr m) := ⟨_, rfl⟩
 have hG : TblOK Tryz.prog [(44, .p (φSame uSame uSame1))] := ⟨(by rw [huSame, huSame1]; exact φSame_ok), trivial⟩
 obtain ⟨Z, hZ⟩ : ∃ z, z = decide (p = q) := ⟨_, rfl⟩
 rw [← hZ]
 obtain ⟨pd, hpd⟩ : ∃ z, z = rlDs p := ⟨_, rfl⟩
 obtain ⟨qd, hqd⟩ : ∃ z, z = rlDs q := ⟨_, rfl⟩
 rw [← hpd, ← hqd]
 have hpl : pd.length = p.length := by rw [hpd, rlDs_len]
 have hql : qd.length = q.length := by rw [hqd, rlDs_len]
 refine ESpec.enter Tryz.func26 (by kernel_rfl) rfl (Nat.le_of_ble_eq_true rfl) fun hok cx hnt hfr => ?_
 obtain ⟨F, hF⟩ := real_ex
 refine AK.runT hF tabOK hmix hnt hfr true _ hG ?_
 conv => arg 4; cbv
 refine AKt.node (fun hb => ?_) (fun hb => ?_)
 · have : p ≠ q := fun e => by
     rw [hF, f_not, f_eqI, f_lenD, f_lenD, hpl, hql, e] at hb
     simp at hb
   repeat' (first|with_reducible (first|refine qAh ?_|refine qAt ?_|refine qAf ?_|refine qAy (by assumption) ?_|refine qAn (by assumption) ?_|refine qAd (fun hb => ?_) (fun hb => ?_)|refine qAe ?_ (fun hb => ?_)|refine qAl ?_)|((with_reducible show _=true); assumption))
   refine AKp.doneE tabOK hfr (by rfl) ?_
   show _ = _
   simp only [tupAV]
   rw [hZ, decide_eq_false this]
 have hlen : p.length = q.length := by
   rw [hF, f_not, f_eqI, f_lenD, f_lenD, hpl, hql] at hb
   simp at hb
   omega
 repeat' (first|with_reducible (first|refine qAh ?_|refine qAt ?_|refine qAf ?_|refine qAy (by assumption) ?_|refine qAn (by assumption) ?_|refine qAd (fun hb => ?_) (fun hb => ?_)|refine qAe ?_ (fun hb => ?_)|refine qAl ?_)|((with_reducible show _=true); assumption))
 refine AKp.enterLoop 11 ?_
 conv => arg 7; cbv
 refine AKl.invT hF tabOK hmix hnt hfr true _ hG (fun n vs hs => ∃ (i : Nat) (iv : Int), i + n = p.length ∧ iv = i ∧ p.take i = q.take i ∧ vs = [(5, .d (.s (.int .i64 iv)))] ∧ hs = []) p.length ⟨0, _, by omega, rfl, by rfl, rfl, rfl⟩ (by repeat (first | exact True.intro | refine ⟨⟨rfl, rfl⟩, ?_⟩)) (by repeat (first | exact True.intro | refine ⟨⟨rfl, rfl, rfl⟩, ?_⟩)) ?_
 rintro J n vs hs hJ ⟨i, iv, hi, hiv, hall, rfl, rfl⟩
 conv => arg 4; cbv
 refine AKt.node (fun hb => ?_) (fun hb => ?_)
 rotate_left
 · have hge : ¬ i < p.length := by rw [hF, f_ltI, f_lenD, hpl, hiv] at hb; have := of_decide_eq_false hb; omega
   rw [List.take_of_length_le (by omega), List.take_of_length_le (by omega)] at hall
   repeat' (first|with_reducible (first|refine qAh ?_|refine qAt ?_|refine qAf ?_|refine qAy (by assumption) ?_|refine qAn (by assumption) ?_|refine qAd (fun hb => ?_) (fun hb => ?_)|refine qAe ?_ (fun hb => ?_)|refine qAl ?_)|((with_reducible show _=true); assumption))
   refine AKp.doneE tabOK hfr (by rfl) ?_
   show _ = _
   simp only [tupAV]
   rw [hZ, decide_eq_true hall]
 have hlt : i < p.length := by rw [hF, f_ltI, f_lenD, hpl, hiv] at hb; have := of_decide_eq_true hb; omega
 have hn := hok.1
 have hbig : p.length ≤ 9223372036854775807 := by
   have : pd.length ≤ maxLen := hok.1.1
   have e : maxLen = 9223372036854775807 := rfl
   omega
 obtain ⟨r, hr⟩ : ∃ r, p[i]? = some r := ⟨_, List.getElem?_eq_getElem hlt⟩
 obtain ⟨s, hs⟩ : ∃ s, q[i]? = some s := ⟨_, List.getElem?_eq_getElem (by omega)⟩
 have hdr : pd[i]? = some r.dat := by rw [hpd]; exact rlDs_get hr
 have hds : qd[i]? = some s.dat := by rw [hqd]; exact rlDs_get hs
 have hr_ : F .hasD pd iv [.view 1, .view 1, .view 1, .view 1, .view 1] = true := t_hasD hF hdr hiv rfl
 obtain ⟨r0, hr0⟩ : ∃ z, z = strDs r.us := ⟨_, rfl⟩
 try rw [show F .viewA pd iv 0 = r0 by rw [hr0]; exact t_viewA hF hdr hiv rfl]
 obtain ⟨r1, hr1⟩ : ∃ z, z = strDs r.gs := ⟨_, rfl⟩
 try rw [show F .viewA pd iv 1 = r1 by rw [hr1]; exact t_viewA hF hdr hiv rfl]
 obtain ⟨r2, hr2⟩ : ∃ z, z = strDs r.vs := ⟨_, rfl⟩
 try rw [show F .viewA pd iv 2 = r2 by rw [hr2]; exact t_viewA hF hdr hiv rfl]
 obtain ⟨r3, hr3⟩ : ∃ z, z = strDs r.rs := ⟨_, rfl⟩
 try rw [show F .viewA pd iv 3 = r3 by rw [hr3]; exact t_viewA hF hdr hiv rfl]
 obtain ⟨r4, hr4⟩ : ∃ z, z = strDs r.ps := ⟨_, rfl⟩
 try rw [show F .viewA pd iv 4 = r4 by rw [hr4]; exact t_viewA hF hdr hiv rfl]
 have hs_ : F .hasD qd iv [.view 1, .view 1, .view 1, .view 1, .view 1] = true := t_hasD hF hds hiv rfl
 obtain ⟨s0, hs0⟩ : ∃ z, z = strDs s.us := ⟨_, rfl⟩
 try rw [show F .viewA qd iv 0 = s0 by rw [hs0]; exact t_viewA hF hds hiv rfl]
 obtain ⟨s1, hs1⟩ : ∃ z, z = strDs s.gs := ⟨_, rfl⟩
 try rw [show F .viewA qd iv 1 = s1 by rw [hs1]; exact t_viewA hF hds hiv rfl]
 obtain ⟨s2, hs2⟩ : ∃ z, z = strDs s.vs := ⟨_, rfl⟩
 try rw [show F .viewA qd iv 2 = s2 by rw [hs2]; exact t_viewA hF hds hiv rfl]
 obtain ⟨s3, hs3⟩ : ∃ z, z = strDs s.rs := ⟨_, rfl⟩
 try rw [show F .viewA qd iv 3 = s3 by rw [hs3]; exact t_viewA hF hds hiv rfl]
 obtain ⟨s4, hs4⟩ : ∃ z, z = strDs s.ps := ⟨_, rfl⟩
 try rw [show F .viewA qd iv 4 = s4 by rw [hs4]; exact t_viewA hF hds hiv rfl]
 have qj : ∀ l m, uSame (strDs l) (strDs m) = true := fun l m => by
   subst huSame huSame1
   show (isStrs (strDs l) && isStrs (strDs m)) = true
   rw [isStrs_strDs, isStrs_strDs]; rfl
 have ej : ∀ l m, uSame1 (strDs l) (strDs m) = decide (l = m) := fun l m => by
   subst huSame huSame1
   show decide (unStr (strDs l) = unStr (strDs m)) = _
   rw [unStr_strDs, unStr_strDs]
 have q0 : uSame r0 s0 = true := by rw [hr0, hs0]; exact qj _ _
 have q1 : uSame r1 s1 = true := by rw [hr1, hs1]; exact qj _ _
 have q2 : uSame r2 s2 = true := by rw [hr2, hs2]; exact qj _ _
 have q3 : uSame r3 s3 = true := by rw [hr3, hs3]; exact qj _ _
 have q4 : uSame r4 s4 = true := by rw [hr4, hs4]; exact qj _ _
 have bad : r ≠ s → Z = false := fun h => by rw [hZ, decide_eq_false (ne_at hr hs h)]
 refine AKt.need hr_ fun _ => AKt.need hs_ fun _ => ?_
 refine AKt.need q0 fun _ => ?_
 refine AKt.node (fun c0 => ?_) (fun c0 => ?_)
 · have : r ≠ s := fun e => by
     rw [hF, f_not, hr0, hs0, ej, e] at c0
     simp at c0
   repeat' (first|with_reducible (first|refine qAh ?_|refine qAt ?_|refine qAf ?_|refine qAy (by assumption) ?_|refine qAn (by assumption) ?_|refine qAd (fun hb => ?_) (fun hb => ?_)|refine qAe ?_ (fun hb => ?_)|refine qAl ?_)|((with_reducible show _=true); assumption))
   refine AKp.doneE tabOK hfr (by rfl) ?_
   show _ = _
   simp only [tupAV]
   rw [bad this]
 try refine AKt.need hr_ fun _ => AKt.need hs_ fun _ => ?_
 refine AKt.need q1 fun _ => ?_
 refine AKt.node (fun c1 => ?_) (fun c1 => ?_)
 · have : r ≠ s := fun e => by
     rw [hF, f_not, hr1, hs1, ej, e] at c1
     simp at c1
   repeat' (first|with_reducible (first|refine qAh ?_|refine qAt ?_|refine qAf ?_|refine qAy (by assumption) ?_|refine qAn (by assumption) ?_|refine qAd (fun hb => ?_) (fun hb => ?_)|refine qAe ?_ (fun hb => ?_)|refine qAl ?_)|((with_reducible show _=true); assumption))
   refine AKp.doneE tabOK hfr (by rfl) ?_
   show _ = _
   simp only [tupAV]
   rw [bad this]
 try refine AKt.need hr_ fun _ => AKt.need hs_ fun _ => ?_
 refine AKt.need q2 fun _ => ?_
 refine AKt.node (fun c2 => ?_) (fun c2 => ?_)
 · have : r ≠ s := fun e => by
     rw [hF, f_not, hr2, hs2, ej, e] at c2
     simp at c2
   repeat' (first|with_reducible (first|refine qAh ?_|refine qAt ?_|refine qAf ?_|refine qAy (by assumption) ?_|refine qAn (by assumption) ?_|refine qAd (fun hb => ?_) (fun hb => ?_)|refine qAe ?_ (fun hb => ?_)|refine qAl ?_)|((with_reducible show _=true); assumption))
   refine AKp.doneE tabOK hfr (by rfl) ?_
   show _ = _
   simp only [tupAV]
   rw [bad this]
 try refine AKt.need hr_ fun _ => AKt.need hs_ fun _ => ?_
 refine AKt.need q3 fun _ => ?_
 refine AKt.node (fun c3 => ?_) (fun c3 => ?_)
 · have : r ≠ s := fun e => by
     rw [hF, f_not, hr3, hs3, ej, e] at c3
     simp at c3
   repeat' (first|with_reducible (first|refine qAh ?_|refine qAt ?_|refine qAf ?_|refine qAy (by assumption) ?_|refine qAn (by assumption) ?_|refine qAd (fun hb => ?_) (fun hb => ?_)|refine qAe ?_ (fun hb => ?_)|refine qAl ?_)|((with_reducible show _=true); assumption))
   refine AKp.doneE tabOK hfr (by rfl) ?_
   show _ = _
   simp only [tupAV]
   rw [bad this]
 try refine AKt.need hr_ fun _ => AKt.need hs_ fun _ => ?_
 refine AKt.need q4 fun _ => ?_
 refine AKt.node (fun c4 => ?_) (fun c4 => ?_)
 · have : r ≠ s := fun e => by
     rw [hF, f_not, hr4, hs4, ej, e] at c4
     simp at c4
   repeat' (first|with_reducible (first|refine qAh ?_|refine qAt ?_|refine qAf ?_|refine qAy (by assumption) ?_|refine qAn (by assumption) ?_|refine qAd (fun hb => ?_) (fun hb => ?_)|refine qAe ?_ (fun hb => ?_)|refine qAl ?_)|((with_reducible show _=true); assumption))
   refine AKp.doneE tabOK hfr (by rfl) ?_
   show _ = _
   simp only [tupAV]
   rw [bad this]
 try refine AKt.need hr_ fun _ => AKt.need hs_ fun _ => ?_
 have heq : r = s := by
   have gd : ∀ l m, F .not (uSame1 (strDs l) (strDs m)) = false → l = m := fun l m h => by
     rw [hF, f_not, ej] at h
     simpa using h
   rw [hr0, hs0] at c0
   rw [hr1, hs1] at c1
   rw [hr2, hs2] at c2
   rw [hr3, hs3] at c3
   rw [hr4, hs4] at c4
   obtain ⟨x1, x2, x3, x4, x5⟩ := r
   obtain ⟨y1, y2, y3, y4, y5⟩ := s
   rw [Rl.mk.injEq]
   exact ⟨gd _ _ c0, gd _ _ c1, gd _ _ c2, gd _ _ c3, gd _ _ c4⟩
 repeat' (first|with_reducible (first|refine qAh ?_|refine qAt ?_|refine qAf ?_|refine qAy (by assumption) ?_|refine qAn (by assumption) ?_|refine qAd (fun hb => ?_) (fun hb => ?_)|refine qAe ?_ (fun hb => ?_)|refine qAl ?_)|((with_reducible show _=true); assumption))
 refine AKp.again _ hfr (by repeat (first | exact True.intro | refine ⟨⟨rfl, rfl⟩, ?_⟩)) (by repeat (first | exact True.intro | refine ⟨⟨rfl, rfl, rfl⟩, ?_⟩)) (hJ (n - 1) _ _ (by omega) ⟨i + 1, _, by omega, inc_i hF hiv (by omega), take_eq_succ hall hr hs heq, rfl, rfl⟩)
theorem SameRulesD_spec (a b : List Dat) (h : (isRl a && isRl b) = true) : ESpec Tryz.prog 26 [.d (.view 5 a), .d (.view 5 b)] (fun x => x = .d (.s (.bool (decide (unRl a = unRl b))))) := by
 simp only [Bool.and_eq_true] at h
 have := SameRules_spec (unRl a) (unRl b)
 rwa [rl_un h.1, rl_un h.2] at this
def φSameRules (p q : List Dat → List Dat → Bool) : List AV → Option (Bool × AV)
 | [.d (.view 5 a), .d (.view 5 b)] => some (p a b, .d (.s (.bool (q a b))))
 | _ => none
theorem φSameRules_ok : SpOK Tryz.prog 26 (φSameRules (fun a b => isRl a && isRl b) (fun a b => decide (unRl a = unRl b))) := by
 intro xs b x h hb
 unfold φSameRules at h
 split at h
 · simp only [Option.some.injEq, Prod.mk.injEq] at h
   obtain ⟨rfl, rfl⟩ := h
   exact SameRulesD_spec _ _ hb
 · cases h
end Go.Proofs.YtpmpajodihpkaaaGreatDoor
namespace Go.Proofs.YtpmpajodihpkaaaGreatDoor
open Go Go.Proofs Go.Ua Go.Extern
set_option maxRecDepth 10000
set_option maxHeartbeats 4000000 in
set_option cbv.maxSteps 10000000 in
theorem SameC_spec (a b : Cf) : ESpec Tryz.prog 12 [.d (.agg [.s (.int .i64 a.tt), .s (.int .i64 a.pe), .s (.int .i64 a.pr), .s (.int .i64 a.mo), .view 10 (lvDs a.ls), .view 5 (smDs a.ss)]), .d (.agg [.s (.int .i64 b.tt), .s (.int .i64 b.pe), .s (.int .i64 b.pr), .s (.int .i64 b.mo), .view 10 (lvDs b.ls), .view 5 (smDs b.ss)])] (fun x => x = .d (.s (.bool (sameC a b)))) := by
 obtain ⟨uSameRules, huSameRules⟩ : ∃ u : List Dat → List Dat → Bool, u = fun a b => isRl a && isRl b := ⟨_, rfl⟩
 obtain ⟨uSameRules1, huSameRules1⟩ : ∃ u : List Dat → List Dat → Bool, u = fun a b => decide (unRl a = unRl b) := ⟨_, rfl⟩
 have hG : TblOK Tryz.prog [(26, .p (φSameRules uSameRules uSameRules1))] := ⟨(by rw [huSameRules, huSameRules1]; exact φSameRules_ok), trivial⟩
 obtain ⟨Z, hZ⟩ : ∃ z, z = sameC a b := ⟨_, rfl⟩
 rw [← hZ]
 obtain ⟨a1, a2, a3, a4, ls, ss⟩ := a
 obtain ⟨b1, b2, b3, b4, ks, ts⟩ := b
 simp only
 obtain ⟨ld, hld⟩ : ∃ z, z = lvDs ls := ⟨_, rfl⟩
 obtain ⟨sd, hsd⟩ : ∃ z, z = smDs ss := ⟨_, rfl⟩
 obtain ⟨ke, hke⟩ : ∃ z, z = lvDs ks := ⟨_, rfl⟩
 obtain ⟨te, hte⟩ : ∃ z, z = smDs ts := ⟨_, rfl⟩
 rw [← hld, ← hsd, ← hke, ← hte]
 have hll : ld.length = ls.length := by rw [hld, lvDs_len]
 have hsl : sd.length = ss.length := by rw [hsd, smDs_len]
 have hkl : ke.length = ks.length := by rw [hke, lvDs_len]
 have htl : te.length = ts.length := by rw [hte, smDs_len]
 refine ESpec.enter Tryz.func12 (by kernel_rfl) rfl (Nat.le_of_ble_eq_true rfl) fun hok cx hnt hfr => ?_
 obtain ⟨F, hF⟩ := real_ex
 refine AK.runT hF tabOK hmix hnt hfr true _ hG ?_
 conv => arg 4; cbv
 repeat' (first|with_reducible (first|refine qAh ?_|refine qAt ?_|refine qAf ?_|refine qAy (by assumption) ?_|refine qAn (by assumption) ?_|refine qAd (fun hb => ?_) (fun hb => ?_)|refine qAe ?_ (fun hb => ?_)|refine qAl ?_)|((with_reducible show _=true); assumption))
 iterate 6
   · clear hok hG
     refine AKp.doneE tabOK hfr (by rfl) ?_
     show _ = _
     simp only [tupAV]
     rw [hZ]
     clear hZ
     simp only [hF, f_ltI, f_leI, f_eqI, f_eqS, f_eqB, f_not, f_andB, f_orB, f_lenS, f_lenD, f_hasS, f_atS, f_hasC, f_subS, f_hasCat, f_app, f_wrap, f_add, f_sub, f_mul, f_appD, f_fits, f_hasV, f_subV, decide_eq_true_eq, decide_eq_false_iff_not, beq_iff_eq, beq_eq_false_iff_ne, Bool.and_eq_true, Bool.and_eq_false_iff, Bool.not_eq_true, Bool.not_eq_false, Bool.not_eq_eq_eq_not, Bool.not_true, Bool.not_false] at *
     rw [hll, hkl, hsl, htl] at *
     refine congrArg (fun b => AV.d (.s (.bool b))) ?_
     show false = decide (_ = _)
     refine (decide_eq_false fun e => ?_).symm
     simp only [Cf.mk.injEq] at e
     obtain ⟨e1, e2, e3, e4, e5, e6⟩ := e
     simp_all
 have hZ2 : Z = (decide (ls = ks) && decide (ss = ts)) := by
   clear hok hG
   simp only [hF, f_ltI, f_leI, f_eqI, f_eqS, f_eqB, f_not, f_andB, f_orB, f_lenS, f_lenD, f_hasS, f_atS, f_hasC, f_subS, f_hasCat, f_app, f_wrap, f_add, f_sub, f_mul, f_appD, f_fits, f_hasV, f_subV, decide_eq_true_eq, decide_eq_false_iff_not, beq_iff_eq, beq_eq_false_iff_ne, Bool.and_eq_true, Bool.and_eq_false_iff, Bool.not_eq_true, Bool.not_eq_false, Bool.not_eq_eq_eq_not, Bool.not_true, Bool.not_false] at *
   rw [hZ, sameC, ← Bool.decide_and]
   refine decide_eq_decide.2 ?_
   simp only [Cf.mk.injEq]
   simp_all
 have el : ls.length = ks.length := by
   have h : F .not (F .eqI (F .lenD ld) (F .lenD ke)) = false := by assumption
   rw [hF, f_not, f_eqI, f_lenD, f_lenD, hll, hkl] at h
   simp at h
   omega
 have es : ss.length = ts.length := by
   have h : F .not (F .eqI (F .lenD sd) (F .lenD te)) = false := by assumption
   rw [hF, f_not, f_eqI, f_lenD, f_lenD, hsl, htl] at h
   simp at h
   omega
 have big1 : ls.length ≤ 9223372036854775807 := by
   have : ld.length ≤ maxLen := hok.1.2.2.2.2.1.1
   have e : maxLen = 9223372036854775807 := rfl
   omega
 have big2 : ss.length ≤ 9223372036854775807 := by
   have : sd.length ≤ maxLen := hok.1.2.2.2.2.2.1.1
   have e : maxLen = 9223372036854775807 := rfl
   omega
 clear hZ
 refine AKp.enterLoop 53 ?_
 conv => arg 7; cbv
 refine AKl.invT hF tabOK hmix hnt hfr true _ hG (fun n vs hs => ∃ (i : Nat) (iv : Int), i + n = ls.length ∧ iv = i ∧ ls.take i = ks.take i ∧ vs = [(5, .d (.s (.int .i64 iv)))] ∧ hs = [(0, .cs 25 [.d (.s (.int .i64 a1)), .d (.s (.int .i64 a2)), .d (.s (.int .i64 a3)), .d (.s (.int .i64 a4)), .d (.view 10 ld), .d (.view 5 sd)]), (1, .cs 25 [.d (.s (.int .i64 b1)), .d (.s (.int .i64 b2)), .d (.s (.int .i64 b3)), .d (.s (.int .i64 b4)), .d (.view 10 ke), .d (.view 5 te)])]) ls.length ⟨0, _, by omega, rfl, by rfl, rfl, rfl⟩ (by repeat (first | exact True.intro | refine ⟨⟨rfl, rfl⟩, ?_⟩)) (by repeat (first | exact True.intro | refine ⟨⟨rfl, rfl, rfl⟩, ?_⟩)) ?_
 rintro J n vs hs hJ ⟨i, iv, hi, hiv, hall, rfl, rfl⟩
 conv => arg 4; cbv
 refine AKt.node (fun hb => ?_) (fun hb => ?_)
 · have hlt : i < ls.length := by rw [hF, f_ltI, f_lenD, hll, hiv] at hb; have := of_decide_eq_true hb; omega
   obtain ⟨x, hx⟩ : ∃ x, ls[i]? = some x := ⟨_, List.getElem?_eq_getElem hlt⟩
   obtain ⟨y, hy⟩ : ∃ y, ks[i]? = some y := ⟨_, List.getElem?_eq_getElem (by omega)⟩
   have hdx : ld[i]? = some x.dat := by rw [hld]; exact lvDs_get hx
   have hdy : ke[i]? = some y.dat := by rw [hke]; exact lvDs_get hy
   have hx_ : F .hasD ld iv [.str, .int .i64, .int .i64, .int .i64, .int .i64, .int .i64, .int .i64, .int .i64, .int .i64, .int .i64] = true := t_hasD hF hdx hiv rfl
   obtain ⟨x0, hx0⟩ : ∃ z, z = x.nm := ⟨_, rfl⟩
   try rw [show F .strA ld iv 0 = x0 by rw [hx0]; exact t_strA hF hdx hiv rfl]
   obtain ⟨x1, hx1⟩ : ∃ z, z = x.kd := ⟨_, rfl⟩
   try rw [show F .intA ld iv 1 = x1 by rw [hx1]; exact t_intA hF hdx hiv rfl]
   obtain ⟨x2, hx2⟩ : ∃ z, z = x.sh := ⟨_, rfl⟩
   try rw [show F .intA ld iv 2 = x2 by rw [hx2]; exact t_intA hF hdx hiv rfl]
   obtain ⟨x3, hx3⟩ : ∃ z, z = x.ld := ⟨_, rfl⟩
   try rw [show F .intA ld iv 3 = x3 by rw [hx3]; exact t_intA hF hdx hiv rfl]
   obtain ⟨x4, hx4⟩ : ∃ z, z = x.bo := ⟨_, rfl⟩
   try rw [show F .intA ld iv 4 = x4 by rw [hx4]; exact t_intA hF hdx hiv rfl]
   obtain ⟨x5, hx5⟩ : ∃ z, z = x.qu := ⟨_, rfl⟩
   try rw [show F .intA ld iv 5 = x5 by rw [hx5]; exact t_intA hF hdx hiv rfl]
   obtain ⟨x6, hx6⟩ : ∃ z, z = x.ha := ⟨_, rfl⟩
   try rw [show F .intA ld iv 6 = x6 by rw [hx6]; exact t_intA hF hdx hiv rfl]
   obtain ⟨x7, hx7⟩ : ∃ z, z = x.le := ⟨_, rfl⟩
   try rw [show F .intA ld iv 7 = x7 by rw [hx7]; exact t_intA hF hdx hiv rfl]
   obtain ⟨x8, hx8⟩ : ∃ z, z = x.wa := ⟨_, rfl⟩
   try rw [show F .intA ld iv 8 = x8 by rw [hx8]; exact t_intA hF hdx hiv rfl]
   obtain ⟨x9, hx9⟩ : ∃ z, z = x.gu := ⟨_, rfl⟩
   try rw [show F .intA ld iv 9 = x9 by rw [hx9]; exact t_intA hF hdx hiv rfl]
   have hy_ : F .hasD ke iv [.str, .int .i64, .int .i64, .int .i64, .int .i64, .int .i64, .int .i64, .int .i64, .int .i64, .int .i64] = true := t_hasD hF hdy hiv rfl
   obtain ⟨y0, hy0⟩ : ∃ z, z = y.nm := ⟨_, rfl⟩
   try rw [show F .strA ke iv 0 = y0 by rw [hy0]; exact t_strA hF hdy hiv rfl]
   obtain ⟨y1, hy1⟩ : ∃ z, z = y.kd := ⟨_, rfl⟩
   try rw [show F .intA ke iv 1 = y1 by rw [hy1]; exact t_intA hF hdy hiv rfl]
   obtain ⟨y2, hy2⟩ : ∃ z, z = y.sh := ⟨_, rfl⟩
   try rw [show F .intA ke iv 2 = y2 by rw [hy2]; exact t_intA hF hdy hiv rfl]
   obtain ⟨y3, hy3⟩ : ∃ z, z = y.ld := ⟨_, rfl⟩
   try rw [show F .intA ke iv 3 = y3 by rw [hy3]; exact t_intA hF hdy hiv rfl]
   obtain ⟨y4, hy4⟩ : ∃ z, z = y.bo := ⟨_, rfl⟩
   try rw [show F .intA ke iv 4 = y4 by rw [hy4]; exact t_intA hF hdy hiv rfl]
   obtain ⟨y5, hy5⟩ : ∃ z, z = y.qu := ⟨_, rfl⟩
   try rw [show F .intA ke iv 5 = y5 by rw [hy5]; exact t_intA hF hdy hiv rfl]
   obtain ⟨y6, hy6⟩ : ∃ z, z = y.ha := ⟨_, rfl⟩
   try rw [show F .intA ke iv 6 = y6 by rw [hy6]; exact t_intA hF hdy hiv rfl]
   obtain ⟨y7, hy7⟩ : ∃ z, z = y.le := ⟨_, rfl⟩
   try rw [show F .intA ke iv 7 = y7 by rw [hy7]; exact t_intA hF hdy hiv rfl]
   obtain ⟨y8, hy8⟩ : ∃ z, z = y.wa := ⟨_, rfl⟩
   try rw [show F .intA ke iv 8 = y8 by rw [hy8]; exact t_intA hF hdy hiv rfl]
   obtain ⟨y9, hy9⟩ : ∃ z, z = y.gu := ⟨_, rfl⟩
   try rw [show F .intA ke iv 9 = y9 by rw [hy9]; exact t_intA hF hdy hiv rfl]
   refine AKt.need hx_ fun _ => AKt.need hy_ fun _ => ?_
   have key : F .not (F .andB (F .eqS x0 y0) (F .andB (F .eqI x1 y1) (F .andB (F .eqI x2 y2) (F .andB (F .eqI x3 y3) (F .andB (F .eqI x4 y4) (F .andB (F .eqI x5 y5) (F .andB (F .eqI x6 y6) (F .andB (F .eqI x7 y7) (F .andB (F .eqI x8 y8) (F .andB (F .eqI x9 y9) true)))))))))) = !(sameL x y) := by
     rw [hx0, hx1, hx2, hx3, hx4, hx5, hx6, hx7, hx8, hx9, hy0, hy1, hy2, hy3, hy4, hy5, hy6, hy7, hy8, hy9]
     simp only [hF, f_not, f_andB, f_eqS, f_eqI, sameL, Bool.and_true]
     refine congrArg (fun b => !b) (Bool.eq_iff_iff.2 ?_)
     simp only [Bool.and_eq_true, beq_iff_eq, decide_eq_true_eq]
   refine AKt.node (fun hc => ?_) (fun hc => ?_)
   · have : x ≠ y := fun e => by
       have h := key.symm.trans hc
       rw [sameL_iff.2 e] at h
       cases h
     repeat' (first|with_reducible (first|refine qAh ?_|refine qAt ?_|refine qAf ?_|refine qAy (by assumption) ?_|refine qAn (by assumption) ?_|refine qAd (fun hb => ?_) (fun hb => ?_)|refine qAe ?_ (fun hb => ?_)|refine qAl ?_)|((with_reducible show _=true); assumption))
     refine AKp.doneE tabOK hfr (by rfl) ?_
     show _ = _
     simp only [tupAV]
     rw [hZ2, decide_eq_false (ne_at hx hy this)]
     rfl
   · have : x = y := by
       have h := key.symm.trans hc
       refine sameL_iff.1 ?_
       cases hh : sameL x y with
       | true => rfl
       | false => rw [hh] at h; cases h
     repeat' (first|with_reducible (first|refine qAh ?_|refine qAt ?_|refine qAf ?_|refine qAy (by assumption) ?_|refine qAn (by assumption) ?_|refine qAd (fun hb => ?_) (fun hb => ?_)|refine qAe ?_ (fun hb => ?_)|refine qAl ?_)|((with_reducible show _=true); assumption))
     refine AKp.again _ hfr (by repeat (first | exact True.intro | refine ⟨⟨rfl, rfl⟩, ?_⟩)) (by repeat (first | exact True.intro | refine ⟨⟨rfl, rfl, rfl⟩, ?_⟩)) (hJ (n - 1) _ _ (by omega) ⟨i + 1, _, by omega, inc_i hF hiv (by omega), take_eq_succ hall hx hy this, rfl, rfl⟩)
 have hge : ¬ i < ls.length := by rw [hF, f_ltI, f_lenD, hll, hiv] at hb; have := of_decide_eq_false hb; omega
 rw [List.take_of_length_le (by omega), List.take_of_length_le (by omega)] at hall
 have hZ3 : Z = decide (ss = ts) := by rw [hZ2, decide_eq_true hall]; rfl
 clear hZ2 hJ J
 repeat' (first|with_reducible (first|refine qAh ?_|refine qAt ?_|refine qAf ?_|refine qAy (by assumption) ?_|refine qAn (by assumption) ?_|refine qAd (fun hb => ?_) (fun hb => ?_)|refine qAe ?_ (fun hb => ?_)|refine qAl ?_)|((with_reducible show _=true); assumption))
 refine AKp.enterLoop 71 ?_
 conv => arg 7; cbv
 refine AKl.invT hF tabOK hmix hnt hfr true _ hG (fun n vs hs => ∃ (i : Nat) (iv : Int), i + n = ss.length ∧ iv = i ∧ ss.take i = ts.take i ∧ vs = [(6, .d (.s (.int .i64 iv)))] ∧ hs = [(0, .cs 25 [.d (.s (.int .i64 a1)), .d (.s (.int .i64 a2)), .d (.s (.int .i64 a3)), .d (.s (.int .i64 a4)), .d (.view 10 ld), .d (.view 5 sd)]), (1, .cs 25 [.d (.s (.int .i64 b1)), .d (.s (.int .i64 b2)), .d (.s (.int .i64 b3)), .d (.s (.int .i64 b4)), .d (.view 10 ke), .d (.view 5 te)])]) ss.length ⟨0, _, by omega, rfl, by rfl, rfl, rfl⟩ (by repeat (first | exact True.intro | refine ⟨⟨rfl, rfl⟩, ?_⟩)) (by repeat (first | exact True.intro | refine ⟨⟨rfl, rfl, rfl⟩, ?_⟩)) ?_
 rintro J n vs hs hJ ⟨i, iv, hi, hiv, hall, rfl, rfl⟩
 conv => arg 4; cbv
 refine AKt.node (fun hb => ?_) (fun hb => ?_)
 rotate_left
 · have hge : ¬ i < ss.length := by rw [hF, f_ltI, f_lenD, hsl, hiv] at hb; have := of_decide_eq_false hb; omega
   rw [List.take_of_length_le (by omega), List.take_of_length_le (by omega)] at hall
   repeat' (first|with_reducible (first|refine qAh ?_|refine qAt ?_|refine qAf ?_|refine qAy (by assumption) ?_|refine qAn (by assumption) ?_|refine qAd (fun hb => ?_) (fun hb => ?_)|refine qAe ?_ (fun hb => ?_)|refine qAl ?_)|((with_reducible show _=true); assumption))
   refine AKp.doneE tabOK hfr (by rfl) ?_
   show _ = _
   simp only [tupAV]
   rw [hZ3, decide_eq_true hall]
 have hlt : i < ss.length := by rw [hF, f_ltI, f_lenD, hsl, hiv] at hb; have := of_decide_eq_true hb; omega
 obtain ⟨x, hx⟩ : ∃ x, ss[i]? = some x := ⟨_, List.getElem?_eq_getElem hlt⟩
 obtain ⟨y, hy⟩ : ∃ y, ts[i]? = some y := ⟨_, List.getElem?_eq_getElem (by omega)⟩
 have hdx : sd[i]? = some x.dat := by rw [hsd]; exact smDs_get hx
 have hdy : te[i]? = some y.dat := by rw [hte]; exact smDs_get hy
 have hx_ : F .hasD sd iv [.str, .str, .int .i64, .int .i64, .view 5] = true := t_hasD hF hdx hiv rfl
 obtain ⟨x0, hx0⟩ : ∃ z, z = x.nm := ⟨_, rfl⟩
 try rw [show F .strA sd iv 0 = x0 by rw [hx0]; exact t_strA hF hdx hiv rfl]
 obtain ⟨x1, hx1⟩ : ∃ z, z = x.lv := ⟨_, rfl⟩
 try rw [show F .strA sd iv 1 = x1 by rw [hx1]; exact t_strA hF hdx hiv rfl]
 obtain ⟨x2, hx2⟩ : ∃ z, z = x.rk := ⟨_, rfl⟩
 try rw [show F .intA sd iv 2 = x2 by rw [hx2]; exact t_intA hF hdx hiv rfl]
 obtain ⟨x3, hx3⟩ : ∃ z, z = x.bb := ⟨_, rfl⟩
 try rw [show F .intA sd iv 3 = x3 by rw [hx3]; exact t_intA hF hdx hiv rfl]
 obtain ⟨x4, hx4⟩ : ∃ z, z = rlDs x.rl := ⟨_, rfl⟩
 try rw [show F .viewA sd iv 4 = x4 by rw [hx4]; exact t_viewA hF hdx hiv rfl]
 have hy_ : F .hasD te iv [.str, .str, .int .i64, .int .i64, .view 5] = true := t_hasD hF hdy hiv rfl
 obtain ⟨y0, hy0⟩ : ∃ z, z = y.nm := ⟨_, rfl⟩
 try rw [show F .strA te iv 0 = y0 by rw [hy0]; exact t_strA hF hdy hiv rfl]
 obtain ⟨y1, hy1⟩ : ∃ z, z = y.lv := ⟨_, rfl⟩
 try rw [show F .strA te iv 1 = y1 by rw [hy1]; exact t_strA hF hdy hiv rfl]
 obtain ⟨y2, hy2⟩ : ∃ z, z = y.rk := ⟨_, rfl⟩
 try rw [show F .intA te iv 2 = y2 by rw [hy2]; exact t_intA hF hdy hiv rfl]
 obtain ⟨y3, hy3⟩ : ∃ z, z = y.bb := ⟨_, rfl⟩
 try rw [show F .intA te iv 3 = y3 by rw [hy3]; exact t_intA hF hdy hiv rfl]
 obtain ⟨y4, hy4⟩ : ∃ z, z = rlDs y.rl := ⟨_, rfl⟩
 try rw [show F .viewA te iv 4 = y4 by rw [hy4]; exact t_viewA hF hdy hiv rfl]
 have q0 : uSameRules x4 y4 = true := by
   rw [hx4, hy4]
   subst huSameRules huSameRules1
   show (isRl _ && isRl _) = true
   rw [is_rl, is_rl]; rfl
 have e0 : uSameRules1 x4 y4 = decide (x.rl = y.rl) := by
   rw [hx4, hy4]
   subst huSameRules huSameRules1
   show decide (unRl _ = unRl _) = _
   rw [un_rl, un_rl]
 rw [e0]
 have bad : x ≠ y → Z = false := fun h => by rw [hZ3, decide_eq_false (ne_at hx hy h)]
 refine AKt.need hx_ fun _ => AKt.need hy_ fun _ => ?_
 obtain ⟨xr, hxr⟩ : ∃ z, z = x.rl := ⟨_, rfl⟩
 obtain ⟨yr, hyr⟩ : ∃ z, z = y.rl := ⟨_, rfl⟩
 rw [← hxr, ← hyr]
 repeat' (first|with_reducible (first|refine qAh ?_|refine qAt ?_|refine qAf ?_|refine qAy (by assumption) ?_|refine qAn (by assumption) ?_|refine qAd (fun hb => ?_) (fun hb => ?_)|refine qAe ?_ (fun hb => ?_)|refine qAl ?_)|((with_reducible show _=true); assumption))
 iterate 5
   · clear hok hG hJ
     have hz : Z = false := bad fun e => by
       have k0 : x0 = y0 := by rw [hx0, hy0, e]
       have k1 : x1 = y1 := by rw [hx1, hy1, e]
       have k2 : x2 = y2 := by rw [hx2, hy2, e]
       have k3 : x3 = y3 := by rw [hx3, hy3, e]
       have k4 : xr = yr := by rw [hxr, hyr, e]
       clear hx_ hy_ hdx hdy hx hy bad
       simp only [k0, k1, k2, k3, k4] at *
       simp only [hF, f_ltI, f_leI, f_eqI, f_eqS, f_eqB, f_not, f_andB, f_orB, f_lenS, f_lenD, f_hasS, f_atS, f_hasC, f_subS, f_hasCat, f_app, f_wrap, f_add, f_sub, f_mul, f_appD, f_fits, f_hasV, f_subV, decide_eq_true_eq, decide_eq_false_iff_not, beq_iff_eq, beq_eq_false_iff_ne, Bool.and_eq_true, Bool.and_eq_false_iff, Bool.not_eq_true, Bool.not_eq_false, Bool.not_eq_eq_eq_not, Bool.not_true, Bool.not_false] at *
       simp_all
     refine AKp.doneE tabOK hfr (by rfl) ?_
     show _ = _
     simp only [tupAV]
     rw [hz]
 have heq : x = y := by
   clear hok hG hJ bad
   simp only [hF, f_ltI, f_leI, f_eqI, f_eqS, f_eqB, f_not, f_andB, f_orB, f_lenS, f_lenD, f_hasS, f_atS, f_hasC, f_subS, f_hasCat, f_app, f_wrap, f_add, f_sub, f_mul, f_appD, f_fits, f_hasV, f_subV, decide_eq_true_eq, decide_eq_false_iff_not, beq_iff_eq, beq_eq_false_iff_ne, Bool.and_eq_true, Bool.and_eq_false_iff, Bool.not_eq_true, Bool.not_eq_false, Bool.not_eq_eq_eq_not, Bool.not_true, Bool.not_false] at *
   obtain ⟨x1, x2, x3, x4, x5⟩ := x
   obtain ⟨y1, y2, y3, y4, y5⟩ := y
   simp_all
 refine AKp.again _ hfr (by repeat (first | exact True.intro | refine ⟨⟨rfl, rfl⟩, ?_⟩)) (by repeat (first | exact True.intro | refine ⟨⟨rfl, rfl, rfl⟩, ?_⟩)) (hJ (n - 1) _ _ (by omega) ⟨i + 1, _, by omega, inc_i hF hiv (by omega), take_eq_succ hall hx hy heq, rfl, rfl⟩)
theorem SameCD_spec (a b c d a2 b2 c2 d2 : Int) (ls ss ks ts : List Dat) (h : (isCf0 ls ss && isCf0 ks ts) = true) : ESpec Tryz.prog 12 [.d (.agg [.s (.int .i64 a), .s (.int .i64 b), .s (.int .i64 c), .s (.int .i64 d), .view 10 ls, .view 5 ss]), .d (.agg [.s (.int .i64 a2), .s (.int .i64 b2), .s (.int .i64 c2), .s (.int .i64 d2), .view 10 ks, .view 5 ts])] (fun x => x = .d (.s (.bool (sameC ⟨a, b, c, d, unLv ls, unSm ss⟩ ⟨a2, b2, c2, d2, unLv ks, unSm ts⟩)))) := by
 simp only [isCf0, Bool.and_eq_true] at h
 have := SameC_spec ⟨a, b, c, d, unLv ls, unSm ss⟩ ⟨a2, b2, c2, d2, unLv ks, unSm ts⟩
 simp only [lv_un h.1.1, lv_un h.2.1, sm_un h.1.2, sm_un h.2.2] at this
 exact this
def φSameCf (p : List Dat → List Dat → List Dat → List Dat → Bool) (u : Int → Int → Int → Int → List Dat → List Dat → Int → Int → Int → Int → List Dat → List Dat → Bool) : List AV → Option (Bool × AV)
 | [.d (.agg [.s (.int .i64 a), .s (.int .i64 b), .s (.int .i64 c), .s (.int .i64 d), .view 10 ls, .view 5 ss]), .d (.agg [.s (.int .i64 a2), .s (.int .i64 b2), .s (.int .i64 c2), .s (.int .i64 d2), .view 10 ks, .view 5 ts])] => some (p ls ss ks ts, .d (.s (.bool (u a b c d ls ss a2 b2 c2 d2 ks ts))))
 | _ => none
theorem φSameCf_ok : SpOK Tryz.prog 12 (φSameCf (fun ls ss ks ts => isCf0 ls ss && isCf0 ks ts) (fun a b c d ls ss a2 b2 c2 d2 ks ts => sameC ⟨a, b, c, d, unLv ls, unSm ss⟩ ⟨a2, b2, c2, d2, unLv ks, unSm ts⟩)) := by
 intro xs b x h hb
 unfold φSameCf at h
 split at h
 · simp only [Option.some.injEq, Prod.mk.injEq] at h
   obtain ⟨rfl, rfl⟩ := h
   exact SameCD_spec _ _ _ _ _ _ _ _ _ _ _ _ hb
 · cases h
end Go.Proofs.YtpmpajodihpkaaaGreatDoor
namespace Go.Proofs.YtpmpajodihpkaaaGreatDoor
open Go Go.Proofs Go.Ua Go.Extern
theorem run_len : ∀ {l : List (List Wd)} {c d : Cf}, runL c l = some d → c.ls.length ≤ 16 → c.ss.length ≤ 32 → d.ls.length ≤ 16 ∧ d.ss.length ≤ 32
 | [], c, d, h, h1, h2 => by obtain rfl := Option.some.inj h; exact ⟨h1, h2⟩
 | w :: r, c, d, h, h1, h2 => by
   simp only [runL] at h
   split at h
   · rename_i he
     have hc : (linA c w).ls.length ≤ 16 ∧ (linA c w).ss.length ≤ 32 := by
       unfold linE at he
       unfold linA
       split at he
       · rename_i e; rw [if_pos e]; exact ⟨h1, h2⟩
       split at he
       · rename_i e0 e; rw [if_neg e0, if_pos e]; exact ⟨h1, h2⟩
       split at he
       · rename_i e0 e1 e; rw [if_neg e0, if_neg e1, if_pos e]; exact ⟨h1, h2⟩
       split at he
       · rename_i e0 e1 e2 e
         rw [if_neg e0, if_neg e1, if_neg e2, if_pos e]
         have := (lev_ok he).2.2
         exact ⟨by simp; omega, h2⟩
       split at he
       · rename_i e0 e1 e2 e3 e
         rw [if_neg e0, if_neg e1, if_neg e2, if_neg e3, if_pos e]
         have := (sch_ok he).2.2
         exact ⟨h1, by simp; omega⟩
       split at he
       · rename_i e0 e1 e2 e3 e4 e
         rw [if_neg e0, if_neg e1, if_neg e2, if_neg e3, if_neg e4]
         unfold rulE at he
         split at he; · cases he
         rename_i h0
         have hne : c.ss ≠ [] := fun e => h0 (.inr e)
         have hl := congrArg List.length (last_split hne)
         refine ⟨h1, ?_⟩
         simp only [addR, List.length_append, List.length_cons, List.length_nil] at hl ⊢
         omega
       · cases he
     exact run_len h hc.1 hc.2
   · cases h
theorem runL_snoc (a : List (List Wd)) (c : Cf) (w : List Wd) : runL c (a ++ [w]) = (runL c a).bind fun d => if linE d w = 0 then some (linA d w) else none := by
 rw [runL_app]
 cases runL c a with
 | none => rfl
 | some d => show runL d [w] = _; simp only [runL]; rfl
theorem runL_bad {a : List (List Wd)} {c : Cf} {w : List Wd} {b : List (List Wd)} {d : Cf} (h : runL c a = some d) (he : linE d w ≠ 0) : runL c (a ++ w :: b) = none := by
 rw [runL_app, h]
 show runL d (w :: b) = none
 rw [runL, if_neg he]
theorem words_ne {a : UInt8} {r : Wd} (h : a ≠ 32) : 0 < (wordsF (a :: r)).length := by
 unfold wordsF cutF
 rw [if_neg h]
 cases hc : cutF 32 r with
 | nil => simp
 | cons p ps => simp
theorem lines_ne (c : Cf) : ∀ w, w ∈ linesR c → 0 < (wordsF w).length := by
 intro w hw
 unfold linesR headR at hw
 simp only [List.mem_append, List.mem_flatten, List.mem_map] at hw
 rcases hw with (h | h | h) | ⟨x, _, rfl⟩ | ⟨l, ⟨x, _, rfl⟩, h⟩
 · split at h
   · cases h
   · obtain rfl := List.mem_singleton.1 h; exact words_ne (by decide)
 · split at h
   · cases h
   · obtain rfl := List.mem_singleton.1 h; exact words_ne (by decide)
 · split at h
   · cases h
   · obtain rfl := List.mem_singleton.1 h; exact words_ne (by decide)
 · exact words_ne (by decide)
 · rcases List.mem_cons.1 h with rfl | h
   · exact words_ne (by decide)
   · obtain ⟨r, _, rfl⟩ := List.mem_map.1 h; exact words_ne (by decide)
theorem lines_len0 {c : Cf} (g3 : ∀ l, l ∈ c.ls → l.nm.length ≤ 1000) (g4 : ∀ s, s ∈ c.ss → s.nm.length ≤ 1000 ∧ s.lv.length ≤ 1000) (hi : ∀ l, l ∈ c.ls → (l.sh ≤ 9223372036854775807 ∧ l.ld ≤ 9223372036854775807 ∧ l.bo ≤ 9223372036854775807 ∧ l.qu ≤ 9223372036854775807 ∧ l.ha ≤ 9223372036854775807 ∧ l.le ≤ 9223372036854775807 ∧ l.wa ≤ 9223372036854775807 ∧ l.gu ≤ 9223372036854775807))
   (hs : ∀ s, s ∈ c.ss → s.rk ≤ 9223372036854775807) (h1 : c.tt ≤ 9223372036854775807) (h2 : c.pe ≤ 9223372036854775807) (h3 : c.pr ≤ 9223372036854775807) (h4 : c.mo ≤ 9223372036854775807) : ∀ w, w ∈ linesR c → w.length ≤ 10000 := by
 have d1 := digR_len h1
 have d2 := digR_len h2
 have d3 := digR_len h3
 have d4 := digR_len h4
 intro w hw
 unfold linesR headR at hw
 simp only [List.mem_append, List.mem_flatten, List.mem_map] at hw
 rcases hw with (h | h | h) | ⟨x, hx, rfl⟩ | ⟨l, ⟨x, hx, rfl⟩, h⟩
 · split at h
   · cases h
   · obtain rfl := List.mem_singleton.1 h; simp; omega
 · split at h
   · cases h
   · obtain rfl := List.mem_singleton.1 h; simp; omega
 · split at h
   · cases h
   · obtain rfl := List.mem_singleton.1 h; simp; omega
 · obtain ⟨a1, a2, a3, a4, a5, a6, a7, a8⟩ := hi x hx
   have b1 := digR_len a1
   have b2 := digR_len a2
   have b3 := digR_len a3
   have b4 := digR_len a4
   have b5 := digR_len a5
   have b6 := digR_len a6
   have b7 := digR_len a7
   have b8 := digR_len a8
   have bb : (borR x.bo).length ≤ 21 := by
     unfold borR
     split
     · decide
     · exact b3
   have hn := g3 x hx
   unfold levR limR queR
   simp only [List.length_append, List.length_cons, List.length_nil]
   split
   · simp; omega
   · split
     · simp; omega
     · split
       · simp; omega
       · simp; omega
 · have hx' := g4 x hx
   have b1 := digR_len (hs x hx)
   have bb : (byR x.bb).length ≤ 5 := by
     unfold byR
     split
     · decide
     · split
       · decide
       · split <;> decide
   rcases List.mem_cons.1 h with rfl | h
   · unfold schR
     simp only [List.length_append, List.length_cons, List.length_nil]
     omega
   · obtain ⟨r, _, rfl⟩ := List.mem_map.1 h
     have q1 := lisR_len r.us
     have q2 := lisR_len r.gs
     have q3 := lisR_len r.vs
     have q4 := lisR_len r.rs
     have q5 := lisR_len r.ps
     unfold rulR
     simp only [List.length_append, List.length_cons, List.length_nil]
     omega
def medF (c : Cf) : Bool := decide (c.ls.length ≤ 1000) && (decide (c.ss.length ≤ 1000) && (c.ls.all (fun l => decide (l.nm.length ≤ 1000)) && c.ss.all smB))
theorem med_small {c : Cf} (h : smallF c = true) : medF c = true := by
 simp only [smallF, Bool.and_eq_true, decide_eq_true_eq] at h
 obtain ⟨h1, h2, h3, h4, h5⟩ := h
 simp only [medF, Bool.and_eq_true, decide_eq_true_eq]
 exact ⟨by omega, by omega, h3, h4⟩
theorem lnB_med {c : Cf} (h : medF c = true) : lnB c = true := by
 simp only [medF, Bool.and_eq_true, decide_eq_true_eq] at h
 obtain ⟨h1, h2, h3, h4⟩ := h
 simp only [lnB, Bool.and_eq_true, decide_eq_true_eq]
 refine ⟨by omega, by omega, ?_, ?_⟩
 · rw [List.all_eq_true] at h3 ⊢
   intro x hx
   have := of_decide_eq_true (h3 x hx)
   exact decide_eq_true (by omega)
 · rw [List.all_eq_true] at h4 ⊢
   intro x hx
   have := h4 x hx
   simp only [smB, Bool.and_eq_true, decide_eq_true_eq] at this
   simp only [Bool.and_eq_true, decide_eq_true_eq]
   omega
theorem lines_lenM {c : Cf} (h : medF c = true) (hi : ∀ l, l ∈ c.ls → (l.sh ≤ 9223372036854775807 ∧ l.ld ≤ 9223372036854775807 ∧ l.bo ≤ 9223372036854775807 ∧ l.qu ≤ 9223372036854775807 ∧ l.ha ≤ 9223372036854775807 ∧ l.le ≤ 9223372036854775807 ∧ l.wa ≤ 9223372036854775807 ∧ l.gu ≤ 9223372036854775807))
   (hs : ∀ s, s ∈ c.ss → s.rk ≤ 9223372036854775807) (h1 : c.tt ≤ 9223372036854775807) (h2 : c.pe ≤ 9223372036854775807) (h3 : c.pr ≤ 9223372036854775807) (h4 : c.mo ≤ 9223372036854775807) : ∀ w, w ∈ linesR c → w.length ≤ 10000 := by
 simp only [medF, Bool.and_eq_true, decide_eq_true_eq] at h
 obtain ⟨g1, g2, g3, g4⟩ := h
 refine lines_len0 (fun l hl => of_decide_eq_true (List.all_eq_true.1 g3 l hl)) (fun s hs => ?_) hi hs h1 h2 h3 h4
 have hx' := List.all_eq_true.1 g4 s hs
 simp only [smB, Bool.and_eq_true, decide_eq_true_eq] at hx'
 exact ⟨hx'.2.1, hx'.2.2.1⟩
end Go.Proofs.YtpmpajodihpkaaaGreatDoor
