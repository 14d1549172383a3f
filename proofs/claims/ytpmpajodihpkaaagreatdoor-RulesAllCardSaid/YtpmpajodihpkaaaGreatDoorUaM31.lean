/- The library of this claim and its walks, part 31, joined out of smaller texts. No statement stands in it. -/
import Derived.Test.YtpmpajodihpkaaaGreatDoorUaM30
set_option linter.unusedSimpArgs false
set_option linter.unusedVariables false
namespace Go.Proofs.YtpmpajodihpkaaaGreatDoor
open Go Go.Proofs Go.Ua Go.Extern
set_option maxRecDepth 10000
def eqW (a b : Wd) : Bool := decide (a = b)
theorem cloLv_spec (x0 q : Wd) (x1 x2 x3 x4 x5 x6 x7 x8 x9 : Int) : ASpec Tryz.prog 49 [.d (.agg [.s (.str x0), .s (.int .i64 x1), .s (.int .i64 x2), .s (.int .i64 x3), .s (.int .i64 x4), .s (.int .i64 x5), .s (.int .i64 x6), .s (.int .i64 x7), .s (.int .i64 x8), .s (.int .i64 x9)]), .ptr 0 0 0 1] [(0, .cs 9 [.d (.s (.str q))])] 1 (fun x h' fr' => x = .d (.s (.bool (eqW x0 q))) ∧ h' = [(0, .cs 9 [.d (.s (.str q))])] ∧ fr' = 1) := by
 have hG : TblOK Tryz.prog [] := trivial
 refine ASpec.enterK Tryz.func49 (by kernel_rfl) rfl (Nat.le_of_ble_eq_true rfl) fun hok cx hnt hfr => ?_
 obtain ⟨F, hF⟩ := real_ex
 refine AK.runTn hF tabOK hmix hnt [] true _ hG (Nat.le_of_eq hfr) ?_
 conv => arg 4; cbv
 repeat' (first|with_reducible (first|refine qAh ?_|refine qAt ?_|refine qAf ?_|refine qAy (by assumption) ?_|refine qAn (by assumption) ?_|refine qAd (fun hb => ?_) (fun hb => ?_)|refine qAe ?_ (fun hb => ?_)|refine qAl ?_)|((with_reducible show _=true); assumption))
 first | refine AKp.doneM tabOK hfr (by rfl) (by rfl) ?_ ?_ | refine AKp.endM tabOK hfr (by rfl) (by rfl) ?_ ?_
 all_goals show _ = _
 · refine avb (Bool.eq_iff_iff.2 ?_)
   rw [hF, f_eqS, eqW]
   simp
 · rfl
def idxF {α : Type} (p : α → Bool) : Nat → List α → Int
 | _, [] => -1
 | i, x :: r => if p x then i else idxF p (i + 1) r
theorem idxF_drop {α : Type} {p : α → Bool} {l : List α} {i : Nat} {x : α} (h : l[i]? = some x) : idxF p i (l.drop i) = if p x then (i : Int) else idxF p (i + 1) (l.drop (i + 1)) := by
 obtain ⟨h1, h2⟩ := List.getElem?_eq_some_iff.1 h
 rw [List.drop_eq_getElem_cons h1, idxF, h2]
theorem idxF_end {α : Type} {p : α → Bool} {l : List α} {i : Nat} (h : l.length ≤ i) : idxF p i (l.drop i) = -1 := by
 rw [List.drop_eq_nil_of_le h, idxF]
theorem idxF_any {α : Type} {p : α → Bool} : ∀ {l : List α} {i : Nat}, decide (0 ≤ idxF p i l) = l.any p
 | [], i => rfl
 | x :: r, i => by
   rw [idxF, List.any_cons]
   cases h : p x
   · rw [if_neg (by simp), idxF_any, Bool.false_or]
   · rw [if_pos rfl, Bool.true_or]
     exact decide_eq_true (by omega)
def pcLv : Wd → Int → Int → Int → Int → Int → Int → Int → Int → Int → Wd → Bool := fun x0 x1 x2 x3 x4 x5 x6 x7 x8 x9 q => eqW x0 q
def φCLv (u : Wd → Int → Int → Int → Int → Int → Int → Int → Int → Int → Wd → Bool) : Nat → List AV → List (Nat × Blk) → Option (Bool × AV × List (Nat × Blk) × Nat)
 | 1, [.d (.agg [.s (.str x0), .s (.int .i64 x1), .s (.int .i64 x2), .s (.int .i64 x3), .s (.int .i64 x4), .s (.int .i64 x5), .s (.int .i64 x6), .s (.int .i64 x7), .s (.int .i64 x8), .s (.int .i64 x9)]), .ptr 0 0 0 1], [(0, .cs 9 [.d (.s (.str q))])] => some (true, .d (.s (.bool (u x0 x1 x2 x3 x4 x5 x6 x7 x8 x9 q))), [(0, .cs 9 [.d (.s (.str q))])], 1)
 | _, _, _ => none
theorem φCLv_ok : MSpOK Tryz.prog 49 (φCLv (pcLv)) := by
 intro fr xs h b x h1 fr1 h hb
 unfold φCLv at h
 split at h
 · simp only [Option.some.injEq, Prod.mk.injEq] at h
   obtain ⟨rfl, rfl, rfl, rfl⟩ := h
   exact cloLv_spec _ _ _ _ _ _ _ _ _ _ _
 · cases h
set_option maxHeartbeats 2000000 in
theorem indexLv_spec (ls : List Lv) (q : Wd) : ASpec Tryz.prog 66 [.d (.view 10 (lvDs ls)), .fn (.func 49) [] [.ptr 0 0 0 1]] [(0, .cs 9 [.d (.s (.str q))])] 1 (fun x h' fr' => x = .d (.s (.int .i64 (idxF (fun x : Lv => eqW x.nm q) 0 ls))) ∧ h' = [(0, .cs 9 [.d (.s (.str q))])] ∧ fr' = 1) := by
 obtain ⟨uCLv, huCLv⟩ : ∃ u : Wd → Int → Int → Int → Int → Int → Int → Int → Int → Int → Wd → Bool, u = pcLv := ⟨_, rfl⟩
 have hG : TblOK Tryz.prog [(49, .m (φCLv uCLv))] := ⟨(by rw [huCLv]; exact φCLv_ok), trivial⟩
 obtain ⟨es, hes⟩ : ∃ z, z = lvDs ls := ⟨_, rfl⟩
 rw [← hes]
 have hl : es.length = ls.length := by rw [hes]; exact List.length_map _
 refine ASpec.enterK Tryz.func66 (by kernel_rfl) rfl (Nat.le_of_ble_eq_true rfl) fun hok cx hnt hfr => ?_
 obtain ⟨F, hF⟩ := real_ex
 refine AK.runTn hF tabOK hmix hnt [] true _ hG (Nat.le_of_eq hfr) ?_
 conv => arg 4; cbv
 have hlm : es.length ≤ maxLen := hok.1.1
 simp only [maxLen] at hlm
 repeat' (first|with_reducible (first|refine qAh ?_|refine qAt ?_|refine qAf ?_|refine qAy (by assumption) ?_|refine qAn (by assumption) ?_|refine qAd (fun hb => ?_) (fun hb => ?_)|refine qAe ?_ (fun hb => ?_)|refine qAl ?_)|((with_reducible show _=true); assumption))
 refine AKp.enterLoop 9 ?_
 conv => arg 7; cbv
 refine AKl.invTn hF tabOK hmix hnt true _ hG (Nat.le_trans (Nat.le_of_eq hfr) (Nat.le_of_ble_eq_true rfl)) (fun n vs hs => ∃ (i : Nat) (iv : Int), i + n = ls.length ∧ iv = i ∧ idxF (fun x : Lv => eqW x.nm q) i (ls.drop i) = idxF (fun x : Lv => eqW x.nm q) 0 ls ∧ vs = [(8, .d (.s (.int .i64 iv)))] ∧ hs = [(0, .cs 9 [.d (.s (.str q))])]) ls.length ⟨0, _, by omega, rfl, rfl, rfl, rfl⟩ (by repeat (first | exact True.intro | refine ⟨⟨rfl, rfl⟩, ?_⟩)) (by repeat (first | exact True.intro | refine ⟨⟨rfl, rfl, rfl⟩, ?_⟩)) ?_
 rintro J n vs hs hJ ⟨i, iv, hi, hiv, hr, rfl, rfl⟩
 conv => arg 4; cbv
 refine AKt.node (fun hb => ?_) (fun hb => ?_)
 · have hlt : i < ls.length := by rw [hF, f_ltI, f_lenD, hl, hiv] at hb; have := of_decide_eq_true hb; omega
   obtain ⟨x, hx⟩ : ∃ x, ls[i]? = some x := ⟨_, List.getElem?_eq_getElem hlt⟩
   have hd : es[i]? = some x.dat := by rw [hes]; exact lvDs_get hx
   have hx_ : F .hasD es iv [.str, .int .i64, .int .i64, .int .i64, .int .i64, .int .i64, .int .i64, .int .i64, .int .i64, .int .i64] = true := t_hasD hF hd hiv rfl
   obtain ⟨x0, hx0⟩ : ∃ z, z = x.nm := ⟨_, rfl⟩
   try rw [show F .strA es iv 0 = x0 by rw [hx0]; exact t_strA hF hd hiv rfl]
   obtain ⟨x1, hx1⟩ : ∃ z, z = x.kd := ⟨_, rfl⟩
   try rw [show F .intA es iv 1 = x1 by rw [hx1]; exact t_intA hF hd hiv rfl]
   obtain ⟨x2, hx2⟩ : ∃ z, z = x.sh := ⟨_, rfl⟩
   try rw [show F .intA es iv 2 = x2 by rw [hx2]; exact t_intA hF hd hiv rfl]
   obtain ⟨x3, hx3⟩ : ∃ z, z = x.ld := ⟨_, rfl⟩
   try rw [show F .intA es iv 3 = x3 by rw [hx3]; exact t_intA hF hd hiv rfl]
   obtain ⟨x4, hx4⟩ : ∃ z, z = x.bo := ⟨_, rfl⟩
   try rw [show F .intA es iv 4 = x4 by rw [hx4]; exact t_intA hF hd hiv rfl]
   obtain ⟨x5, hx5⟩ : ∃ z, z = x.qu := ⟨_, rfl⟩
   try rw [show F .intA es iv 5 = x5 by rw [hx5]; exact t_intA hF hd hiv rfl]
   obtain ⟨x6, hx6⟩ : ∃ z, z = x.ha := ⟨_, rfl⟩
   try rw [show F .intA es iv 6 = x6 by rw [hx6]; exact t_intA hF hd hiv rfl]
   obtain ⟨x7, hx7⟩ : ∃ z, z = x.le := ⟨_, rfl⟩
   try rw [show F .intA es iv 7 = x7 by rw [hx7]; exact t_intA hF hd hiv rfl]
   obtain ⟨x8, hx8⟩ : ∃ z, z = x.wa := ⟨_, rfl⟩
   try rw [show F .intA es iv 8 = x8 by rw [hx8]; exact t_intA hF hd hiv rfl]
   obtain ⟨x9, hx9⟩ : ∃ z, z = x.gu := ⟨_, rfl⟩
   try rw [show F .intA es iv 9 = x9 by rw [hx9]; exact t_intA hF hd hiv rfl]
   rw [idxF_drop hx] at hr
   have hcl : uCLv x0 x1 x2 x3 x4 x5 x6 x7 x8 x9 q = (fun x : Lv => eqW x.nm q) x := by rw [huCLv, hx0, hx1, hx2, hx3, hx4, hx5, hx6, hx7, hx8, hx9]; first | rfl | simp [Lv_un]
   refine AKt.need hx_ fun _ => AKt.need rfl fun _ => ?_
   rw [hcl]
   refine AKt.node (fun hb2 => ?_) (fun hb2 => ?_)
   · rw [if_pos hb2] at hr
     repeat' (first|with_reducible (first|refine qAh ?_|refine qAt ?_|refine qAf ?_|refine qAy (by assumption) ?_|refine qAn (by assumption) ?_|refine qAd (fun hb => ?_) (fun hb => ?_)|refine qAe ?_ (fun hb => ?_)|refine qAl ?_)|((with_reducible show _=true); assumption))
     first | refine AKp.doneM tabOK hfr (by rfl) (by rfl) ?_ ?_ | refine AKp.endM tabOK hfr (by rfl) (by rfl) ?_ ?_
     all_goals show _ = _
     · rw [← hr, hiv]; rfl
     · rfl
   · rw [if_neg (fun h => Bool.noConfusion (h.symm.trans hb2))] at hr
     repeat' (first|with_reducible (first|refine qAh ?_|refine qAt ?_|refine qAf ?_|refine qAy (by assumption) ?_|refine qAn (by assumption) ?_|refine qAd (fun hb => ?_) (fun hb => ?_)|refine qAe ?_ (fun hb => ?_)|refine qAl ?_)|((with_reducible show _=true); assumption))
     refine AKp.againL _ (by rw [hfr]; exact Nat.le_of_ble_eq_true rfl) (by repeat (first | exact True.intro | refine ⟨⟨rfl, rfl⟩, ?_⟩)) (by repeat (first | exact True.intro | refine ⟨⟨rfl, rfl, rfl⟩, ?_⟩)) (hJ (n - 1) _ _ (by omega) ⟨i + 1, _, by omega, inc_i hF hiv (by omega), hr, rfl, rfl⟩)
 · have hge : ¬ i < ls.length := by rw [hF, f_ltI, f_lenD, hl, hiv] at hb; have := of_decide_eq_false hb; omega
   rw [idxF_end (by omega)] at hr
   repeat' (first|with_reducible (first|refine qAh ?_|refine qAt ?_|refine qAf ?_|refine qAy (by assumption) ?_|refine qAn (by assumption) ?_|refine qAd (fun hb => ?_) (fun hb => ?_)|refine qAe ?_ (fun hb => ?_)|refine qAl ?_)|((with_reducible show _=true); assumption))
   first | refine AKp.doneM tabOK hfr (by rfl) (by rfl) ?_ ?_ | refine AKp.endM tabOK hfr (by rfl) (by rfl) ?_ ?_
   all_goals show _ = _
   · rw [← hr]; rfl
   · rfl
theorem indexDLv_spec (es : List Dat) (q : Wd) (hb : isLv es = true) : ASpec Tryz.prog 66 [.d (.view 10 es), .fn (.func 49) [] [.ptr 0 0 0 1]] [(0, .cs 9 [.d (.s (.str q))])] 1 (fun x h' fr' => x = .d (.s (.int .i64 (idxF (fun x : Lv => eqW x.nm q) 0 (unLv es)))) ∧ h' = [(0, .cs 9 [.d (.s (.str q))])] ∧ fr' = 1) := by
 have h := indexLv_spec (unLv es) q
 rw [lv_un hb] at h
 exact h
def φIxLv (p : List Dat → Bool) (u : List Dat → Wd → Int) : Nat → List AV → List (Nat × Blk) → Option (Bool × AV × List (Nat × Blk) × Nat)
 | 1, [.d (.view 10 es), .fn (.func 49) [] [.ptr 0 0 0 1]], [(0, .cs 9 [.d (.s (.str q))])] => some (p es, .d (.s (.int .i64 (u es q))), [(0, .cs 9 [.d (.s (.str q))])], 1)
 | _, _, _ => none
theorem φIxLv_ok : MSpOK Tryz.prog 66 (φIxLv (isLv) (fun es q => idxF (fun x : Lv => eqW x.nm q) 0 (unLv es))) := by
 intro fr xs h b x h1 fr1 h hb
 unfold φIxLv at h
 split at h
 · simp only [Option.some.injEq, Prod.mk.injEq] at h
   obtain ⟨rfl, rfl, rfl, rfl⟩ := h
   exact indexDLv_spec _ _ hb
 · cases h
theorem hasLv_spec (es : List Dat) (q : Wd) (hb : isLv es = true) : ASpec Tryz.prog 48 [.d (.view 10 es), .fn (.func 49) [] [.ptr 0 0 0 1]] [(0, .cs 9 [.d (.s (.str q))])] 1 (fun x h' fr' => x = .d (.s (.bool ((unLv es).any (fun x : Lv => eqW x.nm q)))) ∧ h' = [(0, .cs 9 [.d (.s (.str q))])] ∧ fr' = 1) := by
 obtain ⟨uIxLv, huIxLv⟩ : ∃ u : List Dat → Bool, u = isLv := ⟨_, rfl⟩
 obtain ⟨uIxLv1, huIxLv1⟩ : ∃ u : List Dat → Wd → Int, u = fun es q => idxF (fun x : Lv => eqW x.nm q) 0 (unLv es) := ⟨_, rfl⟩
 have hG : TblOK Tryz.prog [(66, .m (φIxLv uIxLv uIxLv1))] := ⟨(by rw [huIxLv, huIxLv1]; exact φIxLv_ok), trivial⟩
 have hq : uIxLv es = true := by rw [huIxLv]; exact hb
 have hv : uIxLv1 es q = idxF (fun x : Lv => eqW x.nm q) 0 (unLv es) := by rw [huIxLv1]
 refine ASpec.enterK Tryz.func48 (by kernel_rfl) rfl (Nat.le_of_ble_eq_true rfl) fun hok cx hnt hfr => ?_
 obtain ⟨F, hF⟩ := real_ex
 refine AK.runTn hF tabOK hmix hnt [] true _ hG (Nat.le_of_eq hfr) ?_
 conv => arg 4; cbv
 repeat' (first|with_reducible (first|refine qAh ?_|refine qAt ?_|refine qAf ?_|refine qAy (by assumption) ?_|refine qAn (by assumption) ?_|refine qAd (fun hb => ?_) (fun hb => ?_)|refine qAe ?_ (fun hb => ?_)|refine qAl ?_)|((with_reducible show _=true); assumption))
 first | refine AKp.doneM tabOK hfr (by rfl) (by rfl) ?_ ?_ | refine AKp.endM tabOK hfr (by rfl) (by rfl) ?_ ?_
 all_goals show _ = _
 · rw [hv, hF]
   exact avb (by rw [f_leI]; exact idxF_any)
 · rfl
def φHasLv (p : List Dat → Bool) (u : List Dat → Wd → Bool) : Nat → List AV → List (Nat × Blk) → Option (Bool × AV × List (Nat × Blk) × Nat)
 | 1, [.d (.view 10 es), .fn (.func 49) [] [.ptr 0 0 0 1]], [(0, .cs 9 [.d (.s (.str q))])] => some (p es, .d (.s (.bool (u es q))), [(0, .cs 9 [.d (.s (.str q))])], 1)
 | _, _, _ => none
theorem φHasLv_ok : MSpOK Tryz.prog 48 (φHasLv (isLv) (fun es q => (unLv es).any (fun x : Lv => eqW x.nm q))) := by
 intro fr xs h b x h1 fr1 h hb
 unfold φHasLv at h
 split at h
 · simp only [Option.some.injEq, Prod.mk.injEq] at h
   obtain ⟨rfl, rfl, rfl, rfl⟩ := h
   exact hasLv_spec _ _ hb
 · cases h
theorem cloSm_spec (x0 x1 : Wd) (x2 x3 : Int) (x4 : List Dat) (q : Wd) : ASpec Tryz.prog 36 [.d (.agg [.s (.str x0), .s (.str x1), .s (.int .i64 x2), .s (.int .i64 x3), .view 5 x4]), .ptr 0 0 0 1] [(0, .cs 9 [.d (.s (.str q))])] 1 (fun x h' fr' => x = .d (.s (.bool (eqW x0 q))) ∧ h' = [(0, .cs 9 [.d (.s (.str q))])] ∧ fr' = 1) := by
 have hG : TblOK Tryz.prog [] := trivial
 refine ASpec.enterK Tryz.func36 (by kernel_rfl) rfl (Nat.le_of_ble_eq_true rfl) fun hok cx hnt hfr => ?_
 obtain ⟨F, hF⟩ := real_ex
 refine AK.runTn hF tabOK hmix hnt [] true _ hG (Nat.le_of_eq hfr) ?_
 conv => arg 4; cbv
 repeat' (first|with_reducible (first|refine qAh ?_|refine qAt ?_|refine qAf ?_|refine qAy (by assumption) ?_|refine qAn (by assumption) ?_|refine qAd (fun hb => ?_) (fun hb => ?_)|refine qAe ?_ (fun hb => ?_)|refine qAl ?_)|((with_reducible show _=true); assumption))
 first | refine AKp.doneM tabOK hfr (by rfl) (by rfl) ?_ ?_ | refine AKp.endM tabOK hfr (by rfl) (by rfl) ?_ ?_
 all_goals show _ = _
 · refine avb (Bool.eq_iff_iff.2 ?_)
   rw [hF, f_eqS, eqW]
   simp
 · rfl
def pcSm : Wd → Wd → Int → Int → List Dat → Wd → Bool := fun x0 x1 x2 x3 x4 q => eqW x0 q
def φCSm (u : Wd → Wd → Int → Int → List Dat → Wd → Bool) : Nat → List AV → List (Nat × Blk) → Option (Bool × AV × List (Nat × Blk) × Nat)
 | 1, [.d (.agg [.s (.str x0), .s (.str x1), .s (.int .i64 x2), .s (.int .i64 x3), .view 5 x4]), .ptr 0 0 0 1], [(0, .cs 9 [.d (.s (.str q))])] => some (true, .d (.s (.bool (u x0 x1 x2 x3 x4 q))), [(0, .cs 9 [.d (.s (.str q))])], 1)
 | _, _, _ => none
theorem φCSm_ok : MSpOK Tryz.prog 36 (φCSm (pcSm)) := by
 intro fr xs h b x h1 fr1 h hb
 unfold φCSm at h
 split at h
 · simp only [Option.some.injEq, Prod.mk.injEq] at h
   obtain ⟨rfl, rfl, rfl, rfl⟩ := h
   exact cloSm_spec _ _ _ _ _ _
 · cases h
set_option maxHeartbeats 2000000 in
theorem indexSm_spec (ls : List Sm) (q : Wd) : ASpec Tryz.prog 52 [.d (.view 5 (smDs ls)), .fn (.func 36) [] [.ptr 0 0 0 1]] [(0, .cs 9 [.d (.s (.str q))])] 1 (fun x h' fr' => x = .d (.s (.int .i64 (idxF (fun x : Sm => eqW x.nm q) 0 ls))) ∧ h' = [(0, .cs 9 [.d (.s (.str q))])] ∧ fr' = 1) := by
 obtain ⟨uCSm, huCSm⟩ : ∃ u : Wd → Wd → Int → Int → List Dat → Wd → Bool, u = pcSm := ⟨_, rfl⟩
 have hG : TblOK Tryz.prog [(36, .m (φCSm uCSm))] := ⟨(by rw [huCSm]; exact φCSm_ok), trivial⟩
 obtain ⟨es, hes⟩ : ∃ z, z = smDs ls := ⟨_, rfl⟩
 rw [← hes]
 have hl : es.length = ls.length := by rw [hes]; exact List.length_map _
 refine ASpec.enterK Tryz.func52 (by kernel_rfl) rfl (Nat.le_of_ble_eq_true rfl) fun hok cx hnt hfr => ?_
 obtain ⟨F, hF⟩ := real_ex
 refine AK.runTn hF tabOK hmix hnt [] true _ hG (Nat.le_of_eq hfr) ?_
 conv => arg 4; cbv
 have hlm : es.length ≤ maxLen := hok.1.1
 simp only [maxLen] at hlm
 repeat' (first|with_reducible (first|refine qAh ?_|refine qAt ?_|refine qAf ?_|refine qAy (by assumption) ?_|refine qAn (by assumption) ?_|refine qAd (fun hb => ?_) (fun hb => ?_)|refine qAe ?_ (fun hb => ?_)|refine qAl ?_)|((with_reducible show _=true); assumption))
 refine AKp.enterLoop 9 ?_
 conv => arg 7; cbv
 refine AKl.invTn hF tabOK hmix hnt true _ hG (Nat.le_trans (Nat.le_of_eq hfr) (Nat.le_of_ble_eq_true rfl)) (fun n vs hs => ∃ (i : Nat) (iv : Int), i + n = ls.length ∧ iv = i ∧ idxF (fun x : Sm => eqW x.nm q) i (ls.drop i) = idxF (fun x : Sm => eqW x.nm q) 0 ls ∧ vs = [(8, .d (.s (.int .i64 iv)))] ∧ hs = [(0, .cs 9 [.d (.s (.str q))])]) ls.length ⟨0, _, by omega, rfl, rfl, rfl, rfl⟩ (by repeat (first | exact True.intro | refine ⟨⟨rfl, rfl⟩, ?_⟩)) (by repeat (first | exact True.intro | refine ⟨⟨rfl, rfl, rfl⟩, ?_⟩)) ?_
 rintro J n vs hs hJ ⟨i, iv, hi, hiv, hr, rfl, rfl⟩
 conv => arg 4; cbv
 refine AKt.node (fun hb => ?_) (fun hb => ?_)
 · have hlt : i < ls.length := by rw [hF, f_ltI, f_lenD, hl, hiv] at hb; have := of_decide_eq_true hb; omega
   obtain ⟨x, hx⟩ : ∃ x, ls[i]? = some x := ⟨_, List.getElem?_eq_getElem hlt⟩
   have hd : es[i]? = some x.dat := by rw [hes]; exact smDs_get hx
   have hx_ : F .hasD es iv [.str, .str, .int .i64, .int .i64, .view 5] = true := t_hasD hF hd hiv rfl
   obtain ⟨x0, hx0⟩ : ∃ z, z = x.nm := ⟨_, rfl⟩
   try rw [show F .strA es iv 0 = x0 by rw [hx0]; exact t_strA hF hd hiv rfl]
   obtain ⟨x1, hx1⟩ : ∃ z, z = x.lv := ⟨_, rfl⟩
   try rw [show F .strA es iv 1 = x1 by rw [hx1]; exact t_strA hF hd hiv rfl]
   obtain ⟨x2, hx2⟩ : ∃ z, z = x.rk := ⟨_, rfl⟩
   try rw [show F .intA es iv 2 = x2 by rw [hx2]; exact t_intA hF hd hiv rfl]
   obtain ⟨x3, hx3⟩ : ∃ z, z = x.bb := ⟨_, rfl⟩
   try rw [show F .intA es iv 3 = x3 by rw [hx3]; exact t_intA hF hd hiv rfl]
   obtain ⟨x4, hx4⟩ : ∃ z, z = rlDs x.rl := ⟨_, rfl⟩
   try rw [show F .viewA es iv 4 = x4 by rw [hx4]; exact t_viewA hF hd hiv rfl]
   rw [idxF_drop hx] at hr
   have hcl : uCSm x0 x1 x2 x3 x4 q = (fun x : Sm => eqW x.nm q) x := by rw [huCSm, hx0, hx1, hx2, hx3, hx4]; first | rfl | simp [Sm_un]
   refine AKt.need hx_ fun _ => AKt.need rfl fun _ => ?_
   rw [hcl]
   refine AKt.node (fun hb2 => ?_) (fun hb2 => ?_)
   · rw [if_pos hb2] at hr
     repeat' (first|with_reducible (first|refine qAh ?_|refine qAt ?_|refine qAf ?_|refine qAy (by assumption) ?_|refine qAn (by assumption) ?_|refine qAd (fun hb => ?_) (fun hb => ?_)|refine qAe ?_ (fun hb => ?_)|refine qAl ?_)|((with_reducible show _=true); assumption))
     first | refine AKp.doneM tabOK hfr (by rfl) (by rfl) ?_ ?_ | refine AKp.endM tabOK hfr (by rfl) (by rfl) ?_ ?_
     all_goals show _ = _
     · rw [← hr, hiv]; rfl
     · rfl
   · rw [if_neg (fun h => Bool.noConfusion (h.symm.trans hb2))] at hr
     repeat' (first|with_reducible (first|refine qAh ?_|refine qAt ?_|refine qAf ?_|refine qAy (by assumption) ?_|refine qAn (by assumption) ?_|refine qAd (fun hb => ?_) (fun hb => ?_)|refine qAe ?_ (fun hb => ?_)|refine qAl ?_)|((with_reducible show _=true); assumption))
     refine AKp.againL _ (by rw [hfr]; exact Nat.le_of_ble_eq_true rfl) (by repeat (first | exact True.intro | refine ⟨⟨rfl, rfl⟩, ?_⟩)) (by repeat (first | exact True.intro | refine ⟨⟨rfl, rfl, rfl⟩, ?_⟩)) (hJ (n - 1) _ _ (by omega) ⟨i + 1, _, by omega, inc_i hF hiv (by omega), hr, rfl, rfl⟩)
 · have hge : ¬ i < ls.length := by rw [hF, f_ltI, f_lenD, hl, hiv] at hb; have := of_decide_eq_false hb; omega
   rw [idxF_end (by omega)] at hr
   repeat' (first|with_reducible (first|refine qAh ?_|refine qAt ?_|refine qAf ?_|refine qAy (by assumption) ?_|refine qAn (by assumption) ?_|refine qAd (fun hb => ?_) (fun hb => ?_)|refine qAe ?_ (fun hb => ?_)|refine qAl ?_)|((with_reducible show _=true); assumption))
   first | refine AKp.doneM tabOK hfr (by rfl) (by rfl) ?_ ?_ | refine AKp.endM tabOK hfr (by rfl) (by rfl) ?_ ?_
   all_goals show _ = _
   · rw [← hr]; rfl
   · rfl
theorem indexDSm_spec (es : List Dat) (q : Wd) (hb : isSm es = true) : ASpec Tryz.prog 52 [.d (.view 5 es), .fn (.func 36) [] [.ptr 0 0 0 1]] [(0, .cs 9 [.d (.s (.str q))])] 1 (fun x h' fr' => x = .d (.s (.int .i64 (idxF (fun x : Sm => eqW x.nm q) 0 (unSm es)))) ∧ h' = [(0, .cs 9 [.d (.s (.str q))])] ∧ fr' = 1) := by
 have h := indexSm_spec (unSm es) q
 rw [sm_un hb] at h
 exact h
def φIxSm (p : List Dat → Bool) (u : List Dat → Wd → Int) : Nat → List AV → List (Nat × Blk) → Option (Bool × AV × List (Nat × Blk) × Nat)
 | 1, [.d (.view 5 es), .fn (.func 36) [] [.ptr 0 0 0 1]], [(0, .cs 9 [.d (.s (.str q))])] => some (p es, .d (.s (.int .i64 (u es q))), [(0, .cs 9 [.d (.s (.str q))])], 1)
 | _, _, _ => none
theorem φIxSm_ok : MSpOK Tryz.prog 52 (φIxSm (isSm) (fun es q => idxF (fun x : Sm => eqW x.nm q) 0 (unSm es))) := by
 intro fr xs h b x h1 fr1 h hb
 unfold φIxSm at h
 split at h
 · simp only [Option.some.injEq, Prod.mk.injEq] at h
   obtain ⟨rfl, rfl, rfl, rfl⟩ := h
   exact indexDSm_spec _ _ hb
 · cases h
theorem hasSm_spec (es : List Dat) (q : Wd) (hb : isSm es = true) : ASpec Tryz.prog 35 [.d (.view 5 es), .fn (.func 36) [] [.ptr 0 0 0 1]] [(0, .cs 9 [.d (.s (.str q))])] 1 (fun x h' fr' => x = .d (.s (.bool ((unSm es).any (fun x : Sm => eqW x.nm q)))) ∧ h' = [(0, .cs 9 [.d (.s (.str q))])] ∧ fr' = 1) := by
 obtain ⟨uIxSm, huIxSm⟩ : ∃ u : List Dat → Bool, u = isSm := ⟨_, rfl⟩
 obtain ⟨uIxSm1, huIxSm1⟩ : ∃ u : List Dat → Wd → Int, u = fun es q => idxF (fun x : Sm => eqW x.nm q) 0 (unSm es) := ⟨_, rfl⟩
 have hG : TblOK Tryz.prog [(52, .m (φIxSm uIxSm uIxSm1))] := ⟨(by rw [huIxSm, huIxSm1]; exact φIxSm_ok), trivial⟩
 have hq : uIxSm es = true := by rw [huIxSm]; exact hb
 have hv : uIxSm1 es q = idxF (fun x : Sm => eqW x.nm q) 0 (unSm es) := by rw [huIxSm1]
 refine ASpec.enterK Tryz.func35 (by kernel_rfl) rfl (Nat.le_of_ble_eq_true rfl) fun hok cx hnt hfr => ?_
 obtain ⟨F, hF⟩ := real_ex
 refine AK.runTn hF tabOK hmix hnt [] true _ hG (Nat.le_of_eq hfr) ?_
 conv => arg 4; cbv
 repeat' (first|with_reducible (first|refine qAh ?_|refine qAt ?_|refine qAf ?_|refine qAy (by assumption) ?_|refine qAn (by assumption) ?_|refine qAd (fun hb => ?_) (fun hb => ?_)|refine qAe ?_ (fun hb => ?_)|refine qAl ?_)|((with_reducible show _=true); assumption))
 first | refine AKp.doneM tabOK hfr (by rfl) (by rfl) ?_ ?_ | refine AKp.endM tabOK hfr (by rfl) (by rfl) ?_ ?_
 all_goals show _ = _
 · rw [hv, hF]
   exact avb (by rw [f_leI]; exact idxF_any)
 · rfl
def φHasSm (p : List Dat → Bool) (u : List Dat → Wd → Bool) : Nat → List AV → List (Nat × Blk) → Option (Bool × AV × List (Nat × Blk) × Nat)
 | 1, [.d (.view 5 es), .fn (.func 36) [] [.ptr 0 0 0 1]], [(0, .cs 9 [.d (.s (.str q))])] => some (p es, .d (.s (.bool (u es q))), [(0, .cs 9 [.d (.s (.str q))])], 1)
 | _, _, _ => none
theorem φHasSm_ok : MSpOK Tryz.prog 35 (φHasSm (isSm) (fun es q => (unSm es).any (fun x : Sm => eqW x.nm q))) := by
 intro fr xs h b x h1 fr1 h hb
 unfold φHasSm at h
 split at h
 · simp only [Option.some.injEq, Prod.mk.injEq] at h
   obtain ⟨rfl, rfl, rfl, rfl⟩ := h
   exact hasSm_spec _ _ hb
 · cases h
theorem there_spec (es : List Dat) (q : Wd) (hb : isLv es = true) : ESpec Tryz.prog 32 [.d (.view 10 es), .d (.s (.str q))] (fun x => x = .d (.s (.bool ((unLv es).any (fun x : Lv => eqW x.nm q))))) := by
 obtain ⟨uHasLv, huHasLv⟩ : ∃ u : List Dat → Bool, u = isLv := ⟨_, rfl⟩
 obtain ⟨uHasLv1, huHasLv1⟩ : ∃ u : List Dat → Wd → Bool, u = fun es q => (unLv es).any (fun x : Lv => eqW x.nm q) := ⟨_, rfl⟩
 have hG : TblOK Tryz.prog [(48, .m (φHasLv uHasLv uHasLv1))] := ⟨(by rw [huHasLv, huHasLv1]; exact φHasLv_ok), trivial⟩
 have hq : uHasLv es = true := by rw [huHasLv]; exact hb
 refine ESpec.enter Tryz.func32 (by kernel_rfl) rfl (Nat.le_of_ble_eq_true rfl) fun hok cx hnt hfr => ?_
 obtain ⟨F, hF⟩ := real_ex
 refine AK.runT hF tabOK hmix hnt hfr true _ hG ?_
 conv => arg 4; cbv
 repeat' (first|with_reducible (first|refine qAh ?_|refine qAt ?_|refine qAf ?_|refine qAy (by assumption) ?_|refine qAn (by assumption) ?_|refine qAd (fun hb => ?_) (fun hb => ?_)|refine qAe ?_ (fun hb => ?_)|refine qAl ?_)|((with_reducible show _=true); assumption))
 refine AKp.doneE tabOK hfr (by rfl) ?_
 show _ = _
 simp only [tupAV]
 rw [huHasLv1]
def φThere (p : List Dat → Bool) (u : List Dat → Wd → Bool) : List AV → Option (Bool × AV)
 | [.d (.view 10 es), .d (.s (.str q))] => some (p es, .d (.s (.bool (u es q))))
 | _ => none
theorem φThere_ok : SpOK Tryz.prog 32 (φThere (isLv) (fun es q => (unLv es).any (fun x : Lv => eqW x.nm q))) := by
 intro xs b x h hb
 unfold φThere at h
 split at h
 · simp only [Option.some.injEq, Prod.mk.injEq] at h
   obtain ⟨rfl, rfl⟩ := h
   exact there_spec _ _ hb
 · cases h
end Go.Proofs.YtpmpajodihpkaaaGreatDoor
namespace Go.Proofs.YtpmpajodihpkaaaGreatDoor
open Go Go.Proofs Go.Ua Go.Extern
set_option maxRecDepth 10000
def hprod (d : Int) : Nat → Int
 | 0 => 1
 | k + 1 => hprod d k * (d - k)
theorem hprod_bd {d : Int} (h1 : 1 ≤ d) (h2 : d ≤ 64) : ∀ k : Nat, (k : Int) ≤ d → k ≤ 8 → 1 ≤ hprod d k ∧ hprod d k ≤ 64 ^ k
 | 0, _, _ => ⟨Int.le_refl _, Int.le_refl _⟩
 | k + 1, hk, h8 => by
   obtain ⟨g1, g2⟩ := hprod_bd h1 h2 k (by omega) (by omega)
   have a1 : 1 ≤ d - k := by omega
   have a2 : d - k ≤ 64 := by omega
   rw [hprod, Int.pow_succ]
   exact ⟨by have := Int.mul_le_mul g1 a1 (by omega) (by omega : (0 : Int) ≤ hprod d k); simpa using this, Int.mul_le_mul g2 a2 (by omega) (by have : (0 : Int) < 64 ^ k := Int.pow_pos (by decide); omega)⟩
theorem hprod_lt {d : Int} (h1 : 1 ≤ d) (h2 : d ≤ 64) (k : Nat) (hk : (k : Int) ≤ d) (h8 : k ≤ 8) : 1 ≤ hprod d k ∧ hprod d k ≤ 281474976710656 := by
 obtain ⟨g1, g2⟩ := hprod_bd h1 h2 k hk h8
 have : (64 : Int) ^ k ≤ 64 ^ 8 := by
   have := Nat.pow_le_pow_right (n := 64) (by decide) h8
   exact_mod_cast this
 exact ⟨g1, by have e : (64 : Int) ^ 8 = 281474976710656 := by decide
               omega⟩
def handsE (d n : Int) : Int := if d < 1 ∨ 64 < d ∨ n < 1 ∨ 8 < n then 1 else if d < n then 8 else if 1099511627776 < hprod d n.toNat then 10 else 0
def handsV (d n : Int) : Int := if handsE d n = 0 then hprod d n.toNat else 0
theorem w_u64 {n : Int} (h0 : 0 ≤ n) (h : n < 18446744073709551616) : IntKind.u64.wrap n = n := by
 simp only [IntKind.wrap, IntKind.bits, IntKind.signed]
 simp
 omega
theorem hstep {F : Fam} (hF : F = Fam.real) {d iv av : Int} {i : Nat} (hiv : iv = i) (h1 : 1 ≤ d) (h2 : d ≤ 64) (hi : (i : Int) < d) (h8 : i < 8) (ha : av = hprod d i) : F .wrap .u64 (F .mul av (F .wrap .u64 (F .wrap .i64 (F .sub d iv)))) = hprod d (i + 1) := by
 obtain ⟨g1, g2⟩ := hprod_lt h1 h2 (i + 1) (by omega) (by omega)
 have e1 : F .wrap .i64 (F .sub d iv) = d - i := by
   rw [hF, hiv]
   show IntKind.i64.wrap (d - i) = _
   exact w_i64 (by omega) (by omega)
 have wu : ∀ z : Int, 0 ≤ z → z < 18446744073709551616 → IntKind.u64.wrap z = z := fun z z1 z2 => w_u64 (by omega) (by omega)
 have e2 : F .wrap .u64 (d - i : Int) = d - i := by rw [hF]; exact wu _ (by omega) (by omega)
 rw [e1, e2, ha, hF]
 show IntKind.u64.wrap (hprod d i * (d - i)) = hprod d i * (d - i)
 rw [hprod] at g1 g2
 exact wu _ (by omega) (by omega)
theorem E1 {d n : Int} (h : d < 1 ∨ 64 < d ∨ n < 1 ∨ 8 < n) : handsE d n = 1 ∧ handsV d n = 0 := by
 have e : handsE d n = 1 := by rw [handsE, if_pos h]
 exact ⟨e, by rw [handsV, e]; rfl⟩
theorem E8 {d n : Int} (h : ¬ (d < 1 ∨ 64 < d ∨ n < 1 ∨ 8 < n)) (h2 : d < n) : handsE d n = 8 ∧ handsV d n = 0 := by
 have e : handsE d n = 8 := by rw [handsE, if_neg h, if_pos h2]
 exact ⟨e, by rw [handsV, e]; rfl⟩
theorem E10 {d n : Int} (h : ¬ (d < 1 ∨ 64 < d ∨ n < 1 ∨ 8 < n)) (h2 : ¬ d < n) (h3 : 1099511627776 < hprod d n.toNat) : handsE d n = 10 ∧ handsV d n = 0 := by
 have e : handsE d n = 10 := by rw [handsE, if_neg h, if_neg h2, if_pos h3]
 exact ⟨e, by rw [handsV, e]; rfl⟩
theorem E0 {d n : Int} (h : ¬ (d < 1 ∨ 64 < d ∨ n < 1 ∨ 8 < n)) (h2 : ¬ d < n) (h3 : ¬ 1099511627776 < hprod d n.toNat) : handsE d n = 0 ∧ handsV d n = hprod d n.toNat := by
 have e : handsE d n = 0 := by rw [handsE, if_neg h, if_neg h2, if_neg h3]
 exact ⟨e, by rw [handsV, if_pos e]⟩
set_option maxHeartbeats 2000000 in
theorem hands_spec (d n : Int) : ESpec Tryz.prog 31 [.d (.s (.int .i64 d)), .d (.s (.int .i64 n))] (fun x => x = .tup [.d (.s (.int .u64 (handsV d n))), .d (.s (.int .i64 (handsE d n)))]) := by
 have hG : TblOK Tryz.prog [] := trivial
 refine ESpec.enter Tryz.func31 (by kernel_rfl) rfl (Nat.le_of_ble_eq_true rfl) fun hok cx hnt hfr => ?_
 obtain ⟨F, hF⟩ := real_ex
 refine AK.runT hF tabOK hmix hnt hfr true _ hG ?_
 conv => arg 4; cbv
 have hT : ∀ {a c : Int}, F .ltI a c = true → a < c := fun h => by rw [hF] at h; exact of_decide_eq_true h
 have hN : ∀ {a c : Int}, F .ltI a c = false → ¬ a < c := fun h => by rw [hF] at h; exact of_decide_eq_false h
 repeat' (first|with_reducible (first|refine qAh ?_|refine qAt ?_|refine qAf ?_|refine qAy (by assumption) ?_|refine qAn (by assumption) ?_|refine qAd (fun hb => ?_) (fun hb => ?_)|refine qAe ?_ (fun hb => ?_)|refine qAl ?_)|((with_reducible show _=true); assumption))
 · refine AKp.doneE tabOK hfr (by rfl) ?_
   show _ = _
   simp only [tupAV]
   rw [(E1 (.inl (hT ‹_›))).1, (E1 (.inl (hT ‹_›))).2]
 · refine AKp.doneE tabOK hfr (by rfl) ?_
   show _ = _
   simp only [tupAV]
   rw [(E1 (.inr (.inl (hT hb)))).1, (E1 (.inr (.inl (hT hb)))).2]
 · refine AKp.doneE tabOK hfr (by rfl) ?_
   show _ = _
   simp only [tupAV]
   rw [(E1 (.inr (.inr (.inl (hT hb))))).1, (E1 (.inr (.inr (.inl (hT hb))))).2]
 · refine AKp.doneE tabOK hfr (by rfl) ?_
   show _ = _
   simp only [tupAV]
   rw [(E1 (.inr (.inr (.inr (hT hb))))).1, (E1 (.inr (.inr (.inr (hT hb))))).2]
 all_goals
   rename_i hb1 hb2 hb3 hb4
   have hc : ¬ (d < 1 ∨ 64 < d ∨ n < 1 ∨ 8 < n) := by
     rintro (h | h | h | h)
     · exact hN hb1 h
     · exact hN hb2 h
     · exact hN hb3 h
     · exact hN hb4 h
 · refine AKp.doneE tabOK hfr (by rfl) ?_
   show _ = _
   simp only [tupAV]
   rw [(E8 hc (hT hb)).1, (E8 hc (hT hb)).2]
 have hdn := hN hb
 refine AKp.enterLoop 26 ?_
 conv => arg 7; cbv
 refine AKl.invT hF tabOK hmix hnt hfr true _ hG (fun m vs hs => ∃ (i : Nat) (iv av : Int), i + m = n.toNat ∧ iv = i ∧ av = hprod d i ∧ vs = [(26, .d (.s (.int .i64 iv))), (6, .d (.s (.int .u64 av)))] ∧ hs = []) n.toNat ⟨0, _, _, by omega, rfl, rfl, rfl, rfl⟩ (by repeat (first | exact True.intro | refine ⟨⟨rfl, rfl⟩, ?_⟩)) (by repeat (first | exact True.intro | refine ⟨⟨rfl, rfl, rfl⟩, ?_⟩)) ?_
 rintro J m vs hs hJ ⟨i, iv, av, hi, hiv, hav, rfl, rfl⟩
 conv => arg 4; cbv
 refine AKt.node (fun hb => ?_) (fun hb => ?_)
 · have hlt : (i : Int) < n := by have := hT hb; omega
   obtain ⟨nv, hnv⟩ : ∃ z, z = F .wrap .u64 (F .mul av (F .wrap .u64 (F .wrap .i64 (F .sub d iv)))) := ⟨_, rfl⟩
   rw [← hnv]
   rw [hstep hF hiv (by omega) (by omega) (by omega) (by omega) hav] at hnv
   repeat' (first|with_reducible (first|refine qAh ?_|refine qAt ?_|refine qAf ?_|refine qAy (by assumption) ?_|refine qAn (by assumption) ?_|refine qAd (fun hb => ?_) (fun hb => ?_)|refine qAe ?_ (fun hb => ?_)|refine qAl ?_)|((with_reducible show _=true); assumption))
   refine AKp.again _ hfr (by repeat (first | exact True.intro | refine ⟨⟨rfl, rfl⟩, ?_⟩)) (by repeat (first | exact True.intro | refine ⟨⟨rfl, rfl, rfl⟩, ?_⟩)) (hJ (m - 1) _ _ (by omega) ⟨i + 1, _, _, by omega, inc_i hF hiv (by omega), hnv, rfl, rfl⟩)
 · have hge := hN hb
   have hin : i = n.toNat := by omega
   rw [hin] at hav
   refine AKt.node (fun hb => ?_) (fun hb => ?_)
   · repeat' (first|with_reducible (first|refine qAh ?_|refine qAt ?_|refine qAf ?_|refine qAy (by assumption) ?_|refine qAn (by assumption) ?_|refine qAd (fun hb => ?_) (fun hb => ?_)|refine qAe ?_ (fun hb => ?_)|refine qAl ?_)|((with_reducible show _=true); assumption))
     refine AKp.doneE tabOK hfr (by rfl) ?_
     show _ = _
     simp only [tupAV]
     rw [(E10 hc hdn (by rw [← hav]; exact hT hb)).1, (E10 hc hdn (by rw [← hav]; exact hT hb)).2]
   · repeat' (first|with_reducible (first|refine qAh ?_|refine qAt ?_|refine qAf ?_|refine qAy (by assumption) ?_|refine qAn (by assumption) ?_|refine qAd (fun hb => ?_) (fun hb => ?_)|refine qAe ?_ (fun hb => ?_)|refine qAl ?_)|((with_reducible show _=true); assumption))
     refine AKp.doneE tabOK hfr (by rfl) ?_
     show _ = _
     simp only [tupAV]
     rw [(E0 hc hdn (by rw [← hav]; exact hN hb)).1, (E0 hc hdn (by rw [← hav]; exact hN hb)).2, hav]
def φHands (u e : Int → Int → Int) : List AV → Option (Bool × AV)
 | [.d (.s (.int .i64 d)), .d (.s (.int .i64 n))] => some (true, .tup [.d (.s (.int .u64 (u d n))), .d (.s (.int .i64 (e d n)))])
 | _ => none
theorem φHands_ok : SpOK Tryz.prog 31 (φHands (handsV) (handsE)) := by
 intro xs b x h hb
 unfold φHands at h
 split at h
 · simp only [Option.some.injEq, Prod.mk.injEq] at h
   obtain ⟨rfl, rfl⟩ := h
   exact hands_spec _ _
 · cases h
end Go.Proofs.YtpmpajodihpkaaaGreatDoor
