/- The library of this claim and its walks, part 34, joined out of smaller texts. No statement stands in it. -/
import Derived.Test.YtpmpajodihpkaaaGreatDoorUaM26
import Derived.Test.YtpmpajodihpkaaaGreatDoorUaM33
set_option linter.unusedSimpArgs false
set_option linter.unusedVariables false
namespace Go.Proofs.YtpmpajodihpkaaaGreatDoor
open Go Go.Proofs Go.Ua Go.Extern
set_option maxRecDepth 10000
theorem pschema_spec (nm lv : Wd) (rk bb : Int) (q : List Rl) : ESpec Tryz.prog 30 [.d (.agg [.s (.str nm), .s (.str lv), .s (.int .i64 rk), .s (.int .i64 bb), .view 5 (rlDs q)])] (fun x => x = .d (.s (.bool (smOK ⟨nm, lv, rk, bb, q⟩)))) := by
 obtain ⟨uPWithin, huPWithin⟩ : ∃ u : Int → Int → Int → Bool, u = inB := ⟨_, rfl⟩
 obtain ⟨uName, huName⟩ : ∃ u : List UInt8 → Bool, u = nameF := ⟨_, rfl⟩
 obtain ⟨uJoin, huJoin⟩ : ∃ u : List Dat → Bool, u = isStrs := ⟨_, rfl⟩
 obtain ⟨uJoin1, huJoin1⟩ : ∃ u : List Dat → List UInt8, u = fun l => joinF (unStr l) := ⟨_, rfl⟩
 have hG : TblOK Tryz.prog [(28, .p (φPWithin uPWithin)), (45, .p (φName uName)), (46, .p (φPLists )), (47, .p (φJoin uJoin uJoin1))] := ⟨(by rw [huPWithin]; exact φPWithin_ok), (by rw [huName]; exact φName_ok), φPLists_ok, (by rw [huJoin, huJoin1]; exact φJoin_ok), trivial⟩
 obtain ⟨rs, hrs⟩ : ∃ z, z = rlDs q := ⟨_, rfl⟩
 rw [← hrs]
 have hlen : rs.length = q.length := by rw [hrs, rlDs_len]
 obtain ⟨Z, hZ⟩ : ∃ z, z = smOK ⟨nm, lv, rk, bb, q⟩ := ⟨_, rfl⟩
 rw [← hZ]
 refine ESpec.enter Tryz.func30 (by kernel_rfl) rfl (Nat.le_of_ble_eq_true rfl) fun hok cx hnt hfr => ?_
 obtain ⟨F, hF⟩ := real_ex
 refine AK.runT hF tabOK hmix hnt hfr true _ hG ?_
 conv => arg 4; cbv
 repeat' (first|with_reducible (first|refine qAh ?_|refine qAt ?_|refine qAf ?_|refine qAy (by assumption) ?_|refine qAn (by assumption) ?_|refine qAd (fun hb => ?_) (fun hb => ?_)|refine qAe ?_ (fun hb => ?_)|refine qAl ?_)|((with_reducible show _=true); assumption))
 iterate 5
   · clear hok hG
     refine AKp.doneE tabOK hfr (by rfl) ?_
     show _ = _
     simp only [tupAV]
     rw [hZ]
     subst huPWithin huName huJoin huJoin1
     simp only [hF, f_ltI, f_leI, f_eqI, f_eqS, f_eqB, f_not, f_andB, f_orB, f_lenS, f_lenD, f_hasS, f_atS, f_hasC, f_subS, f_hasCat, f_app, f_wrap, f_add, f_sub, f_mul, f_appD, f_fits, f_hasV, f_subV, decide_eq_true_eq, decide_eq_false_iff_not, beq_iff_eq, beq_eq_false_iff_ne, Bool.and_eq_true, Bool.and_eq_false_iff, Bool.not_eq_true, Bool.not_eq_false, Bool.not_eq_eq_eq_not, Bool.not_true, Bool.not_false] at *
     rw [hlen] at *
     first
       | (simp [smOK, *]; done)
       | (simp [smOK, *]; omega)
 have hZ2 : Z = q.all rlOK := by
   clear hok hG
   rw [hZ]
   subst huPWithin huName huJoin huJoin1
   simp only [hF, f_ltI, f_leI, f_eqI, f_eqS, f_eqB, f_not, f_andB, f_orB, f_lenS, f_lenD, f_hasS, f_atS, f_hasC, f_subS, f_hasCat, f_app, f_wrap, f_add, f_sub, f_mul, f_appD, f_fits, f_hasV, f_subV, decide_eq_true_eq, decide_eq_false_iff_not, beq_iff_eq, beq_eq_false_iff_ne, Bool.and_eq_true, Bool.and_eq_false_iff, Bool.not_eq_true, Bool.not_eq_false, Bool.not_eq_eq_eq_not, Bool.not_true, Bool.not_false] at *
   rw [hlen] at *
   simp [smOK, *]
   omega
 have hq8 : q.length ≤ 8 := by
   have h : F .ltI 8 (F .lenD rs) = false := by assumption
   rw [hF, f_ltI, f_lenD, hlen] at h
   have := of_decide_eq_false h
   omega
 refine AKp.enterLoop 38 ?_
 conv => arg 7; cbv
 refine AKl.invT hF tabOK hmix hnt hfr true _ hG (fun n vs hs => ∃ (i : Nat) (iv : Int), i + n = q.length ∧ iv = i ∧ (q.take i).all rlOK = true ∧ vs = [(38, .d (.s (.int .i64 iv)))] ∧ hs = []) q.length ⟨0, _, by omega, rfl, by simp, rfl, rfl⟩ (by repeat (first | exact True.intro | refine ⟨⟨rfl, rfl⟩, ?_⟩)) (by repeat (first | exact True.intro | refine ⟨⟨rfl, rfl, rfl⟩, ?_⟩)) ?_
 rintro J n vs hs hJ ⟨i, iv, hi, hiv, hall, rfl, rfl⟩
 conv => arg 4; cbv
 refine AKt.node (fun hb => ?_) (fun hb => ?_)
 rotate_left
 · have hge : ¬ i < q.length := by rw [hF, f_ltI, f_lenD, hlen, hiv] at hb; have := of_decide_eq_false hb; omega
   repeat' (first|with_reducible (first|refine qAh ?_|refine qAt ?_|refine qAf ?_|refine qAy (by assumption) ?_|refine qAn (by assumption) ?_|refine qAd (fun hb => ?_) (fun hb => ?_)|refine qAe ?_ (fun hb => ?_)|refine qAl ?_)|((with_reducible show _=true); assumption))
   refine AKp.doneE tabOK hfr (by rfl) ?_
   show _ = _
   simp only [tupAV]
   rw [hZ2, ← hall, List.take_of_length_le (by omega)]
 have hlt : i < q.length := by rw [hF, f_ltI, f_lenD, hlen, hiv] at hb; have := of_decide_eq_true hb; omega
 obtain ⟨r, hr⟩ : ∃ r, q[i]? = some r := ⟨_, List.getElem?_eq_getElem hlt⟩
 have hd : rs[i]? = some r.dat := by rw [hrs]; exact rlDs_get hr
 have h1 : F .hasD rs iv [.view 1, .view 1, .view 1, .view 1, .view 1] = true := t_hasD hF hd hiv rfl
 have v0 : F .viewA rs iv 0 = strDs r.us := t_viewA hF hd hiv rfl
 have v1 : F .viewA rs iv 1 = strDs r.gs := t_viewA hF hd hiv rfl
 have v2 : F .viewA rs iv 2 = strDs r.vs := t_viewA hF hd hiv rfl
 have v3 : F .viewA rs iv 3 = strDs r.rs := t_viewA hF hd hiv rfl
 have v4 : F .viewA rs iv 4 = strDs r.ps := t_viewA hF hd hiv rfl
 rw [v0, v1, v2, v3, v4]
 have ej : ∀ l, uJoin1 (strDs l) = joinF l := fun l => by
   subst huPWithin huName huJoin huJoin1
   show joinF (unStr (strDs l)) = _
   rw [unStr_strDs]
 have qj : ∀ l, uJoin (strDs l) = true := fun l => by
   subst huPWithin huName huJoin huJoin1
   exact isStrs_strDs l
 obtain ⟨d0, g0⟩ : ∃ z, z = strDs r.us := ⟨_, rfl⟩
 obtain ⟨d1, g1⟩ : ∃ z, z = strDs r.gs := ⟨_, rfl⟩
 obtain ⟨d2, g2⟩ : ∃ z, z = strDs r.vs := ⟨_, rfl⟩
 obtain ⟨d3, g3⟩ : ∃ z, z = strDs r.rs := ⟨_, rfl⟩
 obtain ⟨d4, g4⟩ : ∃ z, z = strDs r.ps := ⟨_, rfl⟩
 rw [← g0, ← g1, ← g2, ← g3, ← g4]
 have q0 : uJoin d0 = true := by rw [g0]; exact qj _
 have q1 : uJoin d1 = true := by rw [g1]; exact qj _
 have q2 : uJoin d2 = true := by rw [g2]; exact qj _
 have q3 : uJoin d3 = true := by rw [g3]; exact qj _
 have q4 : uJoin d4 = true := by rw [g4]; exact qj _
 have k0 : F .inB 0 5 = some 0 := by rw [hF]; rfl
 have k1 : F .inB 1 5 = some 1 := by rw [hF]; rfl
 have k2 : F .inB 2 5 = some 2 := by rw [hF]; rfl
 have k3 : F .inB 3 5 = some 3 := by rw [hF]; rfl
 have k4 : F .inB 4 5 = some 4 := by rw [hF]; rfl
 have l0 : F .ltI 0 5 = true := by rw [hF]; rfl
 have l1 : F .ltI 1 5 = true := by rw [hF]; rfl
 have l2 : F .ltI 2 5 = true := by rw [hF]; rfl
 have l3 : F .ltI 3 5 = true := by rw [hF]; rfl
 have l4 : F .ltI 4 5 = true := by rw [hF]; rfl
 have l5 : F .ltI 5 5 = false := by rw [hF]; rfl
 have a0 : F .wrap .i64 (F .add 0 1) = 1 := by rw [hF]; rfl
 have a1 : F .wrap .i64 (F .add 1 1) = 2 := by rw [hF]; rfl
 have a2 : F .wrap .i64 (F .add 2 1) = 3 := by rw [hF]; rfl
 have a3 : F .wrap .i64 (F .add 3 1) = 4 := by rw [hF]; rfl
 have a4 : F .wrap .i64 (F .add 4 1) = 5 := by rw [hF]; rfl
 repeat' (first|with_reducible (first|refine qAh ?_|refine qAt ?_|refine qAf ?_|refine qAy (by assumption) ?_|refine qAn (by assumption) ?_|refine qAd (fun hb => ?_) (fun hb => ?_)|refine qAe ?_ (fun hb => ?_)|refine qAl ?_)|((with_reducible show _=true); assumption))
 have no : ∀ l, goodF l = false → joinF l = [] := fun l h => by unfold joinF; rw [if_neg (by rw [h]; decide)]
 have bad : rlOK r = false → Z = false := fun h => by
   rw [hZ2]
   exact all_false (i := i) hr h
 refine AKp.unroll 6 fun J0 n0 => ?_
 refine AK.runT hF tabOK hmix hnt hfr true _ hG ?_
 conv => arg 4; cbv
 refine AKt.yes l0 ?_
 rw [k0]
 conv => arg 4; cbv
 refine AKt.need q0 fun _ => ?_
 refine AKt.node (fun c0 => ?_) (fun c0 => ?_)
 · have hb2 : rlOK r = false := by
     rw [hF, f_eqS, g0, ej] at c0
     have c := eq_of_beq c0
     clear hok hG hJ n0 ej
     cases hg : rlOK r with
     | false => rfl
     | true =>
       simp only [rlOK, Bool.and_eq_true] at hg
       obtain ⟨x0, x1, x2, x3, x4⟩ := hg
       exact absurd c (lis_of x0).2.2
   repeat' (first|with_reducible (first|refine qAh ?_|refine qAt ?_|refine qAf ?_|refine qAy (by assumption) ?_|refine qAn (by assumption) ?_|refine qAd (fun hb => ?_) (fun hb => ?_)|refine qAe ?_ (fun hb => ?_)|refine qAl ?_)|((with_reducible show _=true); assumption))
   refine AKp.doneE tabOK hfr (by rfl) ?_
   show _ = _
   simp only [tupAV]
   rw [bad hb2]
 repeat' (first|with_reducible (first|refine qAh ?_|refine qAt ?_|refine qAf ?_|refine qAy (by assumption) ?_|refine qAn (by assumption) ?_|refine qAd (fun hb => ?_) (fun hb => ?_)|refine qAe ?_ (fun hb => ?_)|refine qAl ?_)|((with_reducible show _=true); assumption))
 rw [a0]
 obtain ⟨J1, n1, nx⟩ := n0
 refine AKp.backTo (nx _ ?_)
 clear nx
 refine AK.runT hF tabOK hmix hnt hfr true _ hG ?_
 conv => arg 4; cbv
 refine AKt.yes l1 ?_
 rw [k1]
 conv => arg 4; cbv
 refine AKt.need q1 fun _ => ?_
 refine AKt.node (fun c1 => ?_) (fun c1 => ?_)
 · have hb2 : rlOK r = false := by
     rw [hF, f_eqS, g1, ej] at c1
     have c := eq_of_beq c1
     clear hok hG hJ n1 ej
     cases hg : rlOK r with
     | false => rfl
     | true =>
       simp only [rlOK, Bool.and_eq_true] at hg
       obtain ⟨x0, x1, x2, x3, x4⟩ := hg
       exact absurd c (lis_of x1).2.2
   repeat' (first|with_reducible (first|refine qAh ?_|refine qAt ?_|refine qAf ?_|refine qAy (by assumption) ?_|refine qAn (by assumption) ?_|refine qAd (fun hb => ?_) (fun hb => ?_)|refine qAe ?_ (fun hb => ?_)|refine qAl ?_)|((with_reducible show _=true); assumption))
   refine AKp.doneE tabOK hfr (by rfl) ?_
   show _ = _
   simp only [tupAV]
   rw [bad hb2]
 repeat' (first|with_reducible (first|refine qAh ?_|refine qAt ?_|refine qAf ?_|refine qAy (by assumption) ?_|refine qAn (by assumption) ?_|refine qAd (fun hb => ?_) (fun hb => ?_)|refine qAe ?_ (fun hb => ?_)|refine qAl ?_)|((with_reducible show _=true); assumption))
 rw [a1]
 obtain ⟨J2, n2, nx⟩ := n1
 refine AKp.backTo (nx _ ?_)
 clear nx
 refine AK.runT hF tabOK hmix hnt hfr true _ hG ?_
 conv => arg 4; cbv
 refine AKt.yes l2 ?_
 rw [k2]
 conv => arg 4; cbv
 refine AKt.need q2 fun _ => ?_
 refine AKt.node (fun c2 => ?_) (fun c2 => ?_)
 · have hb2 : rlOK r = false := by
     rw [hF, f_eqS, g2, ej] at c2
     have c := eq_of_beq c2
     clear hok hG hJ n2 ej
     cases hg : rlOK r with
     | false => rfl
     | true =>
       simp only [rlOK, Bool.and_eq_true] at hg
       obtain ⟨x0, x1, x2, x3, x4⟩ := hg
       exact absurd c (lis_of x2).2.2
   repeat' (first|with_reducible (first|refine qAh ?_|refine qAt ?_|refine qAf ?_|refine qAy (by assumption) ?_|refine qAn (by assumption) ?_|refine qAd (fun hb => ?_) (fun hb => ?_)|refine qAe ?_ (fun hb => ?_)|refine qAl ?_)|((with_reducible show _=true); assumption))
   refine AKp.doneE tabOK hfr (by rfl) ?_
   show _ = _
   simp only [tupAV]
   rw [bad hb2]
 repeat' (first|with_reducible (first|refine qAh ?_|refine qAt ?_|refine qAf ?_|refine qAy (by assumption) ?_|refine qAn (by assumption) ?_|refine qAd (fun hb => ?_) (fun hb => ?_)|refine qAe ?_ (fun hb => ?_)|refine qAl ?_)|((with_reducible show _=true); assumption))
 rw [a2]
 obtain ⟨J3, n3, nx⟩ := n2
 refine AKp.backTo (nx _ ?_)
 clear nx
 refine AK.runT hF tabOK hmix hnt hfr true _ hG ?_
 conv => arg 4; cbv
 refine AKt.yes l3 ?_
 rw [k3]
 conv => arg 4; cbv
 refine AKt.need q3 fun _ => ?_
 refine AKt.node (fun c3 => ?_) (fun c3 => ?_)
 · have hb2 : rlOK r = false := by
     rw [hF, f_eqS, g3, ej] at c3
     have c := eq_of_beq c3
     clear hok hG hJ n3 ej
     cases hg : rlOK r with
     | false => rfl
     | true =>
       simp only [rlOK, Bool.and_eq_true] at hg
       obtain ⟨x0, x1, x2, x3, x4⟩ := hg
       exact absurd c (lis_of x3).2.2
   repeat' (first|with_reducible (first|refine qAh ?_|refine qAt ?_|refine qAf ?_|refine qAy (by assumption) ?_|refine qAn (by assumption) ?_|refine qAd (fun hb => ?_) (fun hb => ?_)|refine qAe ?_ (fun hb => ?_)|refine qAl ?_)|((with_reducible show _=true); assumption))
   refine AKp.doneE tabOK hfr (by rfl) ?_
   show _ = _
   simp only [tupAV]
   rw [bad hb2]
 repeat' (first|with_reducible (first|refine qAh ?_|refine qAt ?_|refine qAf ?_|refine qAy (by assumption) ?_|refine qAn (by assumption) ?_|refine qAd (fun hb => ?_) (fun hb => ?_)|refine qAe ?_ (fun hb => ?_)|refine qAl ?_)|((with_reducible show _=true); assumption))
 rw [a3]
 obtain ⟨J4, n4, nx⟩ := n3
 refine AKp.backTo (nx _ ?_)
 clear nx
 refine AK.runT hF tabOK hmix hnt hfr true _ hG ?_
 conv => arg 4; cbv
 refine AKt.yes l4 ?_
 rw [k4]
 conv => arg 4; cbv
 refine AKt.need q4 fun _ => ?_
 refine AKt.node (fun c4 => ?_) (fun c4 => ?_)
 · have hb2 : rlOK r = false := by
     rw [hF, f_eqS, g4, ej] at c4
     have c := eq_of_beq c4
     clear hok hG hJ n4 ej
     cases hg : rlOK r with
     | false => rfl
     | true =>
       simp only [rlOK, Bool.and_eq_true] at hg
       obtain ⟨x0, x1, x2, x3, x4⟩ := hg
       exact absurd c (lis_of x4).2.2
   repeat' (first|with_reducible (first|refine qAh ?_|refine qAt ?_|refine qAf ?_|refine qAy (by assumption) ?_|refine qAn (by assumption) ?_|refine qAd (fun hb => ?_) (fun hb => ?_)|refine qAe ?_ (fun hb => ?_)|refine qAl ?_)|((with_reducible show _=true); assumption))
   refine AKp.doneE tabOK hfr (by rfl) ?_
   show _ = _
   simp only [tupAV]
   rw [bad hb2]
 repeat' (first|with_reducible (first|refine qAh ?_|refine qAt ?_|refine qAf ?_|refine qAy (by assumption) ?_|refine qAn (by assumption) ?_|refine qAd (fun hb => ?_) (fun hb => ?_)|refine qAe ?_ (fun hb => ?_)|refine qAl ?_)|((with_reducible show _=true); assumption))
 rw [a4]
 obtain ⟨J5, n5, nx⟩ := n4
 refine AKp.backTo (nx _ ?_)
 clear nx
 refine AK.runT hF tabOK hmix hnt hfr true _ hG ?_
 conv => arg 4; cbv
 have hrl : rlOK r = true := by
   have gd : ∀ l, F .eqS (uJoin1 (strDs l)) [] = false → goodF l = true := fun l h => by
     rw [hF, f_eqS, ej] at h
     cases hg : goodF l with
     | true => rfl
     | false => rw [no l hg] at h; cases h
   rw [g0] at c0
   rw [g1] at c1
   rw [g2] at c2
   rw [g3] at c3
   rw [g4] at c4
   simp only [rlOK, gd _ c0, gd _ c1, gd _ c2, gd _ c3, gd _ c4, Bool.true_and]
 refine AKt.no l5 ?_
 repeat' (first|with_reducible (first|refine qAh ?_|refine qAt ?_|refine qAf ?_|refine qAy (by assumption) ?_|refine qAn (by assumption) ?_|refine qAd (fun hb => ?_) (fun hb => ?_)|refine qAe ?_ (fun hb => ?_)|refine qAl ?_)|((with_reducible show _=true); assumption))
 refine AKp.again _ hfr (by repeat (first | exact True.intro | refine ⟨⟨rfl, rfl⟩, ?_⟩)) (by repeat (first | exact True.intro | refine ⟨⟨rfl, rfl, rfl⟩, ?_⟩)) (hJ (n - 1) _ _ (by omega) ⟨i + 1, _, by omega, inc_i hF hiv (by omega), all_take_succ hr hall hrl, rfl, rfl⟩)
def φPSchema (p : List Dat → Bool) (u : Wd → Wd → Int → Int → List Dat → Bool) : List AV → Option (Bool × AV)
 | [.d (.agg [.s (.str nm), .s (.str lv), .s (.int .i64 rk), .s (.int .i64 bb), .view 5 rs])] => some (p rs, .d (.s (.bool (u nm lv rk bb rs))))
 | _ => none
theorem φPSchema_ok : SpOK Tryz.prog 30 (φPSchema (isRl) (fun a b c d e => smOK ⟨a, b, c, d, unRl e⟩)) := by
 intro xs b x h hb
 unfold φPSchema at h
 split at h
 · simp only [Option.some.injEq, Prod.mk.injEq] at h
   obtain ⟨rfl, rfl⟩ := h
   have h := rl_un hb; rw [← h, un_rl]; exact pschema_spec _ _ _ _ _
 · cases h
theorem hasL_take {l : List Lv} {i : Nat} {x : Lv} {n : Wd} (h : l[i]? = some x) : hasL (l.take (i + 1)) n = (hasL (l.take i) n || decide (x.nm = n)) := by
 unfold hasL
 rw [List.take_add_one, h, List.any_append]
 simp
theorem hasM_take {l : List Sm} {i : Nat} {x : Sm} {n : Wd} (h : l[i]? = some x) : hasM (l.take (i + 1)) n = (hasM (l.take i) n || decide (x.nm = n)) := by
 unfold hasM
 rw [List.take_add_one, h, List.any_append]
 simp
theorem allL_succ {l : List Lv} {i : Nat} {x : Lv} (h : l[i]? = some x) : allL [] (l.take (i + 1)) = (allL [] (l.take i) && (levOK x && !hasL (l.take i) x.nm)) := by
 rw [List.take_add_one, h]
 exact allL_snoc _ _
theorem allM_succ {l : List Sm} {i : Nat} {x : Sm} (h : l[i]? = some x) : allM [] (l.take (i + 1)) = (allM [] (l.take i) && (smOK x && !hasM (l.take i) x.nm)) := by
 rw [List.take_add_one, h]
 exact allM_snoc _ _
theorem allL_bad {l : List Lv} {i : Nat} (h : allL [] (l.take i) = false) : allL [] l = false := by
 cases hh : allL [] l with
 | false => rfl
 | true => rw [allL_take hh i] at h; cases h
theorem allM_bad {l : List Sm} {i : Nat} (h : allM [] (l.take i) = false) : allM [] l = false := by
 cases hh : allM [] l with
 | false => rfl
 | true => rw [allM_take hh i] at h; cases h
theorem pformed_spec (c : Cf) : ESpec Tryz.prog 17 [.d (.agg [.s (.int .i64 c.tt), .s (.int .i64 c.pe), .s (.int .i64 c.pr), .s (.int .i64 c.mo), .view 10 (lvDs c.ls), .view 5 (smDs c.ss)])] (fun x => x = .d (.s (.bool (formC c)))) := by
 obtain ⟨uPWithin, huPWithin⟩ : ∃ u : Int → Int → Int → Bool, u = inB := ⟨_, rfl⟩
 obtain ⟨uPLevel, huPLevel⟩ : ∃ u : Wd → Int → Int → Int → Int → Int → Int → Int → Int → Int → Bool, u = fun a b c d e f g h i j => levOK ⟨a, b, c, d, e, f, g, h, i, j⟩ := ⟨_, rfl⟩
 obtain ⟨uPSchema, huPSchema⟩ : ∃ u : List Dat → Bool, u = isRl := ⟨_, rfl⟩
 obtain ⟨uPSchema1, huPSchema1⟩ : ∃ u : Wd → Wd → Int → Int → List Dat → Bool, u = fun a b c d e => smOK ⟨a, b, c, d, unRl e⟩ := ⟨_, rfl⟩
 have hG : TblOK Tryz.prog [(28, .p (φPWithin uPWithin)), (29, .p (φPLevel uPLevel)), (30, .p (φPSchema uPSchema uPSchema1))] := ⟨(by rw [huPWithin]; exact φPWithin_ok), (by rw [huPLevel]; exact φPLevel_ok), (by rw [huPSchema, huPSchema1]; exact φPSchema_ok), trivial⟩
 obtain ⟨Z, hZ⟩ : ∃ z, z = formC c := ⟨_, rfl⟩
 rw [← hZ]
 obtain ⟨tt, pe, pr, mo, ls, ss⟩ := c
 simp only
 obtain ⟨ld, hld⟩ : ∃ z, z = lvDs ls := ⟨_, rfl⟩
 obtain ⟨sd, hsd⟩ : ∃ z, z = smDs ss := ⟨_, rfl⟩
 rw [← hld, ← hsd]
 have hll : ld.length = ls.length := by rw [hld, lvDs_len]
 have hsl : sd.length = ss.length := by rw [hsd, smDs_len]
 refine ESpec.enter Tryz.func17 (by kernel_rfl) rfl (Nat.le_of_ble_eq_true rfl) fun hok cx hnt hfr => ?_
 obtain ⟨F, hF⟩ := real_ex
 refine AK.runT hF tabOK hmix hnt hfr true _ hG ?_
 conv => arg 4; cbv
 repeat' (first|with_reducible (first|refine qAh ?_|refine qAt ?_|refine qAf ?_|refine qAy (by assumption) ?_|refine qAn (by assumption) ?_|refine qAd (fun hb => ?_) (fun hb => ?_)|refine qAe ?_ (fun hb => ?_)|refine qAl ?_)|((with_reducible show _=true); assumption))
 iterate 7
   · clear hok hG
     refine AKp.doneE tabOK hfr (by rfl) ?_
     show _ = _
     simp only [tupAV]
     rw [hZ]
     subst huPWithin huPLevel huPSchema huPSchema1
     simp only [hF, f_ltI, f_leI, f_eqI, f_eqS, f_eqB, f_not, f_andB, f_orB, f_lenS, f_lenD, f_hasS, f_atS, f_hasC, f_subS, f_hasCat, f_app, f_wrap, f_add, f_sub, f_mul, f_appD, f_fits, f_hasV, f_subV, decide_eq_true_eq, decide_eq_false_iff_not, beq_iff_eq, beq_eq_false_iff_ne, Bool.and_eq_true, Bool.and_eq_false_iff, Bool.not_eq_true, Bool.not_eq_false, Bool.not_eq_eq_eq_not, Bool.not_true, Bool.not_false] at *
     rw [hll, hsl] at *
     first
       | (simp [formC, *]; done)
       | (simp [formC, *]; omega)
       | (by_cases e1 : pr = 0 <;> by_cases e2 : mo = 0 <;> simp_all [formC, show ∀ n : Int, (n == 0) = decide (n = 0) from fun n => rfl]; done)
 have hZ2 : Z = (allL [] ls && allM [] ss) := by
   clear hok hG
   rw [hZ]
   subst huPWithin huPLevel huPSchema huPSchema1
   simp only [hF, f_ltI, f_leI, f_eqI, f_eqS, f_eqB, f_not, f_andB, f_orB, f_lenS, f_lenD, f_hasS, f_atS, f_hasC, f_subS, f_hasCat, f_app, f_wrap, f_add, f_sub, f_mul, f_appD, f_fits, f_hasV, f_subV, decide_eq_true_eq, decide_eq_false_iff_not, beq_iff_eq, beq_eq_false_iff_ne, Bool.and_eq_true, Bool.and_eq_false_iff, Bool.not_eq_true, Bool.not_eq_false, Bool.not_eq_eq_eq_not, Bool.not_true, Bool.not_false] at *
   rw [hll, hsl] at *
   have e1 : ls.length ≤ 16 := by omega
   have e2 : ss.length ≤ 32 := by omega
   by_cases e3 : pr = 0 <;> by_cases e4 : mo = 0 <;> simp [formC, *] <;> simp_all
 have hl16 : ls.length ≤ 16 := by
   have h : F .ltI 16 (F .lenD ld) = false := by assumption
   rw [hF, f_ltI, f_lenD, hll] at h
   have := of_decide_eq_false h
   omega
 have hs32 : ss.length ≤ 32 := by
   have h : F .ltI 32 (F .lenD sd) = false := by assumption
   rw [hF, f_ltI, f_lenD, hsl] at h
   have := of_decide_eq_false h
   omega
 clear hZ
 refine AKp.enterLoop 55 ?_
 conv => arg 7; cbv
 refine AKl.invT hF tabOK hmix hnt hfr true _ hG (fun n vs hs => ∃ (i : Nat) (iv : Int), i + n = ls.length ∧ iv = i ∧ allL [] (ls.take i) = true ∧ vs = [(55, .d (.s (.int .i64 iv)))] ∧ hs = [(0, .cs 25 [.d (.s (.int .i64 tt)), .d (.s (.int .i64 pe)), .d (.s (.int .i64 pr)), .d (.s (.int .i64 mo)), .d (.view 10 ld), .d (.view 5 sd)])]) ls.length ⟨0, _, by omega, rfl, by rfl, rfl, rfl⟩ (by repeat (first | exact True.intro | refine ⟨⟨rfl, rfl⟩, ?_⟩)) (by repeat (first | exact True.intro | refine ⟨⟨rfl, rfl, rfl⟩, ?_⟩)) ?_
 rintro J n vs hs hJ ⟨i, iv, hi, hiv, hall, rfl, rfl⟩
 conv => arg 4; cbv
 refine AKt.node (fun hb => ?_) (fun hb => ?_)
 · have hlt : i < ls.length := by rw [hF, f_ltI, f_lenD, hll, hiv] at hb; have := of_decide_eq_true hb; omega
   obtain ⟨x, hx⟩ : ∃ x, ls[i]? = some x := ⟨_, List.getElem?_eq_getElem hlt⟩
   have hd : ld[i]? = some x.dat := by rw [hld]; exact lvDs_get hx
   have h1 : F .hasD ld iv [.str, .int .i64, .int .i64, .int .i64, .int .i64, .int .i64, .int .i64, .int .i64, .int .i64, .int .i64] = true := t_hasD hF hd hiv rfl
   obtain ⟨xn, hxn⟩ : ∃ z, z = x.nm := ⟨_, rfl⟩
   obtain ⟨x1, hx1⟩ : ∃ z, z = x.kd := ⟨_, rfl⟩
   obtain ⟨x2, hx2⟩ : ∃ z, z = x.sh := ⟨_, rfl⟩
   obtain ⟨x3, hx3⟩ : ∃ z, z = x.ld := ⟨_, rfl⟩
   obtain ⟨x4, hx4⟩ : ∃ z, z = x.bo := ⟨_, rfl⟩
   obtain ⟨x5, hx5⟩ : ∃ z, z = x.qu := ⟨_, rfl⟩
   obtain ⟨x6, hx6⟩ : ∃ z, z = x.ha := ⟨_, rfl⟩
   obtain ⟨x7, hx7⟩ : ∃ z, z = x.le := ⟨_, rfl⟩
   obtain ⟨x8, hx8⟩ : ∃ z, z = x.wa := ⟨_, rfl⟩
   obtain ⟨x9, hx9⟩ : ∃ z, z = x.gu := ⟨_, rfl⟩
   rw [show F .strA ld iv 0 = xn by rw [hxn]; exact t_strA hF hd hiv rfl, show F .intA ld iv 1 = x1 by rw [hx1]; exact t_intA hF hd hiv rfl, show F .intA ld iv 2 = x2 by rw [hx2]; exact t_intA hF hd hiv rfl,
     show F .intA ld iv 3 = x3 by rw [hx3]; exact t_intA hF hd hiv rfl, show F .intA ld iv 4 = x4 by rw [hx4]; exact t_intA hF hd hiv rfl, show F .intA ld iv 5 = x5 by rw [hx5]; exact t_intA hF hd hiv rfl,
     show F .intA ld iv 6 = x6 by rw [hx6]; exact t_intA hF hd hiv rfl, show F .intA ld iv 7 = x7 by rw [hx7]; exact t_intA hF hd hiv rfl, show F .intA ld iv 8 = x8 by rw [hx8]; exact t_intA hF hd hiv rfl,
     show F .intA ld iv 9 = x9 by rw [hx9]; exact t_intA hF hd hiv rfl]
   have hxe : (⟨xn, x1, x2, x3, x4, x5, x6, x7, x8, x9⟩ : Lv) = x := by rw [hxn, hx1, hx2, hx3, hx4, hx5, hx6, hx7, hx8, hx9]
   have hu : uPLevel xn x1 x2 x3 x4 x5 x6 x7 x8 x9 = levOK x := by rw [← hxe, huPLevel]
   refine AKt.need h1 fun _ => AKt.have ?_
   have hb3 : levOK x = false ∨ hasL (ls.take i) x.nm = true → Z = false := fun h => by
     rw [hZ2, allL_bad (i := i + 1)]
     · rfl
     · rw [allL_succ hx]
       rcases h with h | h <;> rw [h] <;> simp
   refine AKt.node (fun hc => ?_) (fun hc => ?_)
   · have : levOK x = false := by rw [hu] at hc; simp only [hF, f_ltI, f_leI, f_eqI, f_eqS, f_eqB, f_not, f_andB, f_orB, f_lenS, f_lenD, f_hasS, f_atS, f_hasC, f_subS, f_hasCat, f_app, f_wrap, f_add, f_sub, f_mul, f_appD, f_fits, f_hasV, f_subV, decide_eq_true_eq, decide_eq_false_iff_not, beq_iff_eq, beq_eq_false_iff_ne, Bool.and_eq_true, Bool.and_eq_false_iff, Bool.not_eq_true, Bool.not_eq_false, Bool.not_eq_eq_eq_not, Bool.not_true, Bool.not_false] at hc; exact hc
     repeat' (first|with_reducible (first|refine qAh ?_|refine qAt ?_|refine qAf ?_|refine qAy (by assumption) ?_|refine qAn (by assumption) ?_|refine qAd (fun hb => ?_) (fun hb => ?_)|refine qAe ?_ (fun hb => ?_)|refine qAl ?_)|((with_reducible show _=true); assumption))
     refine AKp.doneE tabOK hfr (by rfl) ?_
     show _ = _
     simp only [tupAV]
     rw [hb3 (.inl this)]
   have hok1 : levOK x = true := by rw [hu] at hc; simp only [hF, f_ltI, f_leI, f_eqI, f_eqS, f_eqB, f_not, f_andB, f_orB, f_lenS, f_lenD, f_hasS, f_atS, f_hasC, f_subS, f_hasCat, f_app, f_wrap, f_add, f_sub, f_mul, f_appD, f_fits, f_hasV, f_subV, decide_eq_true_eq, decide_eq_false_iff_not, beq_iff_eq, beq_eq_false_iff_ne, Bool.and_eq_true, Bool.and_eq_false_iff, Bool.not_eq_true, Bool.not_eq_false, Bool.not_eq_eq_eq_not, Bool.not_true, Bool.not_false] at hc; exact hc
   have hv : F .hasV ld 0 iv = true := t_hasV hF (i := 0) (j := i) rfl hiv (by omega) (by omega)
   obtain ⟨pd, hpd⟩ : ∃ z, z = F .subV ld 0 iv := ⟨_, rfl⟩
   have hpd2 : pd = lvDs (ls.take i) := by rw [hpd, t_subV hF (iv := 0) (i := 0) (j := i) rfl hiv, hld]; simp [lvDs, List.map_take]
   have hpl : pd.length = i := by rw [hpd2, lvDs_len]; simp; omega
   rw [← hpd]
   refine AKt.need hv fun _ => ?_
   refine AKt.leaf ?_
   refine AKp.enterLoop 68 ?_
   conv => arg 7; cbv
   refine AKl.invT hF tabOK hmix hnt hfr true _ hG (fun m vs hs => ∃ (k : Nat) (kv : Int), k + m = i ∧ kv = k ∧ hasL ((ls.take i).take k) x.nm = false ∧ vs = [(68, .d (.s (.int .i64 kv)))] ∧ hs = [(1, .cs 40 [.d (.s (.str xn)), .d (.s (.int .i64 x1)), .d (.s (.int .i64 x2)), .d (.s (.int .i64 x3)), .d (.s (.int .i64 x4)), .d (.s (.int .i64 x5)), .d (.s (.int .i64 x6)), .d (.s (.int .i64 x7)), .d (.s (.int .i64 x8)), .d (.s (.int .i64 x9))]), (0, .cs 25 [.d (.s (.int .i64 tt)), .d (.s (.int .i64 pe)), .d (.s (.int .i64 pr)), .d (.s (.int .i64 mo)), .d (.view 10 ld), .d (.view 5 sd)])]) i ⟨0, _, by omega, rfl, by rfl, rfl, rfl⟩ (by repeat (first | exact True.intro | refine ⟨⟨rfl, rfl⟩, ?_⟩)) (by repeat (first | exact True.intro | refine ⟨⟨rfl, rfl, rfl⟩, ?_⟩)) ?_
   rintro J2 m vs hs hJ2 ⟨k, kv, hk, hkv, hno, rfl, rfl⟩
   conv => arg 4; cbv
   refine AKt.node (fun hd2 => ?_) (fun hd2 => ?_)
   · have hlt2 : k < i := by rw [hF, f_ltI, f_lenD, hpl, hkv] at hd2; have := of_decide_eq_true hd2; omega
     obtain ⟨y, hy⟩ : ∃ y, (ls.take i)[k]? = some y := ⟨_, List.getElem?_eq_getElem (by simp; omega)⟩
     have hdy : pd[k]? = some y.dat := by rw [hpd2]; exact lvDs_get hy
     have hhy : F .hasD pd kv [.str, .int .i64, .int .i64, .int .i64, .int .i64, .int .i64, .int .i64, .int .i64, .int .i64, .int .i64] = true := t_hasD hF hdy hkv rfl
     rw [show F .strA pd kv 0 = y.nm by exact t_strA hF hdy hkv rfl]
     refine AKt.need hhy fun _ => ?_
     refine AKt.node (fun he => ?_) (fun he => ?_)
     · have e : y.nm = x.nm := by rw [hF, f_eqS, hxn] at he; exact eq_of_beq he
       have : hasL (ls.take i) x.nm = true := by
         unfold hasL
         rw [List.any_eq_true]
         exact ⟨y, List.mem_of_getElem? hy, decide_eq_true e⟩
       repeat' (first|with_reducible (first|refine qAh ?_|refine qAt ?_|refine qAf ?_|refine qAy (by assumption) ?_|refine qAn (by assumption) ?_|refine qAd (fun hb => ?_) (fun hb => ?_)|refine qAe ?_ (fun hb => ?_)|refine qAl ?_)|((with_reducible show _=true); assumption))
       refine AKp.doneE tabOK hfr (by rfl) ?_
       show _ = _
       simp only [tupAV]
       rw [hb3 (.inr this)]
     · have e : ¬ y.nm = x.nm := by rw [hF, f_eqS, hxn] at he; intro e; rw [e] at he; simp at he
       repeat' (first|with_reducible (first|refine qAh ?_|refine qAt ?_|refine qAf ?_|refine qAy (by assumption) ?_|refine qAn (by assumption) ?_|refine qAd (fun hb => ?_) (fun hb => ?_)|refine qAe ?_ (fun hb => ?_)|refine qAl ?_)|((with_reducible show _=true); assumption))
       refine AKp.again _ hfr (by repeat (first | exact True.intro | refine ⟨⟨rfl, rfl⟩, ?_⟩)) (by repeat (first | exact True.intro | refine ⟨⟨rfl, rfl, rfl⟩, ?_⟩)) (hJ2 (m - 1) _ _ (by omega) ⟨k + 1, _, by omega, inc_i hF hkv (by omega), by rw [hasL_take hy, hno, decide_eq_false e]; rfl, rfl, rfl⟩)
   · have hge : ¬ k < i := by rw [hF, f_ltI, f_lenD, hpl, hkv] at hd2; have := of_decide_eq_false hd2; omega
     rw [List.take_of_length_le (by simp; omega)] at hno
     repeat' (first|with_reducible (first|refine qAh ?_|refine qAt ?_|refine qAf ?_|refine qAy (by assumption) ?_|refine qAn (by assumption) ?_|refine qAd (fun hb => ?_) (fun hb => ?_)|refine qAe ?_ (fun hb => ?_)|refine qAl ?_)|((with_reducible show _=true); assumption))
     refine AKp.again _ hfr (by repeat (first | exact True.intro | refine ⟨⟨rfl, rfl⟩, ?_⟩)) (by repeat (first | exact True.intro | refine ⟨⟨rfl, rfl, rfl⟩, ?_⟩)) (hJ (n - 1) _ _ (by omega) ⟨i + 1, _, by omega, inc_i hF hiv (by omega), by rw [allL_succ hx, hall, hok1, hno]; rfl, rfl, rfl⟩)
 have hge : ¬ i < ls.length := by rw [hF, f_ltI, f_lenD, hll, hiv] at hb; have := of_decide_eq_false hb; omega
 rw [List.take_of_length_le (by omega)] at hall
 have hZ3 : Z = allM [] ss := by rw [hZ2, hall]; rfl
 clear hZ2 hJ J
 repeat' (first|with_reducible (first|refine qAh ?_|refine qAt ?_|refine qAf ?_|refine qAy (by assumption) ?_|refine qAn (by assumption) ?_|refine qAd (fun hb => ?_) (fun hb => ?_)|refine qAe ?_ (fun hb => ?_)|refine qAl ?_)|((with_reducible show _=true); assumption))
 refine AKp.enterLoop 82 ?_
 conv => arg 7; cbv
 refine AKl.invT hF tabOK hmix hnt hfr true _ hG (fun n vs hs => ∃ (i : Nat) (iv : Int), i + n = ss.length ∧ iv = i ∧ allM [] (ss.take i) = true ∧ vs = [(82, .d (.s (.int .i64 iv)))] ∧ hs = [(0, .cs 25 [.d (.s (.int .i64 tt)), .d (.s (.int .i64 pe)), .d (.s (.int .i64 pr)), .d (.s (.int .i64 mo)), .d (.view 10 ld), .d (.view 5 sd)])]) ss.length ⟨0, _, by omega, rfl, by rfl, rfl, rfl⟩ (by repeat (first | exact True.intro | refine ⟨⟨rfl, rfl⟩, ?_⟩)) (by repeat (first | exact True.intro | refine ⟨⟨rfl, rfl, rfl⟩, ?_⟩)) ?_
 rintro J n vs hs hJ ⟨i, iv, hi, hiv, hall, rfl, rfl⟩
 conv => arg 4; cbv
 refine AKt.node (fun hb => ?_) (fun hb => ?_)
 · have hlt : i < ss.length := by rw [hF, f_ltI, f_lenD, hsl, hiv] at hb; have := of_decide_eq_true hb; omega
   obtain ⟨x, hx⟩ : ∃ x, ss[i]? = some x := ⟨_, List.getElem?_eq_getElem hlt⟩
   have hd : sd[i]? = some x.dat := by rw [hsd]; exact smDs_get hx
   have h1 : F .hasD sd iv [.str, .str, .int .i64, .int .i64, .view 5] = true := t_hasD hF hd hiv rfl
   obtain ⟨xn, hxn⟩ : ∃ z, z = x.nm := ⟨_, rfl⟩
   obtain ⟨x1, hx1⟩ : ∃ z, z = x.lv := ⟨_, rfl⟩
   obtain ⟨x2, hx2⟩ : ∃ z, z = x.rk := ⟨_, rfl⟩
   obtain ⟨x3, hx3⟩ : ∃ z, z = x.bb := ⟨_, rfl⟩
   obtain ⟨x4, hx4⟩ : ∃ z, z = rlDs x.rl := ⟨_, rfl⟩
   rw [show F .strA sd iv 0 = xn by rw [hxn]; exact t_strA hF hd hiv rfl, show F .strA sd iv 1 = x1 by rw [hx1]; exact t_strA hF hd hiv rfl, show F .intA sd iv 2 = x2 by rw [hx2]; exact t_intA hF hd hiv rfl,
     show F .intA sd iv 3 = x3 by rw [hx3]; exact t_intA hF hd hiv rfl, show F .viewA sd iv 4 = x4 by rw [hx4]; exact t_viewA hF hd hiv rfl]
   have hu : uPSchema1 xn x1 x2 x3 x4 = smOK x := by rw [hxn, hx1, hx2, hx3, hx4, huPSchema1]; show smOK ⟨_, _, _, _, unRl (rlDs x.rl)⟩ = _; rw [un_rl]
   have q0 : uPSchema x4 = true := by rw [hx4, huPSchema]; exact is_rl _
   refine AKt.need h1 fun _ => AKt.need q0 fun _ => ?_
   have hb3 : smOK x = false ∨ hasM (ss.take i) x.nm = true → Z = false := fun h => by
     rw [hZ3, allM_bad (i := i + 1)]
     · rw [allM_succ hx]
       rcases h with h | h <;> rw [h] <;> simp
   refine AKt.node (fun hc => ?_) (fun hc => ?_)
   · have : smOK x = false := by rw [hu] at hc; simp only [hF, f_ltI, f_leI, f_eqI, f_eqS, f_eqB, f_not, f_andB, f_orB, f_lenS, f_lenD, f_hasS, f_atS, f_hasC, f_subS, f_hasCat, f_app, f_wrap, f_add, f_sub, f_mul, f_appD, f_fits, f_hasV, f_subV, decide_eq_true_eq, decide_eq_false_iff_not, beq_iff_eq, beq_eq_false_iff_ne, Bool.and_eq_true, Bool.and_eq_false_iff, Bool.not_eq_true, Bool.not_eq_false, Bool.not_eq_eq_eq_not, Bool.not_true, Bool.not_false] at hc; exact hc
     repeat' (first|with_reducible (first|refine qAh ?_|refine qAt ?_|refine qAf ?_|refine qAy (by assumption) ?_|refine qAn (by assumption) ?_|refine qAd (fun hb => ?_) (fun hb => ?_)|refine qAe ?_ (fun hb => ?_)|refine qAl ?_)|((with_reducible show _=true); assumption))
     refine AKp.doneE tabOK hfr (by rfl) ?_
     show _ = _
     simp only [tupAV]
     rw [hb3 (.inl this)]
   have hok1 : smOK x = true := by rw [hu] at hc; simp only [hF, f_ltI, f_leI, f_eqI, f_eqS, f_eqB, f_not, f_andB, f_orB, f_lenS, f_lenD, f_hasS, f_atS, f_hasC, f_subS, f_hasCat, f_app, f_wrap, f_add, f_sub, f_mul, f_appD, f_fits, f_hasV, f_subV, decide_eq_true_eq, decide_eq_false_iff_not, beq_iff_eq, beq_eq_false_iff_ne, Bool.and_eq_true, Bool.and_eq_false_iff, Bool.not_eq_true, Bool.not_eq_false, Bool.not_eq_eq_eq_not, Bool.not_true, Bool.not_false] at hc; exact hc
   have hv : F .hasV sd 0 iv = true := t_hasV hF (i := 0) (j := i) rfl hiv (by omega) (by omega)
   obtain ⟨pd, hpd⟩ : ∃ z, z = F .subV sd 0 iv := ⟨_, rfl⟩
   have hpd2 : pd = smDs (ss.take i) := by rw [hpd, t_subV hF (iv := 0) (i := 0) (j := i) rfl hiv, hsd]; simp [smDs, List.map_take]
   have hpl : pd.length = i := by rw [hpd2, smDs_len]; simp; omega
   rw [← hpd]
   refine AKt.need hv fun _ => ?_
   refine AKt.leaf ?_
   refine AKp.enterLoop 95 ?_
   conv => arg 7; cbv
   refine AKl.invT hF tabOK hmix hnt hfr true _ hG (fun m vs hs => ∃ (k : Nat) (kv : Int), k + m = i ∧ kv = k ∧ hasM ((ss.take i).take k) x.nm = false ∧ vs = [(95, .d (.s (.int .i64 kv)))] ∧ hs = [(1, .cs 43 [.d (.s (.str xn)), .d (.s (.str x1)), .d (.s (.int .i64 x2)), .d (.s (.int .i64 x3)), .d (.view 5 x4)]), (0, .cs 25 [.d (.s (.int .i64 tt)), .d (.s (.int .i64 pe)), .d (.s (.int .i64 pr)), .d (.s (.int .i64 mo)), .d (.view 10 ld), .d (.view 5 sd)])]) i ⟨0, _, by omega, rfl, by rfl, rfl, rfl⟩ (by repeat (first | exact True.intro | refine ⟨⟨rfl, rfl⟩, ?_⟩)) (by repeat (first | exact True.intro | refine ⟨⟨rfl, rfl, rfl⟩, ?_⟩)) ?_
   rintro J2 m vs hs hJ2 ⟨k, kv, hk, hkv, hno, rfl, rfl⟩
   conv => arg 4; cbv
   refine AKt.node (fun hd2 => ?_) (fun hd2 => ?_)
   · have hlt2 : k < i := by rw [hF, f_ltI, f_lenD, hpl, hkv] at hd2; have := of_decide_eq_true hd2; omega
     obtain ⟨y, hy⟩ : ∃ y, (ss.take i)[k]? = some y := ⟨_, List.getElem?_eq_getElem (by simp; omega)⟩
     have hdy : pd[k]? = some y.dat := by rw [hpd2]; exact smDs_get hy
     have hhy : F .hasD pd kv [.str, .str, .int .i64, .int .i64, .view 5] = true := t_hasD hF hdy hkv rfl
     rw [show F .strA pd kv 0 = y.nm by exact t_strA hF hdy hkv rfl]
     refine AKt.need hhy fun _ => ?_
     refine AKt.node (fun he => ?_) (fun he => ?_)
     · have e : y.nm = x.nm := by rw [hF, f_eqS, hxn] at he; exact eq_of_beq he
       have : hasM (ss.take i) x.nm = true := by
         unfold hasM
         rw [List.any_eq_true]
         exact ⟨y, List.mem_of_getElem? hy, decide_eq_true e⟩
       repeat' (first|with_reducible (first|refine qAh ?_|refine qAt ?_|refine qAf ?_|refine qAy (by assumption) ?_|refine qAn (by assumption) ?_|refine qAd (fun hb => ?_) (fun hb => ?_)|refine qAe ?_ (fun hb => ?_)|refine qAl ?_)|((with_reducible show _=true); assumption))
       refine AKp.doneE tabOK hfr (by rfl) ?_
       show _ = _
       simp only [tupAV]
       rw [hb3 (.inr this)]
     · have e : ¬ y.nm = x.nm := by rw [hF, f_eqS, hxn] at he; intro e; rw [e] at he; simp at he
       repeat' (first|with_reducible (first|refine qAh ?_|refine qAt ?_|refine qAf ?_|refine qAy (by assumption) ?_|refine qAn (by assumption) ?_|refine qAd (fun hb => ?_) (fun hb => ?_)|refine qAe ?_ (fun hb => ?_)|refine qAl ?_)|((with_reducible show _=true); assumption))
       refine AKp.again _ hfr (by repeat (first | exact True.intro | refine ⟨⟨rfl, rfl⟩, ?_⟩)) (by repeat (first | exact True.intro | refine ⟨⟨rfl, rfl, rfl⟩, ?_⟩)) (hJ2 (m - 1) _ _ (by omega) ⟨k + 1, _, by omega, inc_i hF hkv (by omega), by rw [hasM_take hy, hno, decide_eq_false e]; rfl, rfl, rfl⟩)
   · have hge : ¬ k < i := by rw [hF, f_ltI, f_lenD, hpl, hkv] at hd2; have := of_decide_eq_false hd2; omega
     rw [List.take_of_length_le (by simp; omega)] at hno
     repeat' (first|with_reducible (first|refine qAh ?_|refine qAt ?_|refine qAf ?_|refine qAy (by assumption) ?_|refine qAn (by assumption) ?_|refine qAd (fun hb => ?_) (fun hb => ?_)|refine qAe ?_ (fun hb => ?_)|refine qAl ?_)|((with_reducible show _=true); assumption))
     refine AKp.again _ hfr (by repeat (first | exact True.intro | refine ⟨⟨rfl, rfl⟩, ?_⟩)) (by repeat (first | exact True.intro | refine ⟨⟨rfl, rfl, rfl⟩, ?_⟩)) (hJ (n - 1) _ _ (by omega) ⟨i + 1, _, by omega, inc_i hF hiv (by omega), by rw [allM_succ hx, hall, hok1, hno]; rfl, rfl, rfl⟩)
 have hge : ¬ i < ss.length := by rw [hF, f_ltI, f_lenD, hsl, hiv] at hb; have := of_decide_eq_false hb; omega
 rw [List.take_of_length_le (by omega)] at hall
 repeat' (first|with_reducible (first|refine qAh ?_|refine qAt ?_|refine qAf ?_|refine qAy (by assumption) ?_|refine qAn (by assumption) ?_|refine qAd (fun hb => ?_) (fun hb => ?_)|refine qAe ?_ (fun hb => ?_)|refine qAl ?_)|((with_reducible show _=true); assumption))
 refine AKp.doneE tabOK hfr (by rfl) ?_
 show _ = _
 simp only [tupAV]
 rw [hZ3, hall]
def isCf (ls ss : List Dat) : Bool := isLv ls && isSm ss
def cfOf (a b c d : Int) (ls ss : List Dat) : Cf := ⟨a, b, c, d, unLv ls, unSm ss⟩
theorem pformedD_spec (a b c d : Int) (ls ss : List Dat) (hb : isCf ls ss = true) : ESpec Tryz.prog 17 [.d (.agg [.s (.int .i64 a), .s (.int .i64 b), .s (.int .i64 c), .s (.int .i64 d), .view 10 ls, .view 5 ss])] (fun x => x = .d (.s (.bool (formC (cfOf a b c d ls ss))))) := by
 simp only [isCf, Bool.and_eq_true] at hb
 have h := pformed_spec (cfOf a b c d ls ss)
 simp only [cfOf, lv_un hb.1, sm_un hb.2] at h
 exact h
def φPFormed (p : List Dat → List Dat → Bool) (u : Int → Int → Int → Int → List Dat → List Dat → Bool) : List AV → Option (Bool × AV)
 | [.d (.agg [.s (.int .i64 a), .s (.int .i64 b), .s (.int .i64 c), .s (.int .i64 d), .view 10 ls, .view 5 ss])] => some (p ls ss, .d (.s (.bool (u a b c d ls ss))))
 | _ => none
theorem φPFormed_ok : SpOK Tryz.prog 17 (φPFormed (isCf) (fun a b c d ls ss => formC (cfOf a b c d ls ss))) := by
 intro xs b x h hb
 unfold φPFormed at h
 split at h
 · simp only [Option.some.injEq, Prod.mk.injEq] at h
   obtain ⟨rfl, rfl⟩ := h
   exact pformedD_spec _ _ _ _ _ _ hb
 · cases h
end Go.Proofs.YtpmpajodihpkaaaGreatDoor
namespace Go.Proofs.YtpmpajodihpkaaaGreatDoor
open Go Go.Proofs Go.Ua Go.Extern
theorem word_no {w : List UInt8} (h : wordF w = true) : w ≠ [] ∧ (32 : UInt8) ∉ w ∧ (10 : UInt8) ∉ w := by
 refine ⟨(word_parts h).1, fun hm => ?_, fun hm => ?_⟩
 · rw [wordF_no hm (.inr (.inl rfl))] at h; cases h
 · rw [wordF_no hm (.inr (.inr rfl))] at h; cases h
end Go.Proofs.YtpmpajodihpkaaaGreatDoor
