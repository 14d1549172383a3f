/- The library of this claim and its walks, part 42, joined out of smaller texts. No statement stands in it. -/
import Derived.Test.YtpmpajodihpkaaaGreatDoorUaM29
import Derived.Test.YtpmpajodihpkaaaGreatDoorUaM34
import Derived.Test.YtpmpajodihpkaaaGreatDoorUaM41
set_option linter.unusedSimpArgs false
set_option linter.unusedVariables false
namespace Go.Proofs.YtpmpajodihpkaaaGreatDoor
open Go Go.Proofs Go.Ua Go.Extern
set_option maxRecDepth 10000
def lnB (c : Cf) : Bool := decide (c.ls.length ≤ 1000) && (decide (c.ss.length ≤ 1000) && (c.ls.all (fun l => decide (l.nm.length ≤ 100000)) && c.ss.all (fun s => decide (s.nm.length ≤ 100000) && (decide (s.lv.length ≤ 100000) && decide (s.rl.length ≤ 1000)))))
set_option maxHeartbeats 8000000 in
set_option cbv.maxSteps 10000000 in
theorem rlines_spec (c : Cf) (hp : lnB c = true) : ESpec Tryz.prog 37 [.d (.agg [.s (.int .i64 c.tt), .s (.int .i64 c.pe), .s (.int .i64 c.pr), .s (.int .i64 c.mo), .view 10 (lvDs c.ls), .view 5 (smDs c.ss)])] (fun x => x = .d (.view 1 (strDs (linesR c)))) := by
 obtain ⟨uRDig, huRDig⟩ : ∃ u : Int → List UInt8, u = digR := ⟨_, rfl⟩
 obtain ⟨uRLis, huRLis⟩ : ∃ u : List Dat → Bool, u = isStrs := ⟨_, rfl⟩
 obtain ⟨uRLis1, huRLis1⟩ : ∃ u : List Dat → List UInt8, u = fun es => lisR (unStr es) := ⟨_, rfl⟩
 have hG : TblOK Tryz.prog [(53, .p (φRDig uRDig)), (54, .p (φRLis uRLis uRLis1))] := ⟨(by rw [huRDig]; exact φRDig_ok), (by rw [huRLis, huRLis1]; exact φRLis_ok), trivial⟩
 simp only [lnB, Bool.and_eq_true, decide_eq_true_eq] at hp
 obtain ⟨p1, p2, p3, p4⟩ := hp
 obtain ⟨R, hR⟩ : ∃ z, z = strDs (linesR c) := ⟨_, rfl⟩
 rw [← hR]
 unfold linesR at hR
 obtain ⟨H, hH⟩ : ∃ z, z = headR c := ⟨_, rfl⟩
 rw [← hH] at hR
 unfold headR at hH
 obtain ⟨tt, pe, pr, mo, ls, ss⟩ := c
 simp only at hH hR p1 p2 p3 p4 ⊢
 obtain ⟨ld, hld⟩ : ∃ z, z = lvDs ls := ⟨_, rfl⟩
 obtain ⟨sd, hsd⟩ : ∃ z, z = smDs ss := ⟨_, rfl⟩
 rw [← hld, ← hsd]
 have hll : ld.length = ls.length := by rw [hld, lvDs_len]
 have hsl : sd.length = ss.length := by rw [hsd, smDs_len]
 obtain ⟨H1, hH1⟩ : ∃ z : List Wd, z = if tt = 0 then [] else [[116, 111, 116, 97, 108, 32] ++ digR tt] := ⟨_, rfl⟩
 obtain ⟨H2, hH2⟩ : ∃ z : List Wd, z = if pe = 0 then [] else [[112, 101, 114, 105, 111, 100, 32] ++ digR pe] := ⟨_, rfl⟩
 obtain ⟨H3, hH3⟩ : ∃ z : List Wd, z = if pr = 0 ∧ mo = 0 then [] else [[115, 101, 97, 116, 115, 32] ++ digR pr ++ [32] ++ digR mo] := ⟨_, rfl⟩
 rw [← hH1, ← hH2, ← hH3] at hH
 have H1l : H1.length ≤ 1 := by rw [hH1]; split <;> simp
 have H2l : H2.length ≤ 1 := by rw [hH2]; split <;> simp
 have H3l : H3.length ≤ 1 := by rw [hH3]; split <;> simp
 refine ESpec.enter Tryz.func37 (by kernel_rfl) rfl (Nat.le_of_ble_eq_true rfl) fun hok cx hnt hfr => ?_
 obtain ⟨F, hF⟩ := real_ex
 refine AK.runTs hF tabOK hmix hnt hfr [2] true _ hG ?_
 conv => arg 4; cbv
 have o1 : tt ≤ 9223372036854775807 := hok.1.1.2
 have o2 : pe ≤ 9223372036854775807 := hok.1.2.1.2
 have o3 : pr ≤ 9223372036854775807 := hok.1.2.2.1.2
 have o4 : mo ≤ 9223372036854775807 := hok.1.2.2.2.1.2
 have ud : ∀ n, uRDig n = digR n := fun n => by subst huRDig huRLis huRLis1; rfl
 have app := t_app hF
 have hcat : ∀ x y : List UInt8, x.length + y.length ≤ 10000000 → F .hasCat x y = true := fun x y h => t_hasCat hF (by omega)
 have EI : ∀ a : Int, F .not (F .eqI a 0) = !decide (a = 0) := fun a => by
   rw [hF, f_not, f_eqI]
   by_cases e : a = 0 <;> simp [e]
 have fitS : ∀ l : List Wd, l.length ≤ 100000 → F .fits 16 (strDs l) = true := fun l h => t_fits hF (by rw [strDs_length]; omega)
 have appS : ∀ (ad : List Dat) (l : List Wd) (x : Wd), ad = strDs l → F .appD ad [.s (.str x)] = strDs (l ++ [x]) := fun ad l x h => by rw [hF, f_appD, h]; simp [strDs]
 have L1 := digR_len o1
 have L2 := digR_len o2
 have L3 := digR_len o3
 have L4 := digR_len o4
 repeat' (first|with_reducible (first|refine qAh ?_|refine qAt ?_|refine qAf ?_|refine qAy (by assumption) ?_|refine qAn (by assumption) ?_|refine qAd (fun hb => ?_) (fun hb => ?_)|refine qAe ?_ (fun hb => ?_)|refine qAl ?_)|((with_reducible show _=true); assumption))
 refine AKp.asRow 3 9 1 (by decide) rfl ?_
 conv => arg 4; arg 2; cbv
 refine exK ?K26 fun k26 hK26 => ?_
 rotate_left
 have rest26 : ∀ ad : List Dat, ad = strDs (H ++ ls.map levR) → AK Tryz.prog cx (finE Tryz.prog Tryz.f37 cx fun x => x = .d (.view 1 R)) k26 ⟨[(1, .ptr 0 0 0 6), (3, .row 1 1), (9, .d (.s (.int .i64 0)))], [(1, .ds 9 1 ad), (0, .cs 25 [.d (.s (.int .i64 tt)), .d (.s (.int .i64 pe)), .d (.s (.int .i64 pr)), .d (.s (.int .i64 mo)), .d (.view 10 ld), .d (.view 5 sd)])], 2⟩ := ?r26
 refine exK ?K9 fun k9 hK9 => ?_
 rotate_left
 have rest9 : ∀ ad : List Dat, ad = strDs H → AK Tryz.prog cx (finE Tryz.prog Tryz.f37 cx fun x => x = .d (.view 1 R)) k9 ⟨[(1, .ptr 0 0 0 6), (3, .row 1 1), (4, .d (.s (.int .i64 0)))], [(1, .ds 9 1 ad), (0, .cs 25 [.d (.s (.int .i64 tt)), .d (.s (.int .i64 pe)), .d (.s (.int .i64 pr)), .d (.s (.int .i64 mo)), .d (.view 10 ld), .d (.view 5 sd)])], 2⟩ := ?r9
 refine exK ?K6 fun k6 hK6 => ?_
 rotate_left
 have rest6 : ∀ ad : List Dat, ad = strDs (H1 ++ H2) → AK Tryz.prog cx (finE Tryz.prog Tryz.f37 cx fun x => x = .d (.view 1 R)) k6 ⟨[(1, .ptr 0 0 0 6), (3, .row 1 1)], [(1, .ds 9 1 ad), (0, .cs 25 [.d (.s (.int .i64 tt)), .d (.s (.int .i64 pe)), .d (.s (.int .i64 pr)), .d (.s (.int .i64 mo)), .d (.view 10 ld), .d (.view 5 sd)])], 2⟩ := ?r6
 refine exK ?K4 fun k4 hK4 => ?_
 rotate_left
 have rest4 : ∀ ad : List Dat, ad = strDs H1 → AK Tryz.prog cx (finE Tryz.prog Tryz.f37 cx fun x => x = .d (.view 1 R)) k4 ⟨[(1, .ptr 0 0 0 6), (3, .row 1 1)], [(1, .ds 9 1 ad), (0, .cs 25 [.d (.s (.int .i64 tt)), .d (.s (.int .i64 pe)), .d (.s (.int .i64 pr)), .d (.s (.int .i64 mo)), .d (.view 10 ld), .d (.view 5 sd)])], 2⟩ := ?r4
 refine AK.runTs hF tabOK hmix hnt hfr [4] true _ hG ?_
 conv => arg 4; cbv
 rw [EI, ud]
 have e0 : ∀ x : Wd, F .appD [] [.s (.str x)] = strDs [x] := fun x => by rw [hF]; rfl
 rw [e0, app]
 by_cases t0 : tt = 0
 · rw [if_pos t0] at hH1
   rw [decide_eq_true t0]
   refine AKt.ff ?_
   refine AKt.leaf ?_
   refine AKp.join hK4 _ hfr ?_ ?_ (rest4 [] (by rw [hH1]; rfl))
   · repeat (first | exact True.intro | refine ⟨⟨rfl, rfl⟩, ?_⟩)
   · repeat (first | exact True.intro | refine ⟨⟨rfl, rfl, rfl⟩, ?_⟩)
 · rw [if_neg t0] at hH1
   rw [decide_eq_false t0]
   refine AKt.tt ?_
   have c1 : F .hasCat [116, 111, 116, 97, 108, 32] (digR tt) = true := hcat _ _ (by simp; omega)
   rw [← hH1]
   obtain ⟨ad, had⟩ : ∃ z, z = strDs H1 := ⟨_, rfl⟩
   rw [← had]
   have f1 : F .fits 16 ad = true := by rw [had]; exact fitS _ (by omega)
   repeat' (first|with_reducible (first|refine qAh ?_|refine qAt ?_|refine qAf ?_|refine qAy (by assumption) ?_|refine qAn (by assumption) ?_|refine qAd (fun hb => ?_) (fun hb => ?_)|refine qAe ?_ (fun hb => ?_)|refine qAl ?_)|((with_reducible show _=true); assumption))
   refine AKp.joinR [(1, 2)] hK4 _ hfr ?_ ?_ rfl (rest4 ad had)
   · repeat (first | exact True.intro | refine ⟨⟨rfl, rfl⟩, ?_⟩)
   · repeat (first | exact True.intro | refine ⟨⟨Nat.le_of_ble_eq_true rfl, rfl, rfl⟩, ?_⟩)
 case' r4 =>
   intro ad had
   rw [hK4]
   refine AK.runTs hF tabOK hmix hnt hfr [6] true _ hG ?_
   conv => arg 4; cbv
   rw [EI, ud]
   by_cases t0 : pe = 0
   · rw [if_pos t0] at hH2
     rw [decide_eq_true t0]
     refine AKt.ff ?_
     refine AKt.leaf ?_
     refine AKp.join hK6 _ hfr ?_ ?_ (rest6 ad (by rw [hH2, List.append_nil]; exact had))
     · repeat (first | exact True.intro | refine ⟨⟨rfl, rfl⟩, ?_⟩)
     · repeat (first | exact True.intro | refine ⟨⟨rfl, rfl, rfl⟩, ?_⟩)
   · rw [if_neg t0] at hH2
     rw [decide_eq_false t0]
     refine AKt.tt ?_
     have c1 : F .hasCat [112, 101, 114, 105, 111, 100, 32] (digR pe) = true := hcat _ _ (by simp; omega)
     rw [appS ad H1 _ had, app, ← hH2]
     obtain ⟨bd, hbd⟩ : ∃ z, z = strDs (H1 ++ H2) := ⟨_, rfl⟩
     rw [← hbd]
     have f1 : F .fits 16 bd = true := by rw [hbd]; exact fitS _ (by simp; omega)
     repeat' (first|with_reducible (first|refine qAh ?_|refine qAt ?_|refine qAf ?_|refine qAy (by assumption) ?_|refine qAn (by assumption) ?_|refine qAd (fun hb => ?_) (fun hb => ?_)|refine qAe ?_ (fun hb => ?_)|refine qAl ?_)|((with_reducible show _=true); assumption))
     refine AKp.joinR [(1, 2)] hK6 _ hfr ?_ ?_ rfl (rest6 bd hbd)
     · repeat (first | exact True.intro | refine ⟨⟨rfl, rfl⟩, ?_⟩)
     · repeat (first | exact True.intro | refine ⟨⟨Nat.le_of_ble_eq_true rfl, rfl, rfl⟩, ?_⟩)
 case' r6 =>
   intro ad had
   rw [hK6]
   refine AK.runTs hF tabOK hmix hnt hfr [9] true _ hG ?_
   conv => arg 4; cbv
   rw [ud, ud]
   have c1 : F .hasCat [115, 101, 97, 116, 115, 32] (digR pr) = true := hcat _ _ (by simp; omega)
   rw [app]
   have c2 : F .hasCat ([115, 101, 97, 116, 115, 32] ++ digR pr) [32] = true := hcat _ _ (by simp; omega)
   rw [app]
   have c3 : F .hasCat ([115, 101, 97, 116, 115, 32] ++ digR pr ++ [32]) (digR mo) = true := hcat _ _ (by simp; omega)
   rw [app, appS ad (H1 ++ H2) _ had]
   by_cases t0 : pr = 0 ∧ mo = 0
   · rw [if_pos t0] at hH3
     have b1 : F .not (F .eqI pr 0) = false := by rw [EI, decide_eq_true t0.1]; rfl
     have b2 : F .not (F .eqI mo 0) = false := by rw [EI, decide_eq_true t0.2]; rfl
     repeat' (first|with_reducible (first|refine qAh ?_|refine qAt ?_|refine qAf ?_|refine qAy (by assumption) ?_|refine qAn (by assumption) ?_|refine qAd (fun hb => ?_) (fun hb => ?_)|refine qAe ?_ (fun hb => ?_)|refine qAl ?_)|((with_reducible show _=true); assumption))
     refine AKp.join hK9 _ hfr ?_ ?_ (rest9 ad (by rw [hH, hH3, List.append_nil]; exact had))
     · repeat (first | exact True.intro | refine ⟨⟨rfl, rfl⟩, ?_⟩)
     · repeat (first | exact True.intro | refine ⟨⟨rfl, rfl, rfl⟩, ?_⟩)
   · rw [if_neg t0] at hH3
     have hHe : H1 ++ H2 ++ [[115, 101, 97, 116, 115, 32] ++ digR pr ++ [32] ++ digR mo] = H := by rw [hH, hH3, List.append_assoc]
     rw [hHe]
     obtain ⟨bd, hbd⟩ : ∃ z, z = strDs H := ⟨_, rfl⟩
     rw [← hbd]
     have f1 : F .fits 16 bd = true := by rw [hbd]; exact fitS _ (by rw [hH]; simp; omega)
     by_cases t1 : pr = 0
     · have t2 : ¬ mo = 0 := fun h => t0 ⟨t1, h⟩
       have b1 : F .not (F .eqI pr 0) = false := by rw [EI, decide_eq_true t1]; rfl
       have b2 : F .not (F .eqI mo 0) = true := by rw [EI, decide_eq_false t2]; rfl
       repeat' (first|with_reducible (first|refine qAh ?_|refine qAt ?_|refine qAf ?_|refine qAy (by assumption) ?_|refine qAn (by assumption) ?_|refine qAd (fun hb => ?_) (fun hb => ?_)|refine qAe ?_ (fun hb => ?_)|refine qAl ?_)|((with_reducible show _=true); assumption))
       refine AKp.joinR [(1, 2)] hK9 _ hfr ?_ ?_ rfl (rest9 bd hbd)
       · repeat (first | exact True.intro | refine ⟨⟨rfl, rfl⟩, ?_⟩)
       · repeat (first | exact True.intro | refine ⟨⟨Nat.le_of_ble_eq_true rfl, rfl, rfl⟩, ?_⟩)
     · have b1 : F .not (F .eqI pr 0) = true := by rw [EI, decide_eq_false t1]; rfl
       repeat' (first|with_reducible (first|refine qAh ?_|refine qAt ?_|refine qAf ?_|refine qAy (by assumption) ?_|refine qAn (by assumption) ?_|refine qAd (fun hb => ?_) (fun hb => ?_)|refine qAe ?_ (fun hb => ?_)|refine qAl ?_)|((with_reducible show _=true); assumption))
       refine AKp.joinR [(1, 2)] hK9 _ hfr ?_ ?_ rfl (rest9 bd hbd)
       · repeat (first | exact True.intro | refine ⟨⟨rfl, rfl⟩, ?_⟩)
       · repeat (first | exact True.intro | refine ⟨⟨Nat.le_of_ble_eq_true rfl, rfl, rfl⟩, ?_⟩)
 case' r9 =>
   intro ad had
   rw [hK9]
   have lev : ∀ i : Nat, (ls.take i).map levR = (ls.map levR).take i := fun i => by rw [List.map_take]
   refine AKp.enterLoop 54 ?_
   conv => arg 7; cbv
   refine AKl.invT hF tabOK hmix hnt hfr true _ hG (fun n vs hs => ∃ (i : Nat) (iv : Int) (ad : List Dat), i + n = ls.length ∧ iv = i ∧ ad = strDs (H ++ (ls.take i).map levR) ∧ vs = [(4, .d (.s (.int .i64 iv))), (3, .row 1 1)] ∧ hs = [(1, .ds 9 1 ad), (0, .cs 25 [.d (.s (.int .i64 tt)), .d (.s (.int .i64 pe)), .d (.s (.int .i64 pr)), .d (.s (.int .i64 mo)), .d (.view 10 ld), .d (.view 5 sd)])]) ls.length ⟨0, _, ad, by omega, rfl, by rw [had]; simp, rfl, rfl⟩ (by repeat (first | exact True.intro | refine ⟨⟨rfl, rfl⟩, ?_⟩)) (by repeat (first | exact True.intro | refine ⟨⟨rfl, rfl, rfl⟩, ?_⟩)) ?_
   rintro J n vs hs hJ ⟨i, iv, ad, hi, hiv, had, rfl, rfl⟩
   conv => arg 4; cbv
   refine AKt.node (fun hb => ?_) (fun hb => ?_)
   · have hlt : i < ls.length := by rw [hF, f_ltI, f_lenD, hll, hiv] at hb; have := of_decide_eq_true hb; omega
     obtain ⟨x, hx⟩ : ∃ x, ls[i]? = some x := ⟨_, List.getElem?_eq_getElem hlt⟩
     have hd : ld[i]? = some x.dat := by rw [hld]; exact lvDs_get hx
     have hdok : Dok x.dat := Doks_iff.1 hok.1.2.2.2.2.1.2 _ (List.mem_of_getElem? hd)
     have dl : ∀ n : Int, n ≤ 9223372036854775807 → (digR n).length ≤ 21 := fun n h => digR_len h
     have q2 := dl x.sh hdok.2.2.1.2
     have q3 := dl x.ld hdok.2.2.2.1.2
     have q4 := dl x.bo hdok.2.2.2.2.1.2
     have q5 := dl x.qu hdok.2.2.2.2.2.1.2
     have q6 := dl x.ha hdok.2.2.2.2.2.2.1.2
     have q7 := dl x.le hdok.2.2.2.2.2.2.2.1.2
     have q8 := dl x.wa hdok.2.2.2.2.2.2.2.2.1.2
     have q9 := dl x.gu hdok.2.2.2.2.2.2.2.2.2.1.2
     have qn : x.nm.length ≤ 100000 := of_decide_eq_true (List.all_eq_true.1 p3 x (List.mem_of_getElem? hx))
     have hx_ : F .hasD ld iv [.str, .int .i64, .int .i64, .int .i64, .int .i64, .int .i64, .int .i64, .int .i64, .int .i64, .int .i64] = true := t_hasD hF hd hiv rfl
     obtain ⟨x0, hx0⟩ : ∃ z, z = x.nm := ⟨_, rfl⟩
     try rw [show F .strA ld iv 0 = x0 by rw [hx0]; exact t_strA hF hd hiv rfl]
     obtain ⟨x1, hx1⟩ : ∃ z, z = x.kd := ⟨_, rfl⟩
     try rw [show F .intA ld iv 1 = x1 by rw [hx1]; exact t_intA hF hd hiv rfl]
     obtain ⟨x2, hx2⟩ : ∃ z, z = x.sh := ⟨_, rfl⟩
     try rw [show F .intA ld iv 2 = x2 by rw [hx2]; exact t_intA hF hd hiv rfl]
     obtain ⟨x3, hx3⟩ : ∃ z, z = x.ld := ⟨_, rfl⟩
     try rw [show F .intA ld iv 3 = x3 by rw [hx3]; exact t_intA hF hd hiv rfl]
     obtain ⟨x4, hx4⟩ : ∃ z, z = x.bo := ⟨_, rfl⟩
     try rw [show F .intA ld iv 4 = x4 by rw [hx4]; exact t_intA hF hd hiv rfl]
     obtain ⟨x5, hx5⟩ : ∃ z, z = x.qu := ⟨_, rfl⟩
     try rw [show F .intA ld iv 5 = x5 by rw [hx5]; exact t_intA hF hd hiv rfl]
     obtain ⟨x6, hx6⟩ : ∃ z, z = x.ha := ⟨_, rfl⟩
     try rw [show F .intA ld iv 6 = x6 by rw [hx6]; exact t_intA hF hd hiv rfl]
     obtain ⟨x7, hx7⟩ : ∃ z, z = x.le := ⟨_, rfl⟩
     try rw [show F .intA ld iv 7 = x7 by rw [hx7]; exact t_intA hF hd hiv rfl]
     obtain ⟨x8, hx8⟩ : ∃ z, z = x.wa := ⟨_, rfl⟩
     try rw [show F .intA ld iv 8 = x8 by rw [hx8]; exact t_intA hF hd hiv rfl]
     obtain ⟨x9, hx9⟩ : ∃ z, z = x.gu := ⟨_, rfl⟩
     try rw [show F .intA ld iv 9 = x9 by rw [hx9]; exact t_intA hF hd hiv rfl]
     rw [← hx2] at q2
     rw [← hx3] at q3
     rw [← hx4] at q4
     rw [← hx5] at q5
     rw [← hx6] at q6
     rw [← hx7] at q7
     rw [← hx8] at q8
     rw [← hx9] at q9
     rw [← hx0] at qn
     have hxl : levR x = levR ⟨x0, x1, x2, x3, x4, x5, x6, x7, x8, x9⟩ := by rw [hx0, hx1, hx2, hx3, hx4, hx5, hx6, hx7, hx8, hx9]
     have hnx : strDs (H ++ (ls.take i).map levR ++ [levR x]) = strDs (H ++ (ls.take (i + 1)).map levR) := by rw [List.take_add_one, hx]; simp
     have HL : H.length ≤ 3 := by rw [hH]; simp; omega
     have hfit : F .fits 16 (strDs (H ++ (ls.take (i + 1)).map levR)) = true := fitS _ (by simp; omega)
     have fin : ∀ s : Wd, s = levR x → F .appD ad [.s (.str s)] = strDs (H ++ (ls.take (i + 1)).map levR) := fun s h => by rw [appS ad _ s had, h, hnx]
     have T : ∀ a b : Int, F .eqI a b = true → a = b := fun a b h => by rw [hF, f_eqI] at h; exact eq_of_beq h
     have N : ∀ a b : Int, F .eqI a b = false → ¬ a = b := fun a b h e => by rw [hF, f_eqI, e] at h; simp at h
     have fitA : ∀ s : Wd, F .fits 16 (F .appD ad [.s (.str s)]) = true := fun s => by
       rw [appS ad _ s had]
       exact fitS _ (by simp; omega)
     repeat' (first|with_reducible (first|refine qAh ?_|refine qAt ?_|refine qAf ?_|refine qAy (by assumption) ?_|refine qAn (by assumption) ?_|refine qAd (fun hb => ?_) (fun hb => ?_)|refine qAe ?_ (fun hb => ?_)|refine qAl ?_)|((with_reducible show _=true); assumption))
     all_goals first
       | (with_reducible refine hcat _ _ ?_
          simp only [ud, app, List.length_append, List.length_cons, List.length_nil]
          omega)
       | exact fitA _
       | (refine AKp.againR [(1, 3)] _ hfr (by repeat (first | exact True.intro | refine ⟨⟨rfl, rfl⟩, ?_⟩)) (by repeat (first | exact True.intro | refine ⟨⟨Nat.le_of_ble_eq_true rfl, rfl, rfl⟩, ?_⟩)) rfl (hJ (n - 1) _ _ (by omega) ⟨i + 1, _, _, by omega, inc_i hF hiv (by omega), ?_, rfl, rfl⟩)
          refine fin _ ?_
          rw [hxl]
          simp only [app, ud]
          unfold levR limR queR borR
          simp only
          try rw [if_pos (T x4 (-1) (by assumption))]
          try rw [if_neg (N x4 (-1) (by assumption))]
          try rw [if_pos (T x1 1 (by assumption))]
          try rw [if_neg (N x1 1 (by assumption))]
          try rw [if_pos (T x1 2 (by assumption))]
          try rw [if_neg (N x1 2 (by assumption))]
          try rw [if_pos (T x1 3 (by assumption))]
          try rw [if_neg (N x1 3 (by assumption))]
          try simp [ALLW])
   have hge : ¬ i < ls.length := by rw [hF, f_ltI, f_lenD, hll, hiv] at hb; have := of_decide_eq_false hb; omega
   rw [List.take_of_length_le (by omega)] at had
   refine AKt.leaf ?_
   refine AKp.join hK26 _ hfr ?_ ?_ (rest26 ad had)
   · repeat (first | exact True.intro | refine ⟨⟨rfl, rfl⟩, ?_⟩)
   · repeat (first | exact True.intro | refine ⟨⟨rfl, rfl, rfl⟩, ?_⟩)
 case' r26 =>
   intro ad had
   obtain ⟨G, hG2⟩ : ∃ z, z = H ++ ls.map levR := ⟨_, rfl⟩
   rw [← hG2] at had
   have HL : H.length ≤ 3 := by rw [hH]; simp; omega
   have GL : G.length ≤ 1003 := by rw [hG2]; simp; omega
   rw [← List.append_assoc, ← hG2] at hR
   have flat : ∀ i x, ss[i]? = some x → ((ss.take (i + 1)).map smR).flatten = ((ss.take i).map smR).flatten ++ (schR x :: x.rl.map rulR) := fun i x h => by
     rw [List.take_add_one, h]; simp [smR]
   have flen : ∀ i, (((ss.take i).map smR).flatten).length ≤ i * 1001 := fun i => by
     induction i with
     | zero => simp
     | succ i ih =>
       cases hx : ss[i]? with
       | none => rw [List.take_add_one, hx]; simp only [Option.toList_none, List.append_nil]; omega
       | some x =>
         rw [flat i x hx]
         have := List.all_eq_true.1 p4 x (List.mem_of_getElem? hx)
         simp only [Bool.and_eq_true, decide_eq_true_eq] at this
         simp only [List.length_append, List.length_cons, List.length_map]
         omega
   rw [hK26]
   refine AKp.enterLoop 133 ?_
   conv => arg 7; cbv
   refine AKl.invTs hF tabOK hmix hnt (Nat.le_trans (Nat.le_of_eq hfr) (Nat.le_of_ble_eq_true rfl)) [32, 37] true _ hG (fun n vs hs => ∃ (i : Nat) (iv : Int) (ad : List Dat), i + n = ss.length ∧ iv = i ∧ ad = strDs (G ++ ((ss.take i).map smR).flatten) ∧ vs = [(9, .d (.s (.int .i64 iv))), (3, .row 1 1)] ∧ hs = [(1, .ds 9 1 ad), (0, .cs 25 [.d (.s (.int .i64 tt)), .d (.s (.int .i64 pe)), .d (.s (.int .i64 pr)), .d (.s (.int .i64 mo)), .d (.view 10 ld), .d (.view 5 sd)])]) ss.length ⟨0, _, ad, by omega, rfl, by rw [had]; simp, rfl, rfl⟩ (by repeat (first | exact True.intro | refine ⟨⟨rfl, rfl⟩, ?_⟩)) (by repeat (first | exact True.intro | refine ⟨⟨rfl, rfl, rfl⟩, ?_⟩)) ?_
   rintro J n vs hs hJ ⟨i, iv, ad, hi, hiv, had, rfl, rfl⟩
   conv => arg 4; cbv
   refine AKt.node (fun hb => ?_) (fun hb => ?_)
   rotate_left
   · have hge : ¬ i < ss.length := by rw [hF, f_ltI, f_lenD, hsl, hiv] at hb; have := of_decide_eq_false hb; omega
     rw [List.take_of_length_le (by omega), ← hR] at had
     rw [had]
     repeat' (first|with_reducible (first|refine qAh ?_|refine qAt ?_|refine qAf ?_|refine qAy (by assumption) ?_|refine qAn (by assumption) ?_|refine qAd (fun hb => ?_) (fun hb => ?_)|refine qAe ?_ (fun hb => ?_)|refine qAl ?_)|((with_reducible show _=true); assumption))
     refine AKp.freeze 1 rfl ?_
     conv => arg 4; arg 2; cbv
     refine AKp.doneE tabOK hfr (by rfl) ?_
     show _ = _
     simp only [tupAV]
   have hlt : i < ss.length := by rw [hF, f_ltI, f_lenD, hsl, hiv] at hb; have := of_decide_eq_true hb; omega
   obtain ⟨x, hx⟩ : ∃ x, ss[i]? = some x := ⟨_, List.getElem?_eq_getElem hlt⟩
   have hd : sd[i]? = some x.dat := by rw [hsd]; exact smDs_get hx
   have hdok : Dok x.dat := Doks_iff.1 hok.1.2.2.2.2.2.1.2 _ (List.mem_of_getElem? hd)
   have q2 := digR_len (n := x.rk) hdok.2.2.1.2
   have qx := List.all_eq_true.1 p4 x (List.mem_of_getElem? hx)
   simp only [Bool.and_eq_true, decide_eq_true_eq] at qx
   obtain ⟨qn, ql, qr⟩ := qx
   have hfl := flen i
   have h3 : i * 1001 ≤ 1000 * 1001 := Nat.mul_le_mul_right _ (by omega)
   have hx_ : F .hasD sd iv [.str, .str, .int .i64, .int .i64, .view 5] = true := t_hasD hF hd hiv rfl
   obtain ⟨x0, hx0⟩ : ∃ z, z = x.nm := ⟨_, rfl⟩
   try rw [show F .strA sd iv 0 = x0 by rw [hx0]; exact t_strA hF hd hiv rfl]
   obtain ⟨x1, hx1⟩ : ∃ z, z = x.lv := ⟨_, rfl⟩
   try rw [show F .strA sd iv 1 = x1 by rw [hx1]; exact t_strA hF hd hiv rfl]
   obtain ⟨x2, hx2⟩ : ∃ z, z = x.rk := ⟨_, rfl⟩
   try rw [show F .intA sd iv 2 = x2 by rw [hx2]; exact t_intA hF hd hiv rfl]
   obtain ⟨x3, hx3⟩ : ∃ z, z = x.bb := ⟨_, rfl⟩
   try rw [show F .intA sd iv 3 = x3 by rw [hx3]; exact t_intA hF hd hiv rfl]
   obtain ⟨x4, hx4⟩ : ∃ z, z = rlDs x.rl := ⟨_, rfl⟩
   try rw [show F .viewA sd iv 4 = x4 by rw [hx4]; exact t_viewA hF hd hiv rfl]
   have hrl : x4.length = x.rl.length := by rw [hx4, rlDs_len]
   rw [← hx0] at qn
   rw [← hx1] at ql
   rw [← hx2] at q2
   have fitS2 : ∀ l : List Wd, l.length ≤ 2000000 → F .fits 16 (strDs l) = true := fun l h => t_fits hF (by rw [strDs_length]; omega)
   refine exK ?K34 fun k34 hK34 => ?_
   rotate_left
   have rest34 : ∀ bd : List Dat, bd = strDs (G ++ ((ss.take i).map smR).flatten ++ [schR x]) → AK Tryz.prog cx (finE Tryz.prog Tryz.f37 cx fun x => x = .d (.view 1 R)) k34
     ⟨[(12, .d (.s (.int .i64 0))), (10, .ptr 2 0 0 5), (9, .d (.s (.int .i64 iv))), (1, .ptr 0 0 0 6), (3, .row 1 1)], [(1, .ds 9 1 bd), (2, .cs 43 [.d (.s (.str x0)), .d (.s (.str x1)), .d (.s (.int .i64 x2)), .d (.s (.int .i64 x3)), .d (.view 5 x4)]), (0, .cs 25 [.d (.s (.int .i64 tt)), .d (.s (.int .i64 pe)), .d (.s (.int .i64 pr)), .d (.s (.int .i64 mo)), .d (.view 10 ld), .d (.view 5 sd)])], 3⟩ := ?r34
   refine AKt.need hx_ fun _ => ?_
   have tail : ∀ bw : Wd, bw.length ≤ 10 → bw = byR x3 → [115, 99, 104, 101, 109, 97, 32] ++ x0 ++ [32] ++ x1 ++ [32] ++ digR x2 ++ [32] ++ bw = schR x := fun bw _ h => by rw [schR, h, hx0, hx1, hx2, hx3]
   have fitB : ∀ s : Wd, F .fits 16 (F .appD ad [.s (.str s)]) = true := fun s => by
     rw [appS ad _ s had]
     exact fitS2 _ (by rw [List.length_append, List.length_append, List.length_singleton]; omega)
   have inb : F .inB 0 3 = some 0 ∧ F .inB 1 3 = some 1 ∧ F .inB 2 3 = some 2 := by rw [hF]; exact ⟨rfl, rfl, rfl⟩
   by_cases h0 : 0 ≤ x3 ∧ x3 < 3
   · have c0 : F .leI 0 x3 = true := by rw [hF, f_leI]; exact decide_eq_true h0.1
     have c1 : F .ltI x3 3 = true := by rw [hF, f_ltI]; exact decide_eq_true h0.2
     refine AKt.yes c0 ?_
     refine AKt.yes c1 ?_
     have x012 : x3 = 0 ∨ x3 = 1 ∨ x3 = 2 := by omega
     rcases x012 with e | e | e
     · rw [show F .inB x3 3 = some 0 by rw [e]; exact inb.1]
       conv => arg 4; cbv
       repeat' (first|with_reducible (first|refine qAh ?_|refine qAt ?_|refine qAf ?_|refine qAy (by assumption) ?_|refine qAn (by assumption) ?_|refine qAd (fun hb => ?_) (fun hb => ?_)|refine qAe ?_ (fun hb => ?_)|refine qAl ?_)|((with_reducible show _=true); assumption))
       refine AKp.runD2 hF tabOK hmix hnt true _ hG (Nat.le_trans (Nat.le_of_eq hfr) (Nat.le_of_ble_eq_true rfl)) ?_
       conv => arg 4; cbv
       rw [ud]
       repeat rw [app]
       rw [appS ad _ _ had, tail [110, 111, 110, 101] (by decide) (by rw [e]; rfl)]
       obtain ⟨bd, hbd⟩ : ∃ z, z = strDs (G ++ ((ss.take i).map smR).flatten ++ [schR x]) := ⟨_, rfl⟩
       have fb : F .fits 16 bd = true := by rw [hbd, ← appS ad _ _ had]; exact fitB _
       rw [← hbd]
       repeat' (first|with_reducible (first|refine qAh ?_|refine qAt ?_|refine qAf ?_|refine qAy (by assumption) ?_|refine qAn (by assumption) ?_|refine qAd (fun hb => ?_) (fun hb => ?_)|refine qAe ?_ (fun hb => ?_)|refine qAl ?_)|((with_reducible show _=true); assumption))
       all_goals first
         | (with_reducible refine hcat _ _ ?_
            simp only [List.length_append, List.length_cons, List.length_nil]
            omega)
         | skip
       refine AKp.joinR [(1, 3)] hK34 _ hfr ?_ ?_ rfl (rest34 bd hbd)
       · repeat (first | exact True.intro | refine ⟨⟨rfl, rfl⟩, ?_⟩)
       · repeat (first | exact True.intro | refine ⟨⟨Nat.le_of_ble_eq_true rfl, rfl, rfl⟩, ?_⟩)
     · rw [show F .inB x3 3 = some 1 by rw [e]; exact inb.2.1]
       conv => arg 4; cbv
       repeat' (first|with_reducible (first|refine qAh ?_|refine qAt ?_|refine qAf ?_|refine qAy (by assumption) ?_|refine qAn (by assumption) ?_|refine qAd (fun hb => ?_) (fun hb => ?_)|refine qAe ?_ (fun hb => ?_)|refine qAl ?_)|((with_reducible show _=true); assumption))
       refine AKp.runD2 hF tabOK hmix hnt true _ hG (Nat.le_trans (Nat.le_of_eq hfr) (Nat.le_of_ble_eq_true rfl)) ?_
       conv => arg 4; cbv
       rw [ud]
       repeat rw [app]
       rw [appS ad _ _ had, tail [117, 115, 101, 114] (by decide) (by rw [e]; rfl)]
       obtain ⟨bd, hbd⟩ : ∃ z, z = strDs (G ++ ((ss.take i).map smR).flatten ++ [schR x]) := ⟨_, rfl⟩
       have fb : F .fits 16 bd = true := by rw [hbd, ← appS ad _ _ had]; exact fitB _
       rw [← hbd]
       repeat' (first|with_reducible (first|refine qAh ?_|refine qAt ?_|refine qAf ?_|refine qAy (by assumption) ?_|refine qAn (by assumption) ?_|refine qAd (fun hb => ?_) (fun hb => ?_)|refine qAe ?_ (fun hb => ?_)|refine qAl ?_)|((with_reducible show _=true); assumption))
       all_goals first
         | (with_reducible refine hcat _ _ ?_
            simp only [List.length_append, List.length_cons, List.length_nil]
            omega)
         | skip
       refine AKp.joinR [(1, 3)] hK34 _ hfr ?_ ?_ rfl (rest34 bd hbd)
       · repeat (first | exact True.intro | refine ⟨⟨rfl, rfl⟩, ?_⟩)
       · repeat (first | exact True.intro | refine ⟨⟨Nat.le_of_ble_eq_true rfl, rfl, rfl⟩, ?_⟩)
     · rw [show F .inB x3 3 = some 2 by rw [e]; exact inb.2.2]
       conv => arg 4; cbv
       repeat' (first|with_reducible (first|refine qAh ?_|refine qAt ?_|refine qAf ?_|refine qAy (by assumption) ?_|refine qAn (by assumption) ?_|refine qAd (fun hb => ?_) (fun hb => ?_)|refine qAe ?_ (fun hb => ?_)|refine qAl ?_)|((with_reducible show _=true); assumption))
       refine AKp.runD2 hF tabOK hmix hnt true _ hG (Nat.le_trans (Nat.le_of_eq hfr) (Nat.le_of_ble_eq_true rfl)) ?_
       conv => arg 4; cbv
       rw [ud]
       repeat rw [app]
       rw [appS ad _ _ had, tail [115, 112, 97, 99, 101] (by decide) (by rw [e]; rfl)]
       obtain ⟨bd, hbd⟩ : ∃ z, z = strDs (G ++ ((ss.take i).map smR).flatten ++ [schR x]) := ⟨_, rfl⟩
       have fb : F .fits 16 bd = true := by rw [hbd, ← appS ad _ _ had]; exact fitB _
       rw [← hbd]
       repeat' (first|with_reducible (first|refine qAh ?_|refine qAt ?_|refine qAf ?_|refine qAy (by assumption) ?_|refine qAn (by assumption) ?_|refine qAd (fun hb => ?_) (fun hb => ?_)|refine qAe ?_ (fun hb => ?_)|refine qAl ?_)|((with_reducible show _=true); assumption))
       all_goals first
         | (with_reducible refine hcat _ _ ?_
            simp only [List.length_append, List.length_cons, List.length_nil]
            omega)
         | skip
       refine AKp.joinR [(1, 3)] hK34 _ hfr ?_ ?_ rfl (rest34 bd hbd)
       · repeat (first | exact True.intro | refine ⟨⟨rfl, rfl⟩, ?_⟩)
       · repeat (first | exact True.intro | refine ⟨⟨Nat.le_of_ble_eq_true rfl, rfl, rfl⟩, ?_⟩)
   · have e : byR x3 = [63] := by
       unfold byR
       rw [if_neg (by omega), if_neg (by omega), if_neg (by omega)]
     refine AKt.node (fun c0 => ?_) (fun c0 => ?_)
     · have d0 : 0 ≤ x3 := by rw [hF, f_leI] at c0; exact of_decide_eq_true c0
       have c1 : F .ltI x3 3 = false := by rw [hF, f_ltI]; exact decide_eq_false (by omega)
       refine AKt.no c1 ?_
       repeat' (first|with_reducible (first|refine qAh ?_|refine qAt ?_|refine qAf ?_|refine qAy (by assumption) ?_|refine qAn (by assumption) ?_|refine qAd (fun hb => ?_) (fun hb => ?_)|refine qAe ?_ (fun hb => ?_)|refine qAl ?_)|((with_reducible show _=true); assumption))
       refine AKp.runD2 hF tabOK hmix hnt true _ hG (Nat.le_trans (Nat.le_of_eq hfr) (Nat.le_of_ble_eq_true rfl)) ?_
       conv => arg 4; cbv
       rw [ud]
       repeat rw [app]
       rw [appS ad _ _ had, tail [63] (by decide) e.symm]
       obtain ⟨bd, hbd⟩ : ∃ z, z = strDs (G ++ ((ss.take i).map smR).flatten ++ [schR x]) := ⟨_, rfl⟩
       have fb : F .fits 16 bd = true := by rw [hbd, ← appS ad _ _ had]; exact fitB _
       rw [← hbd]
       repeat' (first|with_reducible (first|refine qAh ?_|refine qAt ?_|refine qAf ?_|refine qAy (by assumption) ?_|refine qAn (by assumption) ?_|refine qAd (fun hb => ?_) (fun hb => ?_)|refine qAe ?_ (fun hb => ?_)|refine qAl ?_)|((with_reducible show _=true); assumption))
       all_goals first
         | (with_reducible refine hcat _ _ ?_
            simp only [List.length_append, List.length_cons, List.length_nil]
            omega)
         | skip
       refine AKp.joinR [(1, 3)] hK34 _ hfr ?_ ?_ rfl (rest34 bd hbd)
       · repeat (first | exact True.intro | refine ⟨⟨rfl, rfl⟩, ?_⟩)
       · repeat (first | exact True.intro | refine ⟨⟨Nat.le_of_ble_eq_true rfl, rfl, rfl⟩, ?_⟩)
     · repeat' (first|with_reducible (first|refine qAh ?_|refine qAt ?_|refine qAf ?_|refine qAy (by assumption) ?_|refine qAn (by assumption) ?_|refine qAd (fun hb => ?_) (fun hb => ?_)|refine qAe ?_ (fun hb => ?_)|refine qAl ?_)|((with_reducible show _=true); assumption))
       refine AKp.runD2 hF tabOK hmix hnt true _ hG (Nat.le_trans (Nat.le_of_eq hfr) (Nat.le_of_ble_eq_true rfl)) ?_
       conv => arg 4; cbv
       rw [ud]
       repeat rw [app]
       rw [appS ad _ _ had, tail [63] (by decide) e.symm]
       obtain ⟨bd, hbd⟩ : ∃ z, z = strDs (G ++ ((ss.take i).map smR).flatten ++ [schR x]) := ⟨_, rfl⟩
       have fb : F .fits 16 bd = true := by rw [hbd, ← appS ad _ _ had]; exact fitB _
       rw [← hbd]
       repeat' (first|with_reducible (first|refine qAh ?_|refine qAt ?_|refine qAf ?_|refine qAy (by assumption) ?_|refine qAn (by assumption) ?_|refine qAd (fun hb => ?_) (fun hb => ?_)|refine qAe ?_ (fun hb => ?_)|refine qAl ?_)|((with_reducible show _=true); assumption))
       all_goals first
         | (with_reducible refine hcat _ _ ?_
            simp only [List.length_append, List.length_cons, List.length_nil]
            omega)
         | skip
       refine AKp.joinR [(1, 3)] hK34 _ hfr ?_ ?_ rfl (rest34 bd hbd)
       · repeat (first | exact True.intro | refine ⟨⟨rfl, rfl⟩, ?_⟩)
       · repeat (first | exact True.intro | refine ⟨⟨Nat.le_of_ble_eq_true rfl, rfl, rfl⟩, ?_⟩)
   case' r34 =>
     intro bd hbd
     rw [hK34]
     refine AKp.enterLoop 175 ?_
     conv => arg 7; cbv
     refine AKl.invTs hF tabOK hmix hnt (Nat.le_trans (Nat.le_of_eq hfr) (Nat.le_of_ble_eq_true rfl)) [37] true _ hG (fun m vs hs => ∃ (k : Nat) (kv : Int) (bd : List Dat), k + m = x.rl.length ∧ kv = k ∧ bd = strDs (G ++ ((ss.take i).map smR).flatten ++ (schR x :: (x.rl.take k).map rulR)) ∧ vs = [(12, .d (.s (.int .i64 kv))), (3, .row 1 1)] ∧ hs = [(1, .ds 9 1 bd), (2, .cs 43 [.d (.s (.str x0)), .d (.s (.str x1)), .d (.s (.int .i64 x2)), .d (.s (.int .i64 x3)), .d (.view 5 x4)]), (0, .cs 25 [.d (.s (.int .i64 tt)), .d (.s (.int .i64 pe)), .d (.s (.int .i64 pr)), .d (.s (.int .i64 mo)), .d (.view 10 ld), .d (.view 5 sd)])]) x.rl.length ⟨0, _, bd, by omega, rfl, by rw [hbd]; simp, rfl, rfl⟩ (by repeat (first | exact True.intro | refine ⟨⟨rfl, rfl⟩, ?_⟩)) (by repeat (first | exact True.intro | refine ⟨⟨rfl, rfl, rfl⟩, ?_⟩)) ?_
     rintro J2 m vs hs hJ2 ⟨k, kv, bd, hk, hkv, hbd, rfl, rfl⟩
     conv => arg 4; cbv
     refine AKt.node (fun hb2 => ?_) (fun hb2 => ?_)
     rotate_left
     · have hge : ¬ k < x.rl.length := by rw [hF, f_ltI, f_lenD, hrl, hkv] at hb2; have := of_decide_eq_false hb2; omega
       have hk2 : x.rl.take k = x.rl := List.take_of_length_le (by omega)
       rw [hk2] at hbd
       repeat' (first|with_reducible (first|refine qAh ?_|refine qAt ?_|refine qAf ?_|refine qAy (by assumption) ?_|refine qAn (by assumption) ?_|refine qAd (fun hb => ?_) (fun hb => ?_)|refine qAe ?_ (fun hb => ?_)|refine qAl ?_)|((with_reducible show _=true); assumption))
       refine AKp.again _ hfr (by repeat (first | exact True.intro | refine ⟨⟨rfl, rfl⟩, ?_⟩)) (by repeat (first | exact True.intro | refine ⟨⟨rfl, rfl, rfl⟩, ?_⟩)) (hJ (n - 1) _ _ (by omega) ⟨i + 1, _, bd, by omega, inc_i hF hiv (by omega), by rw [hbd, flat i x hx, List.append_assoc], rfl, rfl⟩)
     have hlt2 : k < x.rl.length := by rw [hF, f_ltI, f_lenD, hrl, hkv] at hb2; have := of_decide_eq_true hb2; omega
     obtain ⟨r, hr⟩ : ∃ r, x.rl[k]? = some r := ⟨_, List.getElem?_eq_getElem hlt2⟩
     have hdr : x4[k]? = some r.dat := by rw [hx4]; exact rlDs_get hr
     have hr_ : F .hasD x4 kv [.view 1, .view 1, .view 1, .view 1, .view 1] = true := t_hasD hF hdr hkv rfl
     obtain ⟨r0, hr0⟩ : ∃ z, z = strDs r.us := ⟨_, rfl⟩
     try rw [show F .viewA x4 kv 0 = r0 by rw [hr0]; exact t_viewA hF hdr hkv rfl]
     obtain ⟨r1, hr1⟩ : ∃ z, z = strDs r.gs := ⟨_, rfl⟩
     try rw [show F .viewA x4 kv 1 = r1 by rw [hr1]; exact t_viewA hF hdr hkv rfl]
     obtain ⟨r2, hr2⟩ : ∃ z, z = strDs r.vs := ⟨_, rfl⟩
     try rw [show F .viewA x4 kv 2 = r2 by rw [hr2]; exact t_viewA hF hdr hkv rfl]
     obtain ⟨r3, hr3⟩ : ∃ z, z = strDs r.rs := ⟨_, rfl⟩
     try rw [show F .viewA x4 kv 3 = r3 by rw [hr3]; exact t_viewA hF hdr hkv rfl]
     obtain ⟨r4, hr4⟩ : ∃ z, z = strDs r.ps := ⟨_, rfl⟩
     try rw [show F .viewA x4 kv 4 = r4 by rw [hr4]; exact t_viewA hF hdr hkv rfl]
     have ul : ∀ l, uRLis1 (strDs l) = lisR l := fun l => by
       subst huRDig huRLis huRLis1
       show lisR (unStr (strDs l)) = _
       rw [unStr_strDs]
     have pl : ∀ l, uRLis (strDs l) = true := fun l => by subst huRDig huRLis huRLis1; exact isStrs_strDs l
     have q0 : uRLis r0 = true := by rw [hr0]; exact pl _
     obtain ⟨y0, hy0⟩ : ∃ z, z = uRLis1 r0 := ⟨_, rfl⟩
     have l0 : y0.length ≤ 520 := by rw [hy0, hr0, ul]; exact lisR_len _
     have q1 : uRLis r1 = true := by rw [hr1]; exact pl _
     obtain ⟨y1, hy1⟩ : ∃ z, z = uRLis1 r1 := ⟨_, rfl⟩
     have l1 : y1.length ≤ 520 := by rw [hy1, hr1, ul]; exact lisR_len _
     have q2 : uRLis r2 = true := by rw [hr2]; exact pl _
     obtain ⟨y2, hy2⟩ : ∃ z, z = uRLis1 r2 := ⟨_, rfl⟩
     have l2 : y2.length ≤ 520 := by rw [hy2, hr2, ul]; exact lisR_len _
     have q3 : uRLis r3 = true := by rw [hr3]; exact pl _
     obtain ⟨y3, hy3⟩ : ∃ z, z = uRLis1 r3 := ⟨_, rfl⟩
     have l3 : y3.length ≤ 520 := by rw [hy3, hr3, ul]; exact lisR_len _
     have q4 : uRLis r4 = true := by rw [hr4]; exact pl _
     obtain ⟨y4, hy4⟩ : ∃ z, z = uRLis1 r4 := ⟨_, rfl⟩
     have l4 : y4.length ≤ 520 := by rw [hy4, hr4, ul]; exact lisR_len _
     repeat' (first|with_reducible (first|refine qAh ?_|refine qAt ?_|refine qAf ?_|refine qAy (by assumption) ?_|refine qAn (by assumption) ?_|refine qAd (fun hb => ?_) (fun hb => ?_)|refine qAe ?_ (fun hb => ?_)|refine qAl ?_)|((with_reducible show _=true); assumption))
     refine AKp.runD2 hF tabOK hmix hnt true _ hG (Nat.le_trans (Nat.le_of_eq hfr) (Nat.le_of_ble_eq_true rfl)) ?_
     conv => arg 4; cbv
     rw [← hy0]
     rw [← hy1]
     rw [← hy2]
     rw [← hy3]
     rw [← hy4]
     have hru : [114, 117, 108, 101, 32] ++ y0 ++ [32] ++ y1 ++ [32] ++ y2 ++ [32] ++ y3 ++ [32] ++ y4 = rulR r := by rw [rulR, hy0, hy1, hy2, hy3, hy4, hr0, hr1, hr2, hr3, hr4, ul, ul, ul, ul, ul]
     repeat rw [app]
     rw [appS bd _ _ hbd, hru]
     have hnx : G ++ ((ss.take i).map smR).flatten ++ (schR x :: (x.rl.take k).map rulR) ++ [rulR r] = G ++ ((ss.take i).map smR).flatten ++ (schR x :: (x.rl.take (k + 1)).map rulR) := by rw [List.take_add_one, hr]; simp
     rw [hnx]
     obtain ⟨nd, hnd⟩ : ∃ z, z = strDs (G ++ ((ss.take i).map smR).flatten ++ (schR x :: (x.rl.take (k + 1)).map rulR)) := ⟨_, rfl⟩
     have fb : F .fits 16 nd = true := by rw [hnd]; exact fitS2 _ (by rw [List.length_append, List.length_append, List.length_cons, List.length_map, List.length_take]; omega)
     rw [← hnd]
     repeat' (first|with_reducible (first|refine qAh ?_|refine qAt ?_|refine qAf ?_|refine qAy (by assumption) ?_|refine qAn (by assumption) ?_|refine qAd (fun hb => ?_) (fun hb => ?_)|refine qAe ?_ (fun hb => ?_)|refine qAl ?_)|((with_reducible show _=true); assumption))
     all_goals first
       | (with_reducible refine hcat _ _ ?_
          simp only [List.length_append, List.length_cons, List.length_nil]
          omega)
       | skip
     refine AKp.againR [(1, 4)] _ hfr (by repeat (first | exact True.intro | refine ⟨⟨rfl, rfl⟩, ?_⟩)) (by repeat (first | exact True.intro | refine ⟨⟨Nat.le_of_ble_eq_true rfl, rfl, rfl⟩, ?_⟩)) rfl (hJ2 (m - 1) _ _ (by omega) ⟨k + 1, _, _, by omega, inc_i hF hkv (by omega), hnd, rfl, rfl⟩)
def lsPP (a b c d : Int) (ls ss : List Dat) : Bool := isCf0 ls ss && lnB ⟨a, b, c, d, unLv ls, unSm ss⟩
theorem rlinesD_spec (a b c d : Int) (ls ss : List Dat) (h : lsPP a b c d ls ss = true) : ESpec Tryz.prog 37 [.d (.agg [.s (.int .i64 a), .s (.int .i64 b), .s (.int .i64 c), .s (.int .i64 d), .view 10 ls, .view 5 ss])] (fun x => x = .d (.view 1 (strDs (linesR ⟨a, b, c, d, unLv ls, unSm ss⟩)))) := by
 simp only [lsPP, isCf0, Bool.and_eq_true] at h
 have := rlines_spec ⟨a, b, c, d, unLv ls, unSm ss⟩ h.2
 simp only [lv_un h.1.1, sm_un h.1.2] at this
 exact this
def φRLines (p : Int → Int → Int → Int → List Dat → List Dat → Bool) (u : Int → Int → Int → Int → List Dat → List Dat → List Dat) : List AV → Option (Bool × AV)
 | [.d (.agg [.s (.int .i64 a), .s (.int .i64 b), .s (.int .i64 c), .s (.int .i64 d), .view 10 ls, .view 5 ss])] => some (p a b c d ls ss, .d (.view 1 (u a b c d ls ss)))
 | _ => none
theorem φRLines_ok : SpOK Tryz.prog 37 (φRLines (lsPP) (fun a b c d ls ss => strDs (linesR ⟨a, b, c, d, unLv ls, unSm ss⟩))) := by
 intro xs b x h hb
 unfold φRLines at h
 split at h
 · simp only [Option.some.injEq, Prod.mk.injEq] at h
   obtain ⟨rfl, rfl⟩ := h
   exact rlinesD_spec _ _ _ _ _ _ hb
 · cases h
end Go.Proofs.YtpmpajodihpkaaaGreatDoor
