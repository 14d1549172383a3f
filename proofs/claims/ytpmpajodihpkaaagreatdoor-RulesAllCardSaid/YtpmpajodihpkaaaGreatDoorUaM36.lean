/- The library of this claim and its walks, part 36, joined out of smaller texts. No statement stands in it. -/
import Derived.Test.YtpmpajodihpkaaaGreatDoorUaM32
import Derived.Test.YtpmpajodihpkaaaGreatDoorUaM34
import Derived.Test.YtpmpajodihpkaaaGreatDoorUaM35
set_option linter.unusedSimpArgs false
set_option linter.unusedVariables false
namespace Go.Proofs.YtpmpajodihpkaaaGreatDoor
open Go Go.Proofs Go.Ua Go.Extern
set_option maxRecDepth 10000
def errW (n : Int) (w : Wd) : Dat := if n = 0 then .s .if0 else .iface 67 (.agg [.s (.int .i64 0), .s (.str w), .iface 35 (.s (.int .i64 n))])
theorem fof_spec (w : Wd) (n : Int) : ESpec Tryz.prog 18 [.d (.s (.str w)), .d (.iface 35 (.s (.int .i64 n)))] (fun x => x = .d (.iface 67 (.agg [.s (.int .i64 0), .s (.str w), .iface 35 (.s (.int .i64 n))]))) := by
 have hG : TblOK Tryz.prog [] := trivial
 refine ESpec.enter Tryz.func18 (by kernel_rfl) rfl (Nat.le_of_ble_eq_true rfl) fun hok cx hnt hfr => ?_
 obtain ⟨F, hF⟩ := real_ex
 refine AK.runT hF tabOK hmix hnt hfr true _ hG ?_
 conv => arg 4; cbv
 repeat' (first|with_reducible (first|refine qAh ?_|refine qAt ?_|refine qAf ?_|refine qAy (by assumption) ?_|refine qAn (by assumption) ?_|refine qAd (fun hb => ?_) (fun hb => ?_)|refine qAe ?_ (fun hb => ?_)|refine qAl ?_)|((with_reducible show _=true); assumption))
 refine AKp.doneE tabOK hfr (by rfl) ?_
 show _ = _
 simp only [tupAV]
def φFOf  : List AV → Option (Bool × AV)
 | [.d (.s (.str w)), .d (.iface 35 (.s (.int .i64 n)))] => some (true, .d (.iface 67 (.agg [.s (.int .i64 0), .s (.str w), .iface 35 (.s (.int .i64 n))])))
 | _ => none
theorem φFOf_ok : SpOK Tryz.prog 18 (φFOf ) := by
 intro xs b x h hb
 unfold φFOf at h
 split at h
 · simp only [Option.some.injEq, Prod.mk.injEq] at h
   obtain ⟨rfl, rfl⟩ := h
   exact fof_spec _ _
 · cases h
def wLevel : Wd := [108,101,118,101,108,32]
def wSchema : Wd := [115,99,104,101,109,97,32]
def lackF (ls : List Lv) (ss : List Sm) : Int × Wd :=
 if haveL wEx ls = false then (12, wLevel ++ wEx) else if haveL wCa ls = false then (12, wLevel ++ wCa) else
 if haveS wEx ss = false then (12, wSchema ++ wEx) else if haveS wCa ss = false then (12, wSchema ++ wCa) else (0, [])
def rchS (ls : List Lv) (all : List Sm) : List Sm → Int × Wd
 | [] => lackF ls all
 | s :: r => if rsmE s ls ≠ 0 then (rsmE s ls, wSchema ++ s.nm) else rchS ls all r
def rchL (all : List Lv) (ss : List Sm) : List Lv → Int × Wd
 | [] => rchS all ss ss
 | l :: r => if rlvE l ≠ 0 then (rlvE l, wLevel ++ l.nm) else rchL all ss r
def rchF (c : Cf) : Int × Wd :=
 if formC c = false then (2, []) else if c.tt = 0 then (12, [116,111,116,97,108]) else if c.pe = 0 then (12, [112,101,114,105,111,100]) else if c.pr = 0 then (12, [115,101,97,116,115]) else rchL c.ls c.ss c.ls
def rchD (c : Cf) : Dat := errW (rchF c).1 (rchF c).2
set_option maxHeartbeats 2000000 in
theorem lack_spec (a b c d : Int) (ls ss : List Dat) (hb : isCf0 ls ss = true) : ESpec Tryz.prog 21 [.d (.agg [.s (.int .i64 a), .s (.int .i64 b), .s (.int .i64 c), .s (.int .i64 d), .view 10 ls, .view 5 ss])] (fun x => x = .d (errW (lackF (unLv ls) (unSm ss)).1 (lackF (unLv ls) (unSm ss)).2)) := by
 obtain ⟨uThere, huThere⟩ : ∃ u : List Dat → Bool, u = isLv := ⟨_, rfl⟩
 obtain ⟨uThere1, huThere1⟩ : ∃ u : List Dat → Wd → Bool, u = fun es q => (unLv es).any (fun x : Lv => eqW x.nm q) := ⟨_, rfl⟩
 obtain ⟨uHasSm, huHasSm⟩ : ∃ u : List Dat → Bool, u = isSm := ⟨_, rfl⟩
 obtain ⟨uHasSm1, huHasSm1⟩ : ∃ u : List Dat → Wd → Bool, u = fun es q => (unSm es).any (fun x : Sm => eqW x.nm q) := ⟨_, rfl⟩
 have hG : TblOK Tryz.prog [(32, .p (φThere uThere uThere1)), (35, .m (φHasSm uHasSm uHasSm1)), (18, .p (φFOf ))] := ⟨(by rw [huThere, huThere1]; exact φThere_ok), (by rw [huHasSm, huHasSm1]; exact φHasSm_ok), φFOf_ok, trivial⟩
 simp only [isCf0, Bool.and_eq_true] at hb
 have q1 : uThere ls = true := by rw [huThere]; exact hb.1
 have q2 : uHasSm ss = true := by rw [huHasSm]; exact hb.2
 have v1 : ∀ w, uThere1 ls w = haveL w (unLv ls) := fun w => by rw [huThere1]; rfl
 have v2 : ∀ w, uHasSm1 ss w = haveS w (unSm ss) := fun w => by rw [huHasSm1]; rfl
 refine ESpec.enter Tryz.func21 (by kernel_rfl) rfl (Nat.le_of_ble_eq_true rfl) fun hok cx hnt hfr => ?_
 obtain ⟨F, hF⟩ := real_ex
 refine AK.runT hF tabOK hmix hnt hfr true _ hG ?_
 conv => arg 4; cbv
 have nb : ∀ b : Bool, F .not b = !b := fun b => by rw [hF]; rfl
 have k0 : F .inB 0 2 = some 0 := by rw [hF]; rfl
 have k1 : F .inB 1 2 = some 1 := by rw [hF]; rfl
 have l0 : F .ltI 0 2 = true := by rw [hF]; rfl
 have l1 : F .ltI 1 2 = true := by rw [hF]; rfl
 have l2 : F .ltI 2 2 = false := by rw [hF]; rfl
 have a0 : F .wrap .i64 (F .add 0 1) = 1 := by rw [hF]; rfl
 have a1 : F .wrap .i64 (F .add 1 1) = 2 := by rw [hF]; rfl
 repeat' (first|with_reducible (first|refine qAh ?_|refine qAt ?_|refine qAf ?_|refine qAy (by assumption) ?_|refine qAn (by assumption) ?_|refine qAd (fun hb => ?_) (fun hb => ?_)|refine qAe ?_ (fun hb => ?_)|refine qAl ?_)|((with_reducible show _=true); assumption))
 refine AKp.unroll 3 fun J0 n0 => ?_
 refine AK.runT hF tabOK hmix hnt hfr true _ hG ?_
 conv => arg 4; cbv
 with_reducible refine AKt.yes l0 ?_
 rw [k0]
 conv => arg 4; cbv
 refine AKt.need q1 fun _ => ?_
 rw [v1 [101,120,101,109,112,116], nb]
 cases c0 : haveL wEx (unLv ls)
 · refine AKt.yes (show (!haveL wEx (unLv ls)) = true by rw [c0]; rfl) ?_
   refine AKt.need (t_hasCat hF (by decide)) fun _ => ?_
   repeat' (first|with_reducible (first|refine qAh ?_|refine qAt ?_|refine qAf ?_|refine qAy (by assumption) ?_|refine qAn (by assumption) ?_|refine qAd (fun hb => ?_) (fun hb => ?_)|refine qAe ?_ (fun hb => ?_)|refine qAl ?_)|((with_reducible show _=true); assumption))
   refine AKp.doneE tabOK hfr (by rfl) ?_
   show _ = _
   simp only [tupAV]
   have e : lackF (unLv ls) (unSm ss) = (12, wLevel ++ wEx) := by
     unfold lackF
     rw [if_pos c0]
   rw [e, t_app hF]
   rfl
 refine AKt.no (show (!haveL wEx (unLv ls)) = false by rw [c0]; rfl) ?_
 repeat' (first|with_reducible (first|refine qAh ?_|refine qAt ?_|refine qAf ?_|refine qAy (by assumption) ?_|refine qAn (by assumption) ?_|refine qAd (fun hb => ?_) (fun hb => ?_)|refine qAe ?_ (fun hb => ?_)|refine qAl ?_)|((with_reducible show _=true); assumption))
 rw [a0]
 obtain ⟨J1, n1, nx⟩ := n0
 refine AKp.backTo (nx _ ?_)
 clear nx
 refine AK.runT hF tabOK hmix hnt hfr true _ hG ?_
 conv => arg 4; cbv
 with_reducible refine AKt.yes l1 ?_
 rw [k1]
 conv => arg 4; cbv
 refine AKt.need q1 fun _ => ?_
 rw [v1 [99,97,116,99,104,45,97,108,108], nb]
 cases c1 : haveL wCa (unLv ls)
 · refine AKt.yes (show (!haveL wCa (unLv ls)) = true by rw [c1]; rfl) ?_
   refine AKt.need (t_hasCat hF (by decide)) fun _ => ?_
   repeat' (first|with_reducible (first|refine qAh ?_|refine qAt ?_|refine qAf ?_|refine qAy (by assumption) ?_|refine qAn (by assumption) ?_|refine qAd (fun hb => ?_) (fun hb => ?_)|refine qAe ?_ (fun hb => ?_)|refine qAl ?_)|((with_reducible show _=true); assumption))
   refine AKp.doneE tabOK hfr (by rfl) ?_
   show _ = _
   simp only [tupAV]
   have e : lackF (unLv ls) (unSm ss) = (12, wLevel ++ wCa) := by
     unfold lackF
     rw [if_neg (fun h => Bool.noConfusion (h.symm.trans c0))]; rw [if_pos c1]
   rw [e, t_app hF]
   rfl
 refine AKt.no (show (!haveL wCa (unLv ls)) = false by rw [c1]; rfl) ?_
 repeat' (first|with_reducible (first|refine qAh ?_|refine qAt ?_|refine qAf ?_|refine qAy (by assumption) ?_|refine qAn (by assumption) ?_|refine qAd (fun hb => ?_) (fun hb => ?_)|refine qAe ?_ (fun hb => ?_)|refine qAl ?_)|((with_reducible show _=true); assumption))
 rw [a1]
 obtain ⟨J2, n2, nx⟩ := n1
 refine AKp.backTo (nx _ ?_)
 clear nx
 refine AK.runT hF tabOK hmix hnt hfr true _ hG ?_
 conv => arg 4; cbv
 with_reducible refine AKt.no l2 ?_
 repeat' (first|with_reducible (first|refine qAh ?_|refine qAt ?_|refine qAf ?_|refine qAy (by assumption) ?_|refine qAn (by assumption) ?_|refine qAd (fun hb => ?_) (fun hb => ?_)|refine qAe ?_ (fun hb => ?_)|refine qAl ?_)|((with_reducible show _=true); assumption))
 refine AKp.unroll 3 fun K0 m0 => ?_
 refine AK.runT hF tabOK hmix hnt hfr true _ hG ?_
 conv => arg 4; cbv
 with_reducible refine AKt.yes l0 ?_
 rw [k0]
 conv => arg 4; cbv
 refine AKt.need q2 fun _ => ?_
 rw [v2 [101,120,101,109,112,116], nb]
 cases c2 : haveS wEx (unSm ss)
 · refine AKt.yes (show (!haveS wEx (unSm ss)) = true by rw [c2]; rfl) ?_
   refine AKt.need (t_hasCat hF (by decide)) fun _ => ?_
   repeat' (first|with_reducible (first|refine qAh ?_|refine qAt ?_|refine qAf ?_|refine qAy (by assumption) ?_|refine qAn (by assumption) ?_|refine qAd (fun hb => ?_) (fun hb => ?_)|refine qAe ?_ (fun hb => ?_)|refine qAl ?_)|((with_reducible show _=true); assumption))
   refine AKp.doneE tabOK hfr (by rfl) ?_
   show _ = _
   simp only [tupAV]
   have e : lackF (unLv ls) (unSm ss) = (12, wSchema ++ wEx) := by
     unfold lackF
     rw [if_neg (fun h => Bool.noConfusion (h.symm.trans c0))]; rw [if_neg (fun h => Bool.noConfusion (h.symm.trans c1))]; rw [if_pos c2]
   rw [e, t_app hF]
   rfl
 refine AKt.no (show (!haveS wEx (unSm ss)) = false by rw [c2]; rfl) ?_
 repeat' (first|with_reducible (first|refine qAh ?_|refine qAt ?_|refine qAf ?_|refine qAy (by assumption) ?_|refine qAn (by assumption) ?_|refine qAd (fun hb => ?_) (fun hb => ?_)|refine qAe ?_ (fun hb => ?_)|refine qAl ?_)|((with_reducible show _=true); assumption))
 rw [a0]
 obtain ⟨K1, m1, nx⟩ := m0
 refine AKp.backTo (nx _ ?_)
 clear nx
 refine AK.runT hF tabOK hmix hnt hfr true _ hG ?_
 conv => arg 4; cbv
 with_reducible refine AKt.yes l1 ?_
 rw [k1]
 conv => arg 4; cbv
 refine AKt.need q2 fun _ => ?_
 rw [v2 [99,97,116,99,104,45,97,108,108], nb]
 cases c3 : haveS wCa (unSm ss)
 · refine AKt.yes (show (!haveS wCa (unSm ss)) = true by rw [c3]; rfl) ?_
   refine AKt.need (t_hasCat hF (by decide)) fun _ => ?_
   repeat' (first|with_reducible (first|refine qAh ?_|refine qAt ?_|refine qAf ?_|refine qAy (by assumption) ?_|refine qAn (by assumption) ?_|refine qAd (fun hb => ?_) (fun hb => ?_)|refine qAe ?_ (fun hb => ?_)|refine qAl ?_)|((with_reducible show _=true); assumption))
   refine AKp.doneE tabOK hfr (by rfl) ?_
   show _ = _
   simp only [tupAV]
   have e : lackF (unLv ls) (unSm ss) = (12, wSchema ++ wCa) := by
     unfold lackF
     rw [if_neg (fun h => Bool.noConfusion (h.symm.trans c0))]; rw [if_neg (fun h => Bool.noConfusion (h.symm.trans c1))]; rw [if_neg (fun h => Bool.noConfusion (h.symm.trans c2))]; rw [if_pos c3]
   rw [e, t_app hF]
   rfl
 refine AKt.no (show (!haveS wCa (unSm ss)) = false by rw [c3]; rfl) ?_
 repeat' (first|with_reducible (first|refine qAh ?_|refine qAt ?_|refine qAf ?_|refine qAy (by assumption) ?_|refine qAn (by assumption) ?_|refine qAd (fun hb => ?_) (fun hb => ?_)|refine qAe ?_ (fun hb => ?_)|refine qAl ?_)|((with_reducible show _=true); assumption))
 rw [a1]
 obtain ⟨K2, m2, nx⟩ := m1
 refine AKp.backTo (nx _ ?_)
 clear nx
 refine AK.runT hF tabOK hmix hnt hfr true _ hG ?_
 conv => arg 4; cbv
 with_reducible refine AKt.no l2 ?_
 repeat' (first|with_reducible (first|refine qAh ?_|refine qAt ?_|refine qAf ?_|refine qAy (by assumption) ?_|refine qAn (by assumption) ?_|refine qAd (fun hb => ?_) (fun hb => ?_)|refine qAe ?_ (fun hb => ?_)|refine qAl ?_)|((with_reducible show _=true); assumption))
 refine AKp.doneE tabOK hfr (by rfl) ?_
 show _ = _
 simp only [tupAV]
 have e : lackF (unLv ls) (unSm ss) = (0, []) := by
   unfold lackF
   rw [if_neg (fun h => Bool.noConfusion (h.symm.trans c0)), if_neg (fun h => Bool.noConfusion (h.symm.trans c1)), if_neg (fun h => Bool.noConfusion (h.symm.trans c2)), if_neg (fun h => Bool.noConfusion (h.symm.trans c3))]
 rw [e]
 rfl
theorem small_name {w : Wd} (h : nameF w = true) : w.length ≤ 32 := by
 unfold nameF at h
 split at h
 · cases h
 · simp only [Bool.and_eq_true, decide_eq_true_eq] at h
   exact h.1.1
def φRuLack (p : List Dat → List Dat → Bool) (u : List Dat → List Dat → Dat) : List AV → Option (Bool × AV)
 | [.d (.agg [.s (.int .i64 a), .s (.int .i64 b), .s (.int .i64 c), .s (.int .i64 d), .view 10 ls, .view 5 ss])] => some (p ls ss, .d (u ls ss))
 | _ => none
theorem φRuLack_ok : SpOK Tryz.prog 21 (φRuLack (isCf0) (fun ls ss => errW (lackF (unLv ls) (unSm ss)).1 (lackF (unLv ls) (unSm ss)).2)) := by
 intro xs b x h hb
 unfold φRuLack at h
 split at h
 · simp only [Option.some.injEq, Prod.mk.injEq] at h
   obtain ⟨rfl, rfl⟩ := h
   exact lack_spec _ _ _ _ _ _ hb
 · cases h
theorem rchL_drop {all : List Lv} {ss : List Sm} {l : List Lv} {i : Nat} {x : Lv} (h : l[i]? = some x) : rchL all ss (l.drop i) = if rlvE x ≠ 0 then (rlvE x, wLevel ++ x.nm) else rchL all ss (l.drop (i + 1)) := by
 obtain ⟨h1, h2⟩ := List.getElem?_eq_some_iff.1 h
 rw [List.drop_eq_getElem_cons h1, rchL, h2]
theorem rchS_drop {ls : List Lv} {all : List Sm} {l : List Sm} {i : Nat} {x : Sm} (h : l[i]? = some x) : rchS ls all (l.drop i) = if rsmE x ls ≠ 0 then (rsmE x ls, wSchema ++ x.nm) else rchS ls all (l.drop (i + 1)) := by
 obtain ⟨h1, h2⟩ := List.getElem?_eq_some_iff.1 h
 rw [List.drop_eq_getElem_cons h1, rchS, h2]
theorem errW_no {n : Int} {w : Wd} (h : n ≠ 0) : errW n w = .iface 67 (.agg [.s (.int .i64 0), .s (.str w), .iface 35 (.s (.int .i64 n))]) := by rw [errW, if_neg h]
set_option maxHeartbeats 4000000 in
set_option cbv.maxSteps 10000000 in
set_option maxRecDepth 100000 in
theorem rcheck_spec (a b c d : Int) (ls ss : List Dat) (hb : isCf0 ls ss = true) : ESpec Tryz.prog 8 [.d (.agg [.s (.int .i64 a), .s (.int .i64 b), .s (.int .i64 c), .s (.int .i64 d), .view 10 ls, .view 5 ss])] (fun x => x = .d (rchD ⟨a, b, c, d, unLv ls, unSm ss⟩)) := by
 obtain ⟨uPFormed, huPFormed⟩ : ∃ u : List Dat → List Dat → Bool, u = isCf := ⟨_, rfl⟩
 obtain ⟨uPFormed1, huPFormed1⟩ : ∃ u : Int → Int → Int → Int → List Dat → List Dat → Bool, u = fun a b c d ls ss => formC (cfOf a b c d ls ss) := ⟨_, rfl⟩
 obtain ⟨uRuLevel, huRuLevel⟩ : ∃ u : Wd → Int → Int → Int → Int → Int, u = rlvF := ⟨_, rfl⟩
 obtain ⟨uRuSchema, huRuSchema⟩ : ∃ u : List Dat → List Dat → Bool, u = isRS := ⟨_, rfl⟩
 obtain ⟨uRuSchema1, huRuSchema1⟩ : ∃ u : Wd → Wd → Int → List Dat → List Dat → Int, u = rsmD := ⟨_, rfl⟩
 obtain ⟨uRuLack, huRuLack⟩ : ∃ u : List Dat → List Dat → Bool, u = isCf0 := ⟨_, rfl⟩
 obtain ⟨uRuLack1, huRuLack1⟩ : ∃ u : List Dat → List Dat → Dat, u = fun ls ss => errW (lackF (unLv ls) (unSm ss)).1 (lackF (unLv ls) (unSm ss)).2 := ⟨_, rfl⟩
 have hG : TblOK Tryz.prog [(17, .p (φPFormed uPFormed uPFormed1)), (18, .p (φFOf )), (19, .p (φRuLevel uRuLevel)), (20, .p (φRuSchema uRuSchema uRuSchema1)), (21, .p (φRuLack uRuLack uRuLack1))] := ⟨(by rw [huPFormed, huPFormed1]; exact φPFormed_ok), φFOf_ok, (by rw [huRuLevel]; exact φRuLevel_ok), (by rw [huRuSchema, huRuSchema1]; exact φRuSchema_ok), (by rw [huRuLack, huRuLack1]; exact φRuLack_ok), trivial⟩
 have hb0 := hb
 simp only [isCf0, Bool.and_eq_true] at hb
 obtain ⟨hb1, hb2⟩ := hb
 have qf : uPFormed ls ss = true := by rw [huPFormed, isCf, hb1, hb2]; rfl
 have vf : uPFormed1 a b c d ls ss = formC ⟨a, b, c, d, unLv ls, unSm ss⟩ := by rw [huPFormed1]; rfl
 have ql : uRuLack ls ss = true := by rw [huRuLack]; exact hb0
 obtain ⟨LS, hLS⟩ : ∃ z, z = unLv ls := ⟨_, rfl⟩
 obtain ⟨SS, hSS⟩ : ∃ z, z = unSm ss := ⟨_, rfl⟩
 have el : ls = lvDs LS := by rw [hLS, lv_un hb1]
 have es : ss = smDs SS := by rw [hSS, sm_un hb2]
 have hll : ls.length = LS.length := by rw [el, lvDs_len]
 have hsl : ss.length = SS.length := by rw [es, smDs_len]
 refine ESpec.enter Tryz.func8 (by kernel_rfl) rfl (Nat.le_of_ble_eq_true rfl) fun hok cx hnt hfr => ?_
 obtain ⟨F, hF⟩ := real_ex
 refine AK.runT hF tabOK hmix hnt hfr true _ hG ?_
 conv => arg 4; cbv
 have hlm : ls.length ≤ maxLen := hok.1.2.2.2.2.1.1
 have hsm : ss.length ≤ maxLen := hok.1.2.2.2.2.2.1.1
 simp only [maxLen] at hlm hsm
 refine AKt.need qf fun _ => ?_
 refine AKt.node (fun hfm => ?_) (fun hfm => ?_)
 · simp only [not_iff hF] at hfm
   rw [vf] at hfm
   repeat' (first|with_reducible (first|refine qAh ?_|refine qAt ?_|refine qAf ?_|refine qAy (by assumption) ?_|refine qAn (by assumption) ?_|refine qAd (fun hb => ?_) (fun hb => ?_)|refine qAe ?_ (fun hb => ?_)|refine qAl ?_)|((with_reducible show _=true); assumption))
   refine AKp.doneE tabOK hfr (by rfl) ?_
   show _ = _
   simp only [tupAV]
   have e : rchF ⟨a, b, c, d, unLv ls, unSm ss⟩ = (2, []) := by
     unfold rchF
     rw [if_pos hfm]
   rw [rchD, e]
   rfl
 simp only [not_iff hF] at hfm
 rw [vf] at hfm
 have hfm2 := hfm
 simp only [formC, Bool.and_eq_true, decide_eq_true_eq] at hfm2
 obtain ⟨_, _, _, _, _, z6, z7, z8, z9⟩ := hfm2
 have e0 : rchF ⟨a, b, c, d, unLv ls, unSm ss⟩ = if a = 0 then (12, [116,111,116,97,108]) else if b = 0 then (12, [112,101,114,105,111,100]) else if c = 0 then (12, [115,101,97,116,115]) else rchL LS SS LS := by
   unfold rchF
   rw [if_neg (fun h => Bool.noConfusion (hfm.symm.trans h)), hLS, hSS]
 have k0 : F .inB 0 3 = some 0 := by rw [hF]; rfl
 have k1 : F .inB 1 3 = some 1 := by rw [hF]; rfl
 have k2 : F .inB 2 3 = some 2 := by rw [hF]; rfl
 have l0 : F .ltI 0 3 = true := by rw [hF]; rfl
 have l1 : F .ltI 1 3 = true := by rw [hF]; rfl
 have l2 : F .ltI 2 3 = true := by rw [hF]; rfl
 have l3 : F .ltI 3 3 = false := by rw [hF]; rfl
 have a0 : F .wrap .i64 (F .add 0 1) = 1 := by rw [hF]; rfl
 have a1 : F .wrap .i64 (F .add 1 1) = 2 := by rw [hF]; rfl
 have a2 : F .wrap .i64 (F .add 2 1) = 3 := by rw [hF]; rfl
 repeat' (first|with_reducible (first|refine qAh ?_|refine qAt ?_|refine qAf ?_|refine qAy (by assumption) ?_|refine qAn (by assumption) ?_|refine qAd (fun hb => ?_) (fun hb => ?_)|refine qAe ?_ (fun hb => ?_)|refine qAl ?_)|((with_reducible show _=true); assumption))
 refine AKp.unroll 4 fun J0 n0 => ?_
 refine AK.runT hF tabOK hmix hnt hfr true _ hG ?_
 conv => arg 4; cbv
 with_reducible refine AKt.yes l0 ?_
 rw [k0]
 conv => arg 4; cbv
 refine AKt.node (fun t0 => ?_) (fun t0 => ?_)
 · simp only [eqI_iff hF] at t0
   repeat' (first|with_reducible (first|refine qAh ?_|refine qAt ?_|refine qAf ?_|refine qAy (by assumption) ?_|refine qAn (by assumption) ?_|refine qAd (fun hb => ?_) (fun hb => ?_)|refine qAe ?_ (fun hb => ?_)|refine qAl ?_)|((with_reducible show _=true); assumption))
   refine AKp.doneE tabOK hfr (by rfl) ?_
   show _ = _
   simp only [tupAV]
   rw [rchD, e0, if_pos t0]
   rfl
 simp only [eqI_iff hF] at t0
 repeat' (first|with_reducible (first|refine qAh ?_|refine qAt ?_|refine qAf ?_|refine qAy (by assumption) ?_|refine qAn (by assumption) ?_|refine qAd (fun hb => ?_) (fun hb => ?_)|refine qAe ?_ (fun hb => ?_)|refine qAl ?_)|((with_reducible show _=true); assumption))
 rw [a0]
 obtain ⟨J1, n1, nx⟩ := n0
 refine AKp.backTo (nx _ ?_)
 clear nx
 refine AK.runT hF tabOK hmix hnt hfr true _ hG ?_
 conv => arg 4; cbv
 with_reducible refine AKt.yes l1 ?_
 rw [k1]
 conv => arg 4; cbv
 refine AKt.node (fun t1 => ?_) (fun t1 => ?_)
 · simp only [eqI_iff hF] at t1
   repeat' (first|with_reducible (first|refine qAh ?_|refine qAt ?_|refine qAf ?_|refine qAy (by assumption) ?_|refine qAn (by assumption) ?_|refine qAd (fun hb => ?_) (fun hb => ?_)|refine qAe ?_ (fun hb => ?_)|refine qAl ?_)|((with_reducible show _=true); assumption))
   refine AKp.doneE tabOK hfr (by rfl) ?_
   show _ = _
   simp only [tupAV]
   rw [rchD, e0, if_neg t0, if_pos t1]
   rfl
 simp only [eqI_iff hF] at t1
 repeat' (first|with_reducible (first|refine qAh ?_|refine qAt ?_|refine qAf ?_|refine qAy (by assumption) ?_|refine qAn (by assumption) ?_|refine qAd (fun hb => ?_) (fun hb => ?_)|refine qAe ?_ (fun hb => ?_)|refine qAl ?_)|((with_reducible show _=true); assumption))
 rw [a1]
 obtain ⟨J2, n2, nx⟩ := n1
 refine AKp.backTo (nx _ ?_)
 clear nx
 refine AK.runT hF tabOK hmix hnt hfr true _ hG ?_
 conv => arg 4; cbv
 with_reducible refine AKt.yes l2 ?_
 rw [k2]
 conv => arg 4; cbv
 refine AKt.node (fun t2 => ?_) (fun t2 => ?_)
 · simp only [eqI_iff hF] at t2
   repeat' (first|with_reducible (first|refine qAh ?_|refine qAt ?_|refine qAf ?_|refine qAy (by assumption) ?_|refine qAn (by assumption) ?_|refine qAd (fun hb => ?_) (fun hb => ?_)|refine qAe ?_ (fun hb => ?_)|refine qAl ?_)|((with_reducible show _=true); assumption))
   refine AKp.doneE tabOK hfr (by rfl) ?_
   show _ = _
   simp only [tupAV]
   rw [rchD, e0, if_neg t0, if_neg t1, if_pos t2]
   rfl
 simp only [eqI_iff hF] at t2
 repeat' (first|with_reducible (first|refine qAh ?_|refine qAt ?_|refine qAf ?_|refine qAy (by assumption) ?_|refine qAn (by assumption) ?_|refine qAd (fun hb => ?_) (fun hb => ?_)|refine qAe ?_ (fun hb => ?_)|refine qAl ?_)|((with_reducible show _=true); assumption))
 rw [a2]
 obtain ⟨J3, n3, nx⟩ := n2
 refine AKp.backTo (nx _ ?_)
 clear nx
 refine AK.runT hF tabOK hmix hnt hfr true _ hG ?_
 conv => arg 4; cbv
 rw [if_neg t0, if_neg t1, if_neg t2] at e0
 with_reducible refine AKt.no l3 ?_
 repeat' (first|with_reducible (first|refine qAh ?_|refine qAt ?_|refine qAf ?_|refine qAy (by assumption) ?_|refine qAn (by assumption) ?_|refine qAd (fun hb => ?_) (fun hb => ?_)|refine qAe ?_ (fun hb => ?_)|refine qAl ?_)|((with_reducible show _=true); assumption))
 refine AKp.enterLoop 41 ?_
 conv => arg 7; cbv
 refine AKl.invT hF tabOK hmix hnt hfr true _ hG (fun n vs hs => ∃ (i : Nat) (iv : Int), i + n = LS.length ∧ iv = i ∧ rchL LS SS (LS.drop i) = rchL LS SS LS ∧ vs = [(40, .d (.s (.int .i64 iv)))] ∧ hs = [(0, .cs 25 [.d (.s (.int .i64 a)), .d (.s (.int .i64 b)), .d (.s (.int .i64 c)), .d (.s (.int .i64 d)), .d (.view 10 ls), .d (.view 5 ss)])]) LS.length ⟨0, _, by omega, rfl, rfl, rfl, rfl⟩ (by repeat (first | exact True.intro | refine ⟨⟨rfl, rfl⟩, ?_⟩)) (by repeat (first | exact True.intro | refine ⟨⟨rfl, rfl, rfl⟩, ?_⟩)) ?_
 rintro J n vs hs hJ ⟨i, iv, hi, hiv, hr, rfl, rfl⟩
 conv => arg 4; cbv
 refine AKt.node (fun hbb => ?_) (fun hbb => ?_)
 · have hlt : i < LS.length := by rw [hF, f_ltI, f_lenD, hll, hiv] at hbb; have := of_decide_eq_true hbb; omega
   obtain ⟨x, hx⟩ : ∃ x, LS[i]? = some x := ⟨_, List.getElem?_eq_getElem hlt⟩
   have hd : ls[i]? = some x.dat := by rw [el]; exact lvDs_get hx
   have hx_ : F .hasD ls iv [.str, .int .i64, .int .i64, .int .i64, .int .i64, .int .i64, .int .i64, .int .i64, .int .i64, .int .i64] = true := t_hasD hF hd hiv rfl
   obtain ⟨x0, hx0⟩ : ∃ z, z = x.nm := ⟨_, rfl⟩
   try rw [show F .strA ls iv 0 = x0 by rw [hx0]; exact t_strA hF hd hiv rfl]
   obtain ⟨x1, hx1⟩ : ∃ z, z = x.kd := ⟨_, rfl⟩
   try rw [show F .intA ls iv 1 = x1 by rw [hx1]; exact t_intA hF hd hiv rfl]
   obtain ⟨x2, hx2⟩ : ∃ z, z = x.sh := ⟨_, rfl⟩
   try rw [show F .intA ls iv 2 = x2 by rw [hx2]; exact t_intA hF hd hiv rfl]
   obtain ⟨x3, hx3⟩ : ∃ z, z = x.ld := ⟨_, rfl⟩
   try rw [show F .intA ls iv 3 = x3 by rw [hx3]; exact t_intA hF hd hiv rfl]
   obtain ⟨x4, hx4⟩ : ∃ z, z = x.bo := ⟨_, rfl⟩
   try rw [show F .intA ls iv 4 = x4 by rw [hx4]; exact t_intA hF hd hiv rfl]
   obtain ⟨x5, hx5⟩ : ∃ z, z = x.qu := ⟨_, rfl⟩
   try rw [show F .intA ls iv 5 = x5 by rw [hx5]; exact t_intA hF hd hiv rfl]
   obtain ⟨x6, hx6⟩ : ∃ z, z = x.ha := ⟨_, rfl⟩
   try rw [show F .intA ls iv 6 = x6 by rw [hx6]; exact t_intA hF hd hiv rfl]
   obtain ⟨x7, hx7⟩ : ∃ z, z = x.le := ⟨_, rfl⟩
   try rw [show F .intA ls iv 7 = x7 by rw [hx7]; exact t_intA hF hd hiv rfl]
   obtain ⟨x8, hx8⟩ : ∃ z, z = x.wa := ⟨_, rfl⟩
   try rw [show F .intA ls iv 8 = x8 by rw [hx8]; exact t_intA hF hd hiv rfl]
   obtain ⟨x9, hx9⟩ : ∃ z, z = x.gu := ⟨_, rfl⟩
   try rw [show F .intA ls iv 9 = x9 by rw [hx9]; exact t_intA hF hd hiv rfl]
   rw [rchL_drop hx] at hr
   have hv : uRuLevel x0 x1 x2 x5 x6 = rlvE x := by rw [huRuLevel, hx0, hx1, hx2, hx5, hx6]; rfl
   have hnm : x0.length ≤ 32 := by
     have := allL_ok z8 x (by rw [← hLS]; exact List.mem_of_getElem? hx)
     simp only [levOK, Bool.and_eq_true] at this
     rw [hx0]
     exact small_name this.1
   refine AKt.need hx_ fun _ => AKt.need rfl fun _ => ?_
   rw [hv]
   refine AKt.node (fun t => ?_) (fun t => ?_)
   · simp only [not_iff hF, eqI_iff hF] at t
     refine AKt.need (t_hasCat hF (by simp only [List.length_cons, List.length_nil]; omega)) fun _ => ?_
     repeat' (first|with_reducible (first|refine qAh ?_|refine qAt ?_|refine qAf ?_|refine qAy (by assumption) ?_|refine qAn (by assumption) ?_|refine qAd (fun hb => ?_) (fun hb => ?_)|refine qAe ?_ (fun hb => ?_)|refine qAl ?_)|((with_reducible show _=true); assumption))
     refine AKp.doneE tabOK hfr (by rfl) ?_
     show _ = _
     simp only [tupAV]
     rw [rchD, e0, ← hr, if_pos t, errW_no t, t_app hF, hx0]
     rfl
   · simp only [not_iff hF, eqI_iff hF] at t
     rw [if_neg (fun h => h t)] at hr
     repeat' (first|with_reducible (first|refine qAh ?_|refine qAt ?_|refine qAf ?_|refine qAy (by assumption) ?_|refine qAn (by assumption) ?_|refine qAd (fun hb => ?_) (fun hb => ?_)|refine qAe ?_ (fun hb => ?_)|refine qAl ?_)|((with_reducible show _=true); assumption))
     refine AKp.again _ hfr (by repeat (first | exact True.intro | refine ⟨⟨rfl, rfl⟩, ?_⟩)) (by repeat (first | exact True.intro | refine ⟨⟨rfl, rfl, rfl⟩, ?_⟩)) (hJ (n - 1) _ _ (by omega) ⟨i + 1, _, by omega, inc_i hF hiv (by omega), hr, rfl, rfl⟩)
 have hge : ¬ i < LS.length := by rw [hF, f_ltI, f_lenD, hll, hiv] at hbb; have := of_decide_eq_false hbb; omega
 rw [List.drop_eq_nil_of_le (by omega), rchL] at hr
 rw [← hr] at e0
 clear hJ hbb
 repeat' (first|with_reducible (first|refine qAh ?_|refine qAt ?_|refine qAf ?_|refine qAy (by assumption) ?_|refine qAn (by assumption) ?_|refine qAd (fun hb => ?_) (fun hb => ?_)|refine qAe ?_ (fun hb => ?_)|refine qAl ?_)|((with_reducible show _=true); assumption))
 refine AKp.enterLoop 59 ?_
 conv => arg 7; cbv
 refine AKl.invT hF tabOK hmix hnt hfr true _ hG (fun n vs hs => ∃ (i : Nat) (iv : Int), i + n = SS.length ∧ iv = i ∧ rchS LS SS (SS.drop i) = rchS LS SS SS ∧ vs = [(58, .d (.s (.int .i64 iv)))] ∧ hs = [(0, .cs 25 [.d (.s (.int .i64 a)), .d (.s (.int .i64 b)), .d (.s (.int .i64 c)), .d (.s (.int .i64 d)), .d (.view 10 ls), .d (.view 5 ss)])]) SS.length ⟨0, _, by omega, rfl, rfl, rfl, rfl⟩ (by repeat (first | exact True.intro | refine ⟨⟨rfl, rfl⟩, ?_⟩)) (by repeat (first | exact True.intro | refine ⟨⟨rfl, rfl, rfl⟩, ?_⟩)) ?_
 rintro J n vs hs hJ ⟨i, iv, hi, hiv, hr, rfl, rfl⟩
 conv => arg 4; cbv
 refine AKt.node (fun hbb => ?_) (fun hbb => ?_)
 · have hlt : i < SS.length := by rw [hF, f_ltI, f_lenD, hsl, hiv] at hbb; have := of_decide_eq_true hbb; omega
   obtain ⟨x, hx⟩ : ∃ x, SS[i]? = some x := ⟨_, List.getElem?_eq_getElem hlt⟩
   have hd : ss[i]? = some x.dat := by rw [es]; exact smDs_get hx
   have hx_ : F .hasD ss iv [.str, .str, .int .i64, .int .i64, .view 5] = true := t_hasD hF hd hiv rfl
   obtain ⟨x0, hx0⟩ : ∃ z, z = x.nm := ⟨_, rfl⟩
   try rw [show F .strA ss iv 0 = x0 by rw [hx0]; exact t_strA hF hd hiv rfl]
   obtain ⟨x1, hx1⟩ : ∃ z, z = x.lv := ⟨_, rfl⟩
   try rw [show F .strA ss iv 1 = x1 by rw [hx1]; exact t_strA hF hd hiv rfl]
   obtain ⟨x2, hx2⟩ : ∃ z, z = x.rk := ⟨_, rfl⟩
   try rw [show F .intA ss iv 2 = x2 by rw [hx2]; exact t_intA hF hd hiv rfl]
   obtain ⟨x3, hx3⟩ : ∃ z, z = x.bb := ⟨_, rfl⟩
   try rw [show F .intA ss iv 3 = x3 by rw [hx3]; exact t_intA hF hd hiv rfl]
   obtain ⟨x4, hx4⟩ : ∃ z, z = rlDs x.rl := ⟨_, rfl⟩
   try rw [show F .viewA ss iv 4 = x4 by rw [hx4]; exact t_viewA hF hd hiv rfl]
   rw [rchS_drop hx] at hr
   have hv : uRuSchema1 x0 x1 x2 x4 ls = rsmE x LS := by rw [huRuSchema1, hx0, hx1, hx2, hx4]; show rsmD _ _ _ _ _ = _; rw [rsmD, un_rl, ← hLS]; rfl
   have hq : uRuSchema x4 ls = true := by rw [huRuSchema, isRS, hx4, is_rl, hb1]; rfl
   have hnm : x0.length ≤ 32 := by
     have := allM_ok z9 x (by rw [← hSS]; exact List.mem_of_getElem? hx)
     simp only [smOK, Bool.and_eq_true] at this
     rw [hx0]
     exact small_name this.1
   refine AKt.need hx_ fun _ => AKt.need hq fun _ => ?_
   rw [hv]
   refine AKt.node (fun t => ?_) (fun t => ?_)
   · simp only [not_iff hF, eqI_iff hF] at t
     refine AKt.need (t_hasCat hF (by simp only [List.length_cons, List.length_nil]; omega)) fun _ => ?_
     repeat' (first|with_reducible (first|refine qAh ?_|refine qAt ?_|refine qAf ?_|refine qAy (by assumption) ?_|refine qAn (by assumption) ?_|refine qAd (fun hb => ?_) (fun hb => ?_)|refine qAe ?_ (fun hb => ?_)|refine qAl ?_)|((with_reducible show _=true); assumption))
     refine AKp.doneE tabOK hfr (by rfl) ?_
     show _ = _
     simp only [tupAV]
     rw [rchD, e0, ← hr, if_pos t, errW_no t, t_app hF, hx0]
     rfl
   · simp only [not_iff hF, eqI_iff hF] at t
     rw [if_neg (fun h => h t)] at hr
     repeat' (first|with_reducible (first|refine qAh ?_|refine qAt ?_|refine qAf ?_|refine qAy (by assumption) ?_|refine qAn (by assumption) ?_|refine qAd (fun hb => ?_) (fun hb => ?_)|refine qAe ?_ (fun hb => ?_)|refine qAl ?_)|((with_reducible show _=true); assumption))
     refine AKp.again _ hfr (by repeat (first | exact True.intro | refine ⟨⟨rfl, rfl⟩, ?_⟩)) (by repeat (first | exact True.intro | refine ⟨⟨rfl, rfl, rfl⟩, ?_⟩)) (hJ (n - 1) _ _ (by omega) ⟨i + 1, _, by omega, inc_i hF hiv (by omega), hr, rfl, rfl⟩)
 have hge : ¬ i < SS.length := by rw [hF, f_ltI, f_lenD, hsl, hiv] at hbb; have := of_decide_eq_false hbb; omega
 rw [List.drop_eq_nil_of_le (by omega), rchS] at hr
 rw [← hr] at e0
 repeat' (first|with_reducible (first|refine qAh ?_|refine qAt ?_|refine qAf ?_|refine qAy (by assumption) ?_|refine qAn (by assumption) ?_|refine qAd (fun hb => ?_) (fun hb => ?_)|refine qAe ?_ (fun hb => ?_)|refine qAl ?_)|((with_reducible show _=true); assumption))
 refine AKp.doneE tabOK hfr (by rfl) ?_
 show _ = _
 simp only [tupAV]
 rw [rchD, e0, huRuLack1, hLS, hSS]
end Go.Proofs.YtpmpajodihpkaaaGreatDoor
namespace Go.Proofs.YtpmpajodihpkaaaGreatDoor
open Go Go.Proofs Go.Ua Go.Extern
structure Pass (c : Cf) : Prop where
 form : formC c = true
 tt : c.tt ≠ 0
 pe : c.pe ≠ 0
 pr : c.pr ≠ 0
 lv : ∀ l, l ∈ c.ls → rlvE l = 0
 sm : ∀ s, s ∈ c.ss → rsmE s c.ls = 0
 e1 : haveL wEx c.ls = true
 e2 : haveL wCa c.ls = true
 e3 : haveS wEx c.ss = true
 e4 : haveS wCa c.ss = true
def chkOk (a b c d : Int) (ls ss : List Dat) : Bool := isCf0 ls ss && decide ((rchF ⟨a, b, c, d, unLv ls, unSm ss⟩).1 = 0)
def chkBad (a b c d : Int) (ls ss : List Dat) : Bool := isCf0 ls ss && decide (¬ (rchF ⟨a, b, c, d, unLv ls, unSm ss⟩).1 = 0)
theorem checkOk_spec (a b c d : Int) (ls ss : List Dat) (hb : chkOk a b c d ls ss = true) : ESpec Tryz.prog 8 [.d (.agg [.s (.int .i64 a), .s (.int .i64 b), .s (.int .i64 c), .s (.int .i64 d), .view 10 ls, .view 5 ss])] (fun x => x = .d (.s .if0)) := by
 rw [chkOk, Bool.and_eq_true, decide_eq_true_eq] at hb
 have h := rcheck_spec a b c d ls ss hb.1
 rw [rchD, errW, if_pos hb.2] at h
 exact h
theorem checkBad_spec (a b c d : Int) (ls ss : List Dat) (hb : chkBad a b c d ls ss = true) : ESpec Tryz.prog 8 [.d (.agg [.s (.int .i64 a), .s (.int .i64 b), .s (.int .i64 c), .s (.int .i64 d), .view 10 ls, .view 5 ss])] (fun x => x = .d (.iface 67 (.agg [.s (.int .i64 0), .s (.str (rchF ⟨a, b, c, d, unLv ls, unSm ss⟩).2), .iface 35 (.s (.int .i64 (rchF ⟨a, b, c, d, unLv ls, unSm ss⟩).1))]))) := by
 rw [chkBad, Bool.and_eq_true, decide_eq_true_eq] at hb
 have h := rcheck_spec a b c d ls ss hb.1
 rw [rchD, errW_no hb.2] at h
 exact h
def φCheckOk (p : Int → Int → Int → Int → List Dat → List Dat → Bool) : List AV → Option (Bool × AV)
 | [.d (.agg [.s (.int .i64 a), .s (.int .i64 b), .s (.int .i64 c), .s (.int .i64 d), .view 10 ls, .view 5 ss])] => some (p a b c d ls ss, .d (.s .if0))
 | _ => none
theorem φCheckOk_ok : SpOK Tryz.prog 8 (φCheckOk (chkOk)) := by
 intro xs b x h hb
 unfold φCheckOk at h
 split at h
 · simp only [Option.some.injEq, Prod.mk.injEq] at h
   obtain ⟨rfl, rfl⟩ := h
   exact checkOk_spec _ _ _ _ _ _ hb
 · cases h
def φCheckBad (p : Int → Int → Int → Int → List Dat → List Dat → Bool) (w : Int → Int → Int → Int → List Dat → List Dat → Wd) (n : Int → Int → Int → Int → List Dat → List Dat → Int) : List AV → Option (Bool × AV)
 | [.d (.agg [.s (.int .i64 a), .s (.int .i64 b), .s (.int .i64 c), .s (.int .i64 d), .view 10 ls, .view 5 ss])] => some (p a b c d ls ss, .d (.iface 67 (.agg [.s (.int .i64 0), .s (.str (w a b c d ls ss)), .iface 35 (.s (.int .i64 (n a b c d ls ss)))])))
 | _ => none
theorem φCheckBad_ok : SpOK Tryz.prog 8 (φCheckBad (chkBad) (fun a b c d ls ss => (rchF ⟨a, b, c, d, unLv ls, unSm ss⟩).2) (fun a b c d ls ss => (rchF ⟨a, b, c, d, unLv ls, unSm ss⟩).1)) := by
 intro xs b x h hb
 unfold φCheckBad at h
 split at h
 · simp only [Option.some.injEq, Prod.mk.injEq] at h
   obtain ⟨rfl, rfl⟩ := h
   exact checkBad_spec _ _ _ _ _ _ hb
 · cases h
end Go.Proofs.YtpmpajodihpkaaaGreatDoor
namespace Go.Proofs.YtpmpajodihpkaaaGreatDoor
open Go Go.Proofs Go.Ua Go.Extern
theorem addL_bd {w : Wd} {x : Lv} {ls l : List Lv} : (addL w x ls l).length ≤ l.length + 1 := by
 unfold addL
 split
 · omega
 · simp
theorem addS_bd {w : Wd} {x : Sm} {ls l : List Sm} : (addS w x ls l).length ≤ l.length + 1 := by
 unfold addS
 split
 · omega
 · simp
theorem fill_cp {c : Cf} (h : smallF c = true) : cpC (fillF c) = true := by
 have h0 := cp_small h
 simp only [smallF, Bool.and_eq_true, decide_eq_true_eq] at h
 obtain ⟨h1, h2, h3, h4, h5⟩ := h
 simp only [cpC, Bool.and_eq_true, decide_eq_true_eq] at h0 ⊢
 obtain ⟨g1, g2, g3⟩ := h0
 have a1 := addL_bd (w := wEx) (x := lEx) (ls := c.ls) (l := c.ls)
 have a2 := addL_bd (w := wCa) (x := lCa) (ls := c.ls) (l := addL wEx lEx c.ls c.ls)
 have b1 := addS_bd (w := wEx) (x := sEx) (ls := c.ss) (l := c.ss)
 have b2 := addS_bd (w := wCa) (x := sCa) (ls := c.ss) (l := addS wEx sEx c.ss c.ss)
 refine ⟨?_, ?_, ?_⟩
 · show (addL wCa lCa c.ls (addL wEx lEx c.ls c.ls)).length ≤ 1000
   omega
 · show (addS wCa sCa c.ss (addS wEx sEx c.ss c.ss)).length ≤ 1000
   omega
 · show (addS wCa sCa c.ss (addS wEx sEx c.ss c.ss)).all cpS = true
   have k : ∀ {w x} {l : List Sm}, cpS x = true → l.all cpS = true → (addS w x c.ss l).all cpS = true := fun hx hl => by
     unfold addS
     split
     · exact hl
     · rw [List.all_append, hl]
       simp [hx]
   exact k (by decide) (k (by decide) g3)
end Go.Proofs.YtpmpajodihpkaaaGreatDoor
