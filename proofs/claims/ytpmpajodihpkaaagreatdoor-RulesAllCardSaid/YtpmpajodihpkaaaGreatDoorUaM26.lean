/- The library of this claim and its walks, part 26, joined out of smaller texts. No statement stands in it. -/
import Derived.Test.YtpmpajodihpkaaaGreatDoorUaM22
import Derived.Test.YtpmpajodihpkaaaGreatDoorUaM25
import Derived.Lib.FieldsP
set_option linter.unusedSimpArgs false
set_option linter.unusedVariables false
namespace Go.Ua
open Go Go.Proofs Go.Lib
def words32 (s : List UInt8) : List (List UInt8) := (cutF 32 s).filter fun p => !(p == [])
theorem cut_none {c : UInt8} : ∀ {s : List UInt8}, c ∉ s → cutF c s = [s]
 | [], _ => rfl
 | b :: r, h => by
   have h1 : ¬ b = c := fun e => h (by rw [e]; simp)
   have ih := cut_none (s := r) fun hm => h (List.mem_cons_of_mem _ hm)
   unfold cutF
   rw [if_neg h1, ih]
theorem cut_app {c : UInt8} : ∀ {p : List UInt8} (r : List UInt8), c ∉ p → cutF c (p ++ c :: r) = p :: cutF c r
 | [], r, _ => by simp [cutF]
 | b :: p, r, h => by
   have h1 : ¬ b = c := fun e => h (by rw [e]; simp)
   have ih := cut_app (p := p) r fun hm => h (List.mem_cons_of_mem _ hm)
   show cutF c (b :: (p ++ c :: r)) = _
   rw [show cutF c (b :: (p ++ c :: r)) = (if b = c then [] :: cutF c (p ++ c :: r) else match cutF c (p ++ c :: r) with
     | p :: ps => (b :: p) :: ps
     | [] => [[b]]) from rfl, if_neg h1, ih]
theorem words_none {p : List UInt8} (h : (32 : UInt8) ∉ p) : words32 p = if p = [] then [] else [p] := by
 unfold words32
 rw [cut_none h]
 by_cases e : p = []
 · subst e; rfl
 · rw [if_neg e]
   simp [e]
theorem words_app {p : List UInt8} (r : List UInt8) (h : (32 : UInt8) ∉ p) : words32 (p ++ 32 :: r) = (if p = [] then [] else [p]) ++ words32 r := by
 unfold words32
 rw [cut_app r h]
 by_cases e : p = []
 · subst e; rfl
 · rw [if_neg e]
   simp [e]
end Go.Ua
namespace Go.Proofs.YtpmpajodihpkaaaGreatDoor
open Go Go.Proofs Go.Ua Go.Extern
set_option maxRecDepth 10000
theorem RefGoodD_spec (es : List Dat) (h : isStrs es = true) : ESpec Tryz.prog 77 [.d (.view 1 es)] (fun x => x = .d (.s (.bool (goodF (unStr es))))) := by
 have := RefGood_spec (unStr es)
 rwa [strDs_unStr h] at this
def φRefGood (p u : List Dat → Bool) : List AV → Option (Bool × AV)
 | [.d (.view 1 l)] => some (p l, .d (.s (.bool (u l))))
 | _ => none
theorem φRefGood_ok : SpOK Tryz.prog 77 (φRefGood (isStrs) (fun l => goodF (unStr l))) := by
 intro xs b x h hb
 unfold φRefGood at h
 split at h
 · simp only [Option.some.injEq, Prod.mk.injEq] at h
   obtain ⟨rfl, rfl⟩ := h
   exact RefGoodD_spec _ hb
 · cases h
theorem good_short {w : List UInt8} (h : goodF (cutF 44 w) = true) : w.length ≤ 520 := by
 obtain ⟨h1, h2⟩ := good_le h
 have h3 := join_le _ h2
 rw [join_cut] at h3
 omega
set_option maxRecDepth 10000 in
theorem RefList_spec (w : List UInt8) (hw : le32 w = true) : ESpec Tryz.prog 71 [.d (.s (.str w))] (fun x => x = .tup [.d (.view 1 (listV w)), .d (.s (.bool (listB w)))]) := by
 obtain ⟨uCut, huCut⟩ : ∃ u : List UInt8 → Bool, u = le32 := ⟨_, rfl⟩
 obtain ⟨uCut1, huCut1⟩ : ∃ u : List UInt8 → Int → List Dat, u = fun w n => strDs (cutF (UInt8.ofNat n.toNat) w) := ⟨_, rfl⟩
 obtain ⟨uRefGood, huRefGood⟩ : ∃ u : List Dat → Bool, u = isStrs := ⟨_, rfl⟩
 obtain ⟨uRefGood1, huRefGood1⟩ : ∃ u : List Dat → Bool, u = fun l => goodF (unStr l) := ⟨_, rfl⟩
 have hG : TblOK Tryz.prog [(59, .p (φCut uCut uCut1)), (77, .p (φRefGood uRefGood uRefGood1))] := ⟨(by rw [huCut, huCut1]; exact φCut_ok), (by rw [huRefGood, huRefGood1]; exact φRefGood_ok), trivial⟩
 refine ESpec.enter Tryz.func71 (by kernel_rfl) rfl (Nat.le_of_ble_eq_true rfl) fun hok cx hnt hfr => ?_
 obtain ⟨F, hF⟩ := real_ex
 refine AK.runT hF tabOK hmix hnt hfr false _ hG ?_
 conv => arg 4; cbv
 have hp : uCut w = true := by subst huCut huCut1 huRefGood huRefGood1; exact hw
 have hg : uRefGood (uCut1 w 44) = true := by subst huCut huCut1 huRefGood huRefGood1; exact isStrs_strDs _
 obtain ⟨gd, hgd⟩ : ∃ z, z = goodF (cutF 44 w) := ⟨_, rfl⟩
 have hu : uRefGood1 (uCut1 w 44) = gd := by rw [hgd]; subst huCut huCut1 huRefGood huRefGood1; show goodF (unStr (strDs (cutF 44 w))) = _; rw [unStr_strDs]
 have hc : uCut1 w 44 = strDs (cutF 44 w) := by subst huCut huCut1 huRefGood huRefGood1; rfl
 rw [hu]
 repeat' (first|with_reducible (first|refine qAh ?_|refine qAt ?_|refine qAf ?_|refine qAy (by assumption) ?_|refine qAn (by assumption) ?_|refine qAd (fun hb => ?_) (fun hb => ?_)|refine qAe ?_ (fun hb => ?_)|refine qAl ?_)|((with_reducible show _=true); assumption))
 · refine AKp.retell 2 (.view 1 []) rfl (by repeat constructor) ?_
   conv => arg 4; arg 2; cbv
   refine AKp.doneE tabOK hfr (by rfl) ?_
   show _ = _
   simp only [tupAV]
   unfold listV listB
   rw [show listF w = some [] by rw [listF, if_pos (eqS1 hF ‹F .eqS w [45] = true›)]]
   rfl
 · refine AKp.retell 2 (.view 1 []) rfl (by repeat constructor) ?_
   conv => arg 4; arg 2; cbv
   refine AKp.doneE tabOK hfr (by rfl) ?_
   show _ = _
   simp only [tupAV]
   have h1 := eqS0 hF ‹F .eqS w [45] = false›
   have h2 : goodF (cutF 44 w) = false := by
     rw [← hgd]
     have := ‹F .not gd = true›
     simp only [hF, f_ltI, f_leI, f_eqI, f_eqS, f_eqB, f_not, f_andB, f_orB, f_lenS, f_lenD, f_hasS, f_atS, f_hasC, f_subS, f_hasCat, f_app, f_wrap, f_add, f_sub, f_mul, f_appD, f_fits, f_hasV, f_subV, decide_eq_true_eq, decide_eq_false_iff_not, beq_iff_eq, beq_eq_false_iff_ne, Bool.and_eq_true, Bool.and_eq_false_iff, Bool.not_eq_true, Bool.not_eq_false, Bool.not_eq_eq_eq_not, Bool.not_true, Bool.not_false] at this
     exact this
   unfold listV listB
   rw [show listF w = none by rw [listF, if_neg h1, h2]; simp]
   rfl
 · refine AKp.doneE tabOK hfr (by rfl) ?_
   show _ = _
   simp only [tupAV]
   have h1 := eqS0 hF ‹F .eqS w [45] = false›
   have h2 : goodF (cutF 44 w) = true := by
     rw [← hgd]
     have := ‹F .not gd = false›
     simp only [hF, f_ltI, f_leI, f_eqI, f_eqS, f_eqB, f_not, f_andB, f_orB, f_lenS, f_lenD, f_hasS, f_atS, f_hasC, f_subS, f_hasCat, f_app, f_wrap, f_add, f_sub, f_mul, f_appD, f_fits, f_hasV, f_subV, decide_eq_true_eq, decide_eq_false_iff_not, beq_iff_eq, beq_eq_false_iff_ne, Bool.and_eq_true, Bool.and_eq_false_iff, Bool.not_eq_true, Bool.not_eq_false, Bool.not_eq_eq_eq_not, Bool.not_true, Bool.not_false] at this
     exact this
   unfold listV listB
   rw [hc, show listF w = some (cutF 44 w) by rw [listF, if_neg h1, if_neg (by have := good_short h2; omega), if_pos h2]]
   rfl
def φRefList (p : List UInt8 → Bool) (u : List UInt8 → List Dat) (v : List UInt8 → Bool) : List AV → Option (Bool × AV)
 | [.d (.s (.str w))] => some (p w, .tup [.d (.view 1 (u w)), .d (.s (.bool (v w)))])
 | _ => none
theorem φRefList_ok : SpOK Tryz.prog 71 (φRefList (le32) (listV) (listB)) := by
 intro xs b x h hb
 unfold φRefList at h
 split at h
 · simp only [Option.some.injEq, Prod.mk.injEq] at h
   obtain ⟨rfl, rfl⟩ := h
   exact RefList_spec _ hb
 · cases h
theorem join_snoc (c : UInt8) : ∀ (l : List (List UInt8)) (x : List UInt8), l ≠ [] → Lib.join (l ++ [x]) [c] = Lib.join l [c] ++ c :: x
 | [], x, h => absurd rfl h
 | [a], x, _ => by rw [show [a] ++ [x] = [a, x] from rfl, join_cons2, Lib.join_one, Lib.join_one]
 | a :: b :: r, x, _ => by
   have := join_snoc c (b :: r) x (by simp)
   rw [show a :: b :: r ++ [x] = a :: b :: (r ++ [x]) from rfl, join_cons2, show b :: (r ++ [x]) = b :: r ++ [x] from rfl, this, join_cons2]
   simp
set_option maxRecDepth 10000 in
theorem RefJoin_spec (l : List (List UInt8)) : ESpec Tryz.prog 68 [.d (.view 1 (strDs l))] (fun x => x = .d (.s (.str (joinF l)))) := by
 obtain ⟨uRefGood, huRefGood⟩ : ∃ u : List Dat → Bool, u = isStrs := ⟨_, rfl⟩
 obtain ⟨uRefGood1, huRefGood1⟩ : ∃ u : List Dat → Bool, u = fun l => goodF (unStr l) := ⟨_, rfl⟩
 have hG : TblOK Tryz.prog [(77, .p (φRefGood uRefGood uRefGood1))] := ⟨(by rw [huRefGood, huRefGood1]; exact φRefGood_ok), trivial⟩
 have hp : uRefGood (strDs l) = true := by subst huRefGood huRefGood1; exact isStrs_strDs _
 obtain ⟨gd, hgd⟩ : ∃ z, z = goodF l := ⟨_, rfl⟩
 have hu : uRefGood1 (strDs l) = gd := by rw [hgd]; subst huRefGood huRefGood1; show goodF (unStr (strDs l)) = _; rw [unStr_strDs]
 obtain ⟨es, hes⟩ : ∃ z, z = strDs l := ⟨_, rfl⟩
 rw [← hes] at hp hu ⊢
 have hel : es.length = l.length := by rw [hes]; simp [strDs]
 refine ESpec.enter Tryz.func68 (by kernel_rfl) rfl (Nat.le_of_ble_eq_true rfl) fun hok cx hnt hfr => ?_
 obtain ⟨F, hF⟩ := real_ex
 refine AK.runT hF tabOK hmix hnt hfr false _ hG ?_
 conv => arg 4; cbv
 rw [hu]
 have h0 : F .strA es 0 0 = l.headD [] := by
   cases l with
   | nil => subst hF; rw [hes]; rfl
   | cons a r => rw [hes]; exact t_str0 hF (i := 0) rfl rfl
 obtain ⟨l0, hl0⟩ : ∃ z, z = l.headD [] := ⟨_, rfl⟩
 rw [h0, ← hl0]
 repeat' (first|with_reducible (first|refine qAh ?_|refine qAt ?_|refine qAf ?_|refine qAy (by assumption) ?_|refine qAn (by assumption) ?_|refine qAd (fun hb => ?_) (fun hb => ?_)|refine qAe ?_ (fun hb => ?_)|refine qAl ?_)|((with_reducible show _=true); assumption))
 · refine AKp.doneE tabOK hfr (by rfl) ?_
   show _ = _
   simp only [tupAV]
   have := ‹F .not gd = true›
   simp only [hF, f_ltI, f_leI, f_eqI, f_eqS, f_eqB, f_not, f_andB, f_orB, f_lenS, f_lenD, f_hasS, f_atS, f_hasC, f_subS, f_hasCat, f_app, f_wrap, f_add, f_sub, f_mul, f_appD, f_fits, f_hasV, f_subV, decide_eq_true_eq, decide_eq_false_iff_not, beq_iff_eq, beq_eq_false_iff_ne, Bool.and_eq_true, Bool.and_eq_false_iff, Bool.not_eq_true, Bool.not_eq_false, Bool.not_eq_eq_eq_not, Bool.not_true, Bool.not_false] at this
   unfold joinF
   rw [← hgd, this]
   rfl
 · refine AKp.doneE tabOK hfr (by rfl) ?_
   show _ = _
   simp only [tupAV]
   have h1 := ‹F .eqI (F .lenD es) 0 = true›
   have := ‹F .not gd = false›
   simp only [hF, f_ltI, f_leI, f_eqI, f_eqS, f_eqB, f_not, f_andB, f_orB, f_lenS, f_lenD, f_hasS, f_atS, f_hasC, f_subS, f_hasCat, f_app, f_wrap, f_add, f_sub, f_mul, f_appD, f_fits, f_hasV, f_subV, decide_eq_true_eq, decide_eq_false_iff_not, beq_iff_eq, beq_eq_false_iff_ne, Bool.and_eq_true, Bool.and_eq_false_iff, Bool.not_eq_true, Bool.not_eq_false, Bool.not_eq_eq_eq_not, Bool.not_true, Bool.not_false] at this h1
   obtain rfl : l = [] := List.eq_nil_of_length_eq_zero (by omega)
   rfl
 · have h1 := ‹F .eqI (F .lenD es) 0 = false›
   simp only [hF, f_ltI, f_leI, f_eqI, f_eqS, f_eqB, f_not, f_andB, f_orB, f_lenS, f_lenD, f_hasS, f_atS, f_hasC, f_subS, f_hasCat, f_app, f_wrap, f_add, f_sub, f_mul, f_appD, f_fits, f_hasV, f_subV, decide_eq_true_eq, decide_eq_false_iff_not, beq_iff_eq, beq_eq_false_iff_ne, Bool.and_eq_true, Bool.and_eq_false_iff, Bool.not_eq_true, Bool.not_eq_false, Bool.not_eq_eq_eq_not, Bool.not_true, Bool.not_false] at h1
   rw [hes]
   exact t_hasStrs hF (i := 0) (by omega) rfl
 · have h1 := ‹F .eqI (F .lenD es) 0 = false›
   have hg : goodF l = true := by
     rw [← hgd]
     have := ‹F .not gd = false›
     simp only [hF, f_ltI, f_leI, f_eqI, f_eqS, f_eqB, f_not, f_andB, f_orB, f_lenS, f_lenD, f_hasS, f_atS, f_hasC, f_subS, f_hasCat, f_app, f_wrap, f_add, f_sub, f_mul, f_appD, f_fits, f_hasV, f_subV, decide_eq_true_eq, decide_eq_false_iff_not, beq_iff_eq, beq_eq_false_iff_ne, Bool.and_eq_true, Bool.and_eq_false_iff, Bool.not_eq_true, Bool.not_eq_false, Bool.not_eq_eq_eq_not, Bool.not_true, Bool.not_false] at this
     exact this
   simp only [hF, f_ltI, f_leI, f_eqI, f_eqS, f_eqB, f_not, f_andB, f_orB, f_lenS, f_lenD, f_hasS, f_atS, f_hasC, f_subS, f_hasCat, f_app, f_wrap, f_add, f_sub, f_mul, f_appD, f_fits, f_hasV, f_subV, decide_eq_true_eq, decide_eq_false_iff_not, beq_iff_eq, beq_eq_false_iff_ne, Bool.and_eq_true, Bool.and_eq_false_iff, Bool.not_eq_true, Bool.not_eq_false, Bool.not_eq_eq_eq_not, Bool.not_true, Bool.not_false] at h1
   obtain ⟨a, r, rfl⟩ : ∃ a r, l = a :: r := by
     cases l with
     | nil => exact absurd (by rw [hel]; rfl) h1
     | cons a r => exact ⟨a, r, rfl⟩
   obtain ⟨l, hl⟩ : ∃ l, l = a :: r := ⟨_, rfl⟩
   have hg2 := good_le hg
   have hj : joinF (a :: r) = Lib.join l [44] := by unfold joinF; rw [if_pos hg, if_neg (by simp), hl]
   have hne : l ≠ [] := by rw [hl]; simp
   rw [← hl] at hes hel hg2
   rw [hj]
   have hl0 : l0 = a := hl0
   rw [hl0]
   refine AKp.enterLoop 5 ?_
   conv => arg 7; cbv
   refine AKl.invT hF tabOK hmix hnt hfr false _ hG (fun n vs hs => ∃ (i : Nat) (iv : Int) (s : List UInt8), i + n = l.length ∧ 1 ≤ i ∧ iv = i ∧ s = Lib.join (l.take i) [44] ∧ vs = [(4, .d (.s (.int .i64 iv))), (3, .d (.s (.str s)))] ∧ hs = []) (l.length - 1) ⟨1, _, a, by have : 1 ≤ l.length := (by rw [hl]; simp); omega, by omega, rfl, by rw [hl]; exact (Lib.join_one _ _).symm, rfl, rfl⟩ (by repeat (first | exact True.intro | refine ⟨⟨rfl, rfl⟩, ?_⟩)) (by repeat (first | exact True.intro | refine ⟨⟨rfl, rfl, rfl⟩, ?_⟩)) ?_
   rintro J n vs hs hJ ⟨i, iv, s, hi, hi1, hiv, hs, rfl, rfl⟩
   conv => arg 4; cbv
   refine AKt.node (fun hb => ?_) (fun hb => ?_)
   · have hlt : i < l.length := by simp only [hF, f_ltI, f_leI, f_eqI, f_eqS, f_eqB, f_not, f_andB, f_orB, f_lenS, f_lenD, f_hasS, f_atS, f_hasC, f_subS, f_hasCat, f_app, f_wrap, f_add, f_sub, f_mul, f_appD, f_fits, f_hasV, f_subV, decide_eq_true_eq, decide_eq_false_iff_not, beq_iff_eq, beq_eq_false_iff_ne, Bool.and_eq_true, Bool.and_eq_false_iff, Bool.not_eq_true, Bool.not_eq_false, Bool.not_eq_eq_eq_not, Bool.not_true, Bool.not_false] at hb; omega
     obtain ⟨x, hx⟩ : ∃ c, l[i]? = some c := ⟨_, List.getElem?_eq_getElem hlt⟩
     have hs1 : F .strA es iv 0 = x := by rw [hes]; exact t_str0 hF hx hiv
     have hh1 : F .hasD es iv [.str] = true := by rw [hes]; exact t_hasStrs hF hlt hiv
     have hsl : s.length ≤ 520 := by
       have := join_le (l.take i) fun p hp => hg2.2 p (List.mem_of_mem_take hp)
       rw [← hs] at this
       have h3 : (l.take i).length ≤ 8 := by simp; omega
       omega
     have hxl : x.length ≤ 64 := hg2.2 x (List.mem_of_getElem? hx)
     rw [hs1]
     have hc1 : F .hasCat [44] x = true := t_hasCat hF (by simp; omega)
     have ha1 : F .app [44] x = 44 :: x := by rw [hF]; rfl
     rw [ha1]
     have hc2 : F .hasCat s (44 :: x) = true := t_hasCat hF (by simp; omega)
     have ha2 : F .app s (44 :: x) = s ++ 44 :: x := by rw [hF]; rfl
     rw [ha2]
     repeat' (first|with_reducible (first|refine qAh ?_|refine qAt ?_|refine qAf ?_|refine qAy (by assumption) ?_|refine qAn (by assumption) ?_|refine qAd (fun hb => ?_) (fun hb => ?_)|refine qAe ?_ (fun hb => ?_)|refine qAl ?_)|((with_reducible show _=true); assumption))
     refine AKp.again _ hfr (by repeat (first | exact True.intro | refine ⟨⟨rfl, rfl⟩, ?_⟩)) (by repeat (first | exact True.intro | refine ⟨⟨rfl, rfl, rfl⟩, ?_⟩)) (hJ (n - 1) _ _ (by omega) ⟨i + 1, _, _, by omega, by omega, inc_i hF hiv (by omega), ?_, rfl, rfl⟩)
     rw [List.take_add_one, hx, hs]
     exact (join_snoc 44 (l.take i) x (by intro e; rw [List.take_eq_nil_iff] at e; rcases e with e | e <;> first | omega | exact hne e)).symm
   · have hge : ¬ i < l.length := by simp only [hF, f_ltI, f_leI, f_eqI, f_eqS, f_eqB, f_not, f_andB, f_orB, f_lenS, f_lenD, f_hasS, f_atS, f_hasC, f_subS, f_hasCat, f_app, f_wrap, f_add, f_sub, f_mul, f_appD, f_fits, f_hasV, f_subV, decide_eq_true_eq, decide_eq_false_iff_not, beq_iff_eq, beq_eq_false_iff_ne, Bool.and_eq_true, Bool.and_eq_false_iff, Bool.not_eq_true, Bool.not_eq_false, Bool.not_eq_eq_eq_not, Bool.not_true, Bool.not_false] at hb; omega
     rw [List.take_of_length_le (by omega)] at hs
     repeat' (first|with_reducible (first|refine qAh ?_|refine qAt ?_|refine qAf ?_|refine qAy (by assumption) ?_|refine qAn (by assumption) ?_|refine qAd (fun hb => ?_) (fun hb => ?_)|refine qAe ?_ (fun hb => ?_)|refine qAl ?_)|((with_reducible show _=true); assumption))
     refine AKp.doneE tabOK hfr (by rfl) ?_
     show _ = _
     simp only [tupAV]
     rw [hs]
theorem RefJoinD_spec (es : List Dat) (h : isStrs es = true) : ESpec Tryz.prog 68 [.d (.view 1 es)] (fun x => x = .d (.s (.str (joinF (unStr es))))) := by
 have := RefJoin_spec (unStr es)
 rwa [strDs_unStr h] at this
def φRefJoin (p : List Dat → Bool) (u : List Dat → List UInt8) : List AV → Option (Bool × AV)
 | [.d (.view 1 l)] => some (p l, .d (.s (.str (u l))))
 | _ => none
theorem φRefJoin_ok : SpOK Tryz.prog 68 (φRefJoin (isStrs) (fun l => joinF (unStr l))) := by
 intro xs b x h hb
 unfold φRefJoin at h
 split at h
 · simp only [Option.some.injEq, Prod.mk.injEq] at h
   obtain ⟨rfl, rfl⟩ := h
   exact RefJoinD_spec _ hb
 · cases h
end Go.Proofs.YtpmpajodihpkaaaGreatDoor
