/- The library of this claim and its walks, part 25, joined out of smaller texts. No statement stands in it. -/
import Derived.Test.YtpmpajodihpkaaaGreatDoorUaM24
set_option linter.unusedSimpArgs false
set_option linter.unusedVariables false
namespace Go.Proofs.YtpmpajodihpkaaaGreatDoor
open Go Go.Proofs Go.Ua Go.Extern
set_option maxRecDepth 10000
theorem RefName_spec (w : List UInt8) : ESpec Tryz.prog 70 [.d (.s (.str w))] (fun x => x = .d (.s (.bool (nameF w)))) := by
 obtain ⟨uSmall, huSmall⟩ : ∃ u : Int → Bool, u = smallN := ⟨_, rfl⟩
 obtain ⟨uDigit, huDigit⟩ : ∃ u : Int → Bool, u = digitN := ⟨_, rfl⟩
 have hG : TblOK Tryz.prog [(78, .p (φSmall uSmall)), (79, .p (φDigit uDigit))] := ⟨(by rw [huSmall]; exact φSmall_ok), (by rw [huDigit]; exact φDigit_ok), trivial⟩
 refine ESpec.enter Tryz.func70 (by kernel_rfl) rfl (Nat.le_of_ble_eq_true rfl) fun hok cx hnt hfr => ?_
 obtain ⟨F, hF⟩ := real_ex
 refine AK.runT hF tabOK hmix hnt hfr false _ hG ?_
 conv => arg 4; cbv
 have hwl : w.length ≤ maxLen := hok.1
 have hm : maxLen = 9223372036854775807 := by decide
 repeat' (first|with_reducible (first|refine qAh ?_|refine qAt ?_|refine qAf ?_|refine qAy (by assumption) ?_|refine qAn (by assumption) ?_|refine qAd (fun hb => ?_) (fun hb => ?_)|refine qAe ?_ (fun hb => ?_)|refine qAl ?_)|((with_reducible show _=true); assumption))
 refine AKp.enterLoop 4 ?_
 conv => arg 7; cbv
 refine AKl.invT hF tabOK hmix hnt hfr false _ hG (fun n vs hs => ∃ (i : Nat) (iv : Int), i + n = w.length ∧ iv = i ∧ (w.take i).all nameB = true ∧ (∀ c, w[0]? = some c → 0 < i → smallN c.toNat = true) ∧ vs = [(3, .d (.s (.int .i64 iv)))] ∧ hs = []) w.length ⟨0, _, by omega, rfl, by simp, by simp, rfl, rfl⟩ (by repeat (first | exact True.intro | refine ⟨⟨rfl, rfl⟩, ?_⟩)) (by repeat (first | exact True.intro | refine ⟨⟨rfl, rfl, rfl⟩, ?_⟩)) ?_
 rintro J n vs hs hJ ⟨i, iv, hi, hiv, hall, hfi, rfl, rfl⟩
 conv => arg 4; cbv
 refine AKt.node (fun hb => ?_) (fun hb => ?_)
 · have hlt : i < w.length := by simp only [hF, f_ltI, f_leI, f_eqI, f_eqS, f_eqB, f_not, f_andB, f_orB, f_lenS, f_lenD, f_hasS, f_atS, f_hasC, f_subS, f_hasCat, f_app, f_wrap, f_add, f_sub, f_mul, f_appD, f_fits, f_hasV, f_subV, decide_eq_true_eq, decide_eq_false_iff_not, beq_iff_eq, beq_eq_false_iff_ne, Bool.and_eq_true, Bool.and_eq_false_iff, Bool.not_eq_true, Bool.not_eq_false, Bool.not_eq_eq_eq_not, Bool.not_true, Bool.not_false] at hb; omega
   obtain ⟨c, hc⟩ : ∃ c, w[i]? = some c := ⟨_, List.getElem?_eq_getElem hlt⟩
   rw [t_atS hF hc hiv]
   have hs := t_hasS hF hlt hiv
   have hu : nameB c = (uSmall c.toNat || uDigit c.toNat || decide ((c.toNat : Int) = 45)) := by rw [huSmall, huDigit]; rfl
   have hno := all_false (p := nameB) hc
   have hyes := all_take_succ (p := nameB) hc hall
   rw [← huSmall] at hfi
   repeat' (first|with_reducible (first|refine qAh ?_|refine qAt ?_|refine qAf ?_|refine qAy (by assumption) ?_|refine qAn (by assumption) ?_|refine qAd (fun hb => ?_) (fun hb => ?_)|refine qAe ?_ (fun hb => ?_)|refine qAl ?_)|((with_reducible show _=true); assumption))
   all_goals first
     | refine AKp.again _ hfr (by repeat (first | exact True.intro | refine ⟨⟨rfl, rfl⟩, ?_⟩)) (by repeat (first | exact True.intro | refine ⟨⟨rfl, rfl, rfl⟩, ?_⟩)) (hJ (n - 1) _ _ (by omega) ⟨i + 1, _, by omega, inc_i hF hiv (by omega), ?_, ?_, rfl, rfl⟩)
       · apply hyes
         clear hJ hall hno hyes
         simp only [hF, f_ltI, f_leI, f_eqI, f_eqS, f_eqB, f_not, f_andB, f_orB, f_lenS, f_lenD, f_hasS, f_atS, f_hasC, f_subS, f_hasCat, f_app, f_wrap, f_add, f_sub, f_mul, f_appD, f_fits, f_hasV, f_subV, decide_eq_true_eq, decide_eq_false_iff_not, beq_iff_eq, beq_eq_false_iff_ne, Bool.and_eq_true, Bool.and_eq_false_iff, Bool.not_eq_true, Bool.not_eq_false, Bool.not_eq_eq_eq_not, Bool.not_true, Bool.not_false] at *
         grind
       · intro c' hc' _
         rw [← huSmall]
         clear hJ hall hno hyes
         simp only [hF, f_ltI, f_leI, f_eqI, f_eqS, f_eqB, f_not, f_andB, f_orB, f_lenS, f_lenD, f_hasS, f_atS, f_hasC, f_subS, f_hasCat, f_app, f_wrap, f_add, f_sub, f_mul, f_appD, f_fits, f_hasV, f_subV, decide_eq_true_eq, decide_eq_false_iff_not, beq_iff_eq, beq_eq_false_iff_ne, Bool.and_eq_true, Bool.and_eq_false_iff, Bool.not_eq_true, Bool.not_eq_false, Bool.not_eq_eq_eq_not, Bool.not_true, Bool.not_false] at *
         grind
     | refine AKp.doneE tabOK hfr (by rfl) ?_
       show _ = _
       simp only [tupAV]
       refine avb (Bool.eq_iff_iff.2 ?_)
       clear hJ hall hyes
       simp only [hF, f_ltI, f_leI, f_eqI, f_eqS, f_eqB, f_not, f_andB, f_orB, f_lenS, f_lenD, f_hasS, f_atS, f_hasC, f_subS, f_hasCat, f_app, f_wrap, f_add, f_sub, f_mul, f_appD, f_fits, f_hasV, f_subV, decide_eq_true_eq, decide_eq_false_iff_not, beq_iff_eq, beq_eq_false_iff_ne, Bool.and_eq_true, Bool.and_eq_false_iff, Bool.not_eq_true, Bool.not_eq_false, Bool.not_eq_eq_eq_not, Bool.not_true, Bool.not_false] at *
       unfold nameF
       subst huSmall huDigit
       grind
 · have hlt : ¬ i < w.length := by simp only [hF, f_ltI, f_leI, f_eqI, f_eqS, f_eqB, f_not, f_andB, f_orB, f_lenS, f_lenD, f_hasS, f_atS, f_hasC, f_subS, f_hasCat, f_app, f_wrap, f_add, f_sub, f_mul, f_appD, f_fits, f_hasV, f_subV, decide_eq_true_eq, decide_eq_false_iff_not, beq_iff_eq, beq_eq_false_iff_ne, Bool.and_eq_true, Bool.and_eq_false_iff, Bool.not_eq_true, Bool.not_eq_false, Bool.not_eq_eq_eq_not, Bool.not_true, Bool.not_false] at hb; omega
   have h1 : w.take i = w := List.take_of_length_le (by omega)
   rw [h1] at hall
   clear hb h1 hwl
   repeat' (first|with_reducible (first|refine qAh ?_|refine qAt ?_|refine qAf ?_|refine qAy (by assumption) ?_|refine qAn (by assumption) ?_|refine qAd (fun hb => ?_) (fun hb => ?_)|refine qAe ?_ (fun hb => ?_)|refine qAl ?_)|((with_reducible show _=true); assumption))
   all_goals
     refine AKp.doneE tabOK hfr (by rfl) ?_
     show _ = _
     simp only [tupAV]
     refine avb (Bool.eq_iff_iff.2 ?_)
     clear hJ
     simp only [hF, f_ltI, f_leI, f_eqI, f_eqS, f_eqB, f_not, f_andB, f_orB, f_lenS, f_lenD, f_hasS, f_atS, f_hasC, f_subS, f_hasCat, f_app, f_wrap, f_add, f_sub, f_mul, f_appD, f_fits, f_hasV, f_subV, decide_eq_true_eq, decide_eq_false_iff_not, beq_iff_eq, beq_eq_false_iff_ne, Bool.and_eq_true, Bool.and_eq_false_iff, Bool.not_eq_true, Bool.not_eq_false, Bool.not_eq_eq_eq_not, Bool.not_true, Bool.not_false] at *
     cases w with
     | nil => simp [nameF] at *
     | cons a r =>
       have h2 := hfi a rfl (by simp at hlt; omega)
       subst huSmall huDigit
       simp only [nameF, h2, hall]
       clear hfi hi hiv h2 hall hlt hok
       grind
theorem wordB_eq (c : UInt8) : wordB c = (smallN c.toNat || digitN c.toNat || greatN c.toNat || decide ((c.toNat : Int) = 46) || decide ((c.toNat : Int) = 95) || decide ((c.toNat : Int) = 58) || decide ((c.toNat : Int) = 47) || decide ((c.toNat : Int) = 64) || decide ((c.toNat : Int) = 45)) := by
 have e : ∀ n : Nat, n < 256 → (marks.contains (UInt8.ofNat n)) = (decide ((n : Int) = 46) || decide ((n : Int) = 95) || decide ((n : Int) = 58) || decide ((n : Int) = 47) || decide ((n : Int) = 64) || decide ((n : Int) = 45)) := by decide +kernel
 have := e c.toNat (UInt8.toNat_lt c)
 rw [UInt8.ofNat_toNat] at this
 unfold wordB plainN
 rw [this]
 simp only [Bool.or_assoc]
set_option maxRecDepth 10000 in
theorem RefWord_spec (w : List UInt8) : ESpec Tryz.prog 84 [.d (.s (.str w))] (fun x => x = .d (.s (.bool (wordF w)))) := by
 obtain ⟨uSmall, huSmall⟩ : ∃ u : Int → Bool, u = smallN := ⟨_, rfl⟩
 obtain ⟨uGreat, huGreat⟩ : ∃ u : Int → Bool, u = greatN := ⟨_, rfl⟩
 obtain ⟨uDigit, huDigit⟩ : ∃ u : Int → Bool, u = digitN := ⟨_, rfl⟩
 have hG : TblOK Tryz.prog [(78, .p (φSmall uSmall)), (88, .p (φGreat uGreat)), (79, .p (φDigit uDigit))] := ⟨(by rw [huSmall]; exact φSmall_ok), (by rw [huGreat]; exact φGreat_ok), (by rw [huDigit]; exact φDigit_ok), trivial⟩
 refine ESpec.enter Tryz.func84 (by kernel_rfl) rfl (Nat.le_of_ble_eq_true rfl) fun hok cx hnt hfr => ?_
 obtain ⟨F, hF⟩ := real_ex
 refine AK.runT hF tabOK hmix hnt hfr false _ hG ?_
 conv => arg 4; cbv
 have hwl : w.length ≤ maxLen := hok.1
 have hm : maxLen = 9223372036854775807 := by decide
 repeat' (first|with_reducible (first|refine qAh ?_|refine qAt ?_|refine qAf ?_|refine qAy (by assumption) ?_|refine qAn (by assumption) ?_|refine qAd (fun hb => ?_) (fun hb => ?_)|refine qAe ?_ (fun hb => ?_)|refine qAl ?_)|((with_reducible show _=true); assumption))
 refine AKp.enterLoop 4 ?_
 conv => arg 7; cbv
 refine AKl.invT hF tabOK hmix hnt hfr false _ hG (fun n vs hs => ∃ (i : Nat) (iv : Int), i + n = w.length ∧ iv = i ∧ (w.take i).all wordB = true ∧ vs = [(3, .d (.s (.int .i64 iv)))] ∧ hs = []) w.length ⟨0, _, by omega, rfl, by simp, rfl, rfl⟩ (by repeat (first | exact True.intro | refine ⟨⟨rfl, rfl⟩, ?_⟩)) (by repeat (first | exact True.intro | refine ⟨⟨rfl, rfl, rfl⟩, ?_⟩)) ?_
 rintro J n vs hs hJ ⟨i, iv, hi, hiv, hall, rfl, rfl⟩
 conv => arg 4; cbv
 refine AKt.node (fun hb => ?_) (fun hb => ?_)
 · have hlt : i < w.length := by simp only [hF, f_ltI, f_leI, f_eqI, f_eqS, f_eqB, f_not, f_andB, f_orB, f_lenS, f_lenD, f_hasS, f_atS, f_hasC, f_subS, f_hasCat, f_app, f_wrap, f_add, f_sub, f_mul, f_appD, f_fits, f_hasV, f_subV, decide_eq_true_eq, decide_eq_false_iff_not, beq_iff_eq, beq_eq_false_iff_ne, Bool.and_eq_true, Bool.and_eq_false_iff, Bool.not_eq_true, Bool.not_eq_false, Bool.not_eq_eq_eq_not, Bool.not_true, Bool.not_false] at hb; omega
   obtain ⟨c, hc⟩ : ∃ c, w[i]? = some c := ⟨_, List.getElem?_eq_getElem hlt⟩
   rw [t_atS hF hc hiv]
   have hs := t_hasS hF hlt hiv
   have hu : wordB c = (uSmall c.toNat || uDigit c.toNat || uGreat c.toNat || decide ((c.toNat : Int) = 46) || decide ((c.toNat : Int) = 95) || decide ((c.toNat : Int) = 58) || decide ((c.toNat : Int) = 47) || decide ((c.toNat : Int) = 64) || decide ((c.toNat : Int) = 45)) := by
     rw [huSmall, huDigit, huGreat]
     exact wordB_eq c
   have hno := all_false (p := wordB) hc
   have hyes := all_take_succ (p := wordB) hc hall
   repeat' (first|with_reducible (first|refine qAh ?_|refine qAt ?_|refine qAf ?_|refine qAy (by assumption) ?_|refine qAn (by assumption) ?_|refine qAd (fun hb => ?_) (fun hb => ?_)|refine qAe ?_ (fun hb => ?_)|refine qAl ?_)|((with_reducible show _=true); assumption))
   all_goals first
     | refine AKp.again _ hfr (by repeat (first | exact True.intro | refine ⟨⟨rfl, rfl⟩, ?_⟩)) (by repeat (first | exact True.intro | refine ⟨⟨rfl, rfl, rfl⟩, ?_⟩)) (hJ (n - 1) _ _ (by omega) ⟨i + 1, _, by omega, inc_i hF hiv (by omega), ?_, rfl, rfl⟩)
       apply hyes
       clear hJ hall hno hyes
       simp only [hF, f_ltI, f_leI, f_eqI, f_eqS, f_eqB, f_not, f_andB, f_orB, f_lenS, f_lenD, f_hasS, f_atS, f_hasC, f_subS, f_hasCat, f_app, f_wrap, f_add, f_sub, f_mul, f_appD, f_fits, f_hasV, f_subV, decide_eq_true_eq, decide_eq_false_iff_not, beq_iff_eq, beq_eq_false_iff_ne, Bool.and_eq_true, Bool.and_eq_false_iff, Bool.not_eq_true, Bool.not_eq_false, Bool.not_eq_eq_eq_not, Bool.not_true, Bool.not_false] at *
       grind
     | refine AKp.doneE tabOK hfr (by rfl) ?_
       show _ = _
       simp only [tupAV]
       refine avb (Bool.eq_iff_iff.2 ?_)
       clear hJ hall hyes
       simp only [hF, f_ltI, f_leI, f_eqI, f_eqS, f_eqB, f_not, f_andB, f_orB, f_lenS, f_lenD, f_hasS, f_atS, f_hasC, f_subS, f_hasCat, f_app, f_wrap, f_add, f_sub, f_mul, f_appD, f_fits, f_hasV, f_subV, decide_eq_true_eq, decide_eq_false_iff_not, beq_iff_eq, beq_eq_false_iff_ne, Bool.and_eq_true, Bool.and_eq_false_iff, Bool.not_eq_true, Bool.not_eq_false, Bool.not_eq_eq_eq_not, Bool.not_true, Bool.not_false] at *
       unfold wordF
       grind
 · have hlt : ¬ i < w.length := by simp only [hF, f_ltI, f_leI, f_eqI, f_eqS, f_eqB, f_not, f_andB, f_orB, f_lenS, f_lenD, f_hasS, f_atS, f_hasC, f_subS, f_hasCat, f_app, f_wrap, f_add, f_sub, f_mul, f_appD, f_fits, f_hasV, f_subV, decide_eq_true_eq, decide_eq_false_iff_not, beq_iff_eq, beq_eq_false_iff_ne, Bool.and_eq_true, Bool.and_eq_false_iff, Bool.not_eq_true, Bool.not_eq_false, Bool.not_eq_eq_eq_not, Bool.not_true, Bool.not_false] at hb; omega
   have h1 : w.take i = w := List.take_of_length_le (by omega)
   rw [h1] at hall
   clear hb h1 hwl
   repeat' (first|with_reducible (first|refine qAh ?_|refine qAt ?_|refine qAf ?_|refine qAy (by assumption) ?_|refine qAn (by assumption) ?_|refine qAd (fun hb => ?_) (fun hb => ?_)|refine qAe ?_ (fun hb => ?_)|refine qAl ?_)|((with_reducible show _=true); assumption))
   all_goals
     refine AKp.doneE tabOK hfr (by rfl) ?_
     show _ = _
     simp only [tupAV]
     refine avb (Bool.eq_iff_iff.2 ?_)
     clear hJ
     simp only [hF, f_ltI, f_leI, f_eqI, f_eqS, f_eqB, f_not, f_andB, f_orB, f_lenS, f_lenD, f_hasS, f_atS, f_hasC, f_subS, f_hasCat, f_app, f_wrap, f_add, f_sub, f_mul, f_appD, f_fits, f_hasV, f_subV, decide_eq_true_eq, decide_eq_false_iff_not, beq_iff_eq, beq_eq_false_iff_ne, Bool.and_eq_true, Bool.and_eq_false_iff, Bool.not_eq_true, Bool.not_eq_false, Bool.not_eq_eq_eq_not, Bool.not_true, Bool.not_false] at *
     unfold wordF
     clear hi hiv hok hlt
     cases w <;> grind
def φRefName (u : List UInt8 → Bool) : List AV → Option (Bool × AV)
 | [.d (.s (.str w))] => some (true, .d (.s (.bool (u w))))
 | _ => none
theorem φRefName_ok : SpOK Tryz.prog 70 (φRefName (nameF)) := by
 intro xs b x h hb
 unfold φRefName at h
 split at h
 · simp only [Option.some.injEq, Prod.mk.injEq] at h
   obtain ⟨rfl, rfl⟩ := h
   exact RefName_spec _
 · cases h
def φRefWord (u : List UInt8 → Bool) : List AV → Option (Bool × AV)
 | [.d (.s (.str w))] => some (true, .d (.s (.bool (u w))))
 | _ => none
theorem φRefWord_ok : SpOK Tryz.prog 84 (φRefWord (wordF)) := by
 intro xs b x h hb
 unfold φRefWord at h
 split at h
 · simp only [Option.some.injEq, Prod.mk.injEq] at h
   obtain ⟨rfl, rfl⟩ := h
   exact RefWord_spec _
 · cases h
end Go.Proofs.YtpmpajodihpkaaaGreatDoor
namespace Go.Proofs.YtpmpajodihpkaaaGreatDoor
open Go Go.Proofs Go.Ua Go.Extern
set_option maxRecDepth 10000
set_option maxRecDepth 10000 in
theorem RefGood_spec (l : List (List UInt8)) : ESpec Tryz.prog 77 [.d (.view 1 (strDs l))] (fun x => x = .d (.s (.bool (goodF l)))) := by
 obtain ⟨uRefWord, huRefWord⟩ : ∃ u : List UInt8 → Bool, u = wordF := ⟨_, rfl⟩
 have hG : TblOK Tryz.prog [(84, .p (φRefWord uRefWord))] := ⟨(by rw [huRefWord]; exact φRefWord_ok), trivial⟩
 obtain ⟨es, hes⟩ : ∃ z, z = strDs l := ⟨_, rfl⟩
 rw [← hes]
 have hel : es.length = l.length := by rw [hes]; simp [strDs]
 refine ESpec.enter Tryz.func77 (by kernel_rfl) rfl (Nat.le_of_ble_eq_true rfl) fun hok cx hnt hfr => ?_
 obtain ⟨F, hF⟩ := real_ex
 refine AK.runT hF tabOK hmix hnt hfr false _ hG ?_
 conv => arg 4; cbv
 have hml : es.length ≤ maxLen := hok.1.1
 have hm : maxLen = 9223372036854775807 := by decide
 have h0 : F .strA es 0 0 = l.headD [] := by
   cases l with
   | nil => subst hF; rw [hes]; rfl
   | cons a r => rw [hes]; exact t_str0 hF (i := 0) rfl rfl
 have n0 : F .eqI (F .lenD es) 1 = true → F .hasD es 0 [.str] = true := fun h => by
   simp only [hF, f_ltI, f_leI, f_eqI, f_eqS, f_eqB, f_not, f_andB, f_orB, f_lenS, f_lenD, f_hasS, f_atS, f_hasC, f_subS, f_hasCat, f_app, f_wrap, f_add, f_sub, f_mul, f_appD, f_fits, f_hasV, f_subV, decide_eq_true_eq, decide_eq_false_iff_not, beq_iff_eq, beq_eq_false_iff_ne, Bool.and_eq_true, Bool.and_eq_false_iff, Bool.not_eq_true, Bool.not_eq_false, Bool.not_eq_eq_eq_not, Bool.not_true, Bool.not_false] at h
   rw [hes]; exact t_hasStrs hF (i := 0) (by omega) rfl
 rw [h0]
 repeat' (first|with_reducible (first|refine qAh ?_|refine qAt ?_|refine qAf ?_|refine qAy (by assumption) ?_|refine qAn (by assumption) ?_|refine qAd (fun hb => ?_) (fun hb => ?_)|refine qAe ?_ (fun hb => ?_)|refine qAl ?_)|((with_reducible show _=true); assumption))
 · exact n0 ‹_›
 · refine AKp.doneE tabOK hfr (by rfl) ?_
   show _ = _
   simp only [tupAV]
   refine avb (Bool.eq_iff_iff.2 ?_)
   simp only [hF, f_ltI, f_leI, f_eqI, f_eqS, f_eqB, f_not, f_andB, f_orB, f_lenS, f_lenD, f_hasS, f_atS, f_hasC, f_subS, f_hasCat, f_app, f_wrap, f_add, f_sub, f_mul, f_appD, f_fits, f_hasV, f_subV, decide_eq_true_eq, decide_eq_false_iff_not, beq_iff_eq, beq_eq_false_iff_ne, Bool.and_eq_true, Bool.and_eq_false_iff, Bool.not_eq_true, Bool.not_eq_false, Bool.not_eq_eq_eq_not, Bool.not_true, Bool.not_false] at *
   match l, hel with
   | [a], _ => simp_all [goodF]
   | [], h => simp [h] at *
   | a :: b :: r, h => simp at *; omega
 all_goals
   have hst : l ≠ [[42]] := by
     rintro rfl
     clear n0
     simp only [hF, f_ltI, f_leI, f_eqI, f_eqS, f_eqB, f_not, f_andB, f_orB, f_lenS, f_lenD, f_hasS, f_atS, f_hasC, f_subS, f_hasCat, f_app, f_wrap, f_add, f_sub, f_mul, f_appD, f_fits, f_hasV, f_subV, decide_eq_true_eq, decide_eq_false_iff_not, beq_iff_eq, beq_eq_false_iff_ne, Bool.and_eq_true, Bool.and_eq_false_iff, Bool.not_eq_true, Bool.not_eq_false, Bool.not_eq_eq_eq_not, Bool.not_true, Bool.not_false] at *
     simp_all
   have hz : goodF l = (l.all wordF && decide l.Nodup && decide (l.length ≤ 8)) := by
     unfold goodF
     rw [show (l == [[42]]) = false by simpa using hst]; simp
   clear n0 h0
   try clear hst
 · refine AKp.doneE tabOK hfr (by rfl) ?_
   show _ = _
   simp only [tupAV]
   refine avb (Bool.eq_iff_iff.2 ?_)
   simp only [hF, f_ltI, f_leI, f_eqI, f_eqS, f_eqB, f_not, f_andB, f_orB, f_lenS, f_lenD, f_hasS, f_atS, f_hasC, f_subS, f_hasCat, f_app, f_wrap, f_add, f_sub, f_mul, f_appD, f_fits, f_hasV, f_subV, decide_eq_true_eq, decide_eq_false_iff_not, beq_iff_eq, beq_eq_false_iff_ne, Bool.and_eq_true, Bool.and_eq_false_iff, Bool.not_eq_true, Bool.not_eq_false, Bool.not_eq_eq_eq_not, Bool.not_true, Bool.not_false] at *
   rw [hz]
   simp; omega
 rotate_left
 · refine AKp.doneE tabOK hfr (by rfl) ?_
   show _ = _
   simp only [tupAV]
   refine avb (Bool.eq_iff_iff.2 ?_)
   simp only [hF, f_ltI, f_leI, f_eqI, f_eqS, f_eqB, f_not, f_andB, f_orB, f_lenS, f_lenD, f_hasS, f_atS, f_hasC, f_subS, f_hasCat, f_app, f_wrap, f_add, f_sub, f_mul, f_appD, f_fits, f_hasV, f_subV, decide_eq_true_eq, decide_eq_false_iff_not, beq_iff_eq, beq_eq_false_iff_ne, Bool.and_eq_true, Bool.and_eq_false_iff, Bool.not_eq_true, Bool.not_eq_false, Bool.not_eq_eq_eq_not, Bool.not_true, Bool.not_false] at *
   rw [hz]
   simp; omega
 all_goals
   have h8 : l.length ≤ 8 := by
     have := ‹F .ltI 8 (F .lenD es) = false›
     simp only [hF, f_ltI, f_leI, f_eqI, f_eqS, f_eqB, f_not, f_andB, f_orB, f_lenS, f_lenD, f_hasS, f_atS, f_hasC, f_subS, f_hasCat, f_app, f_wrap, f_add, f_sub, f_mul, f_appD, f_fits, f_hasV, f_subV, decide_eq_true_eq, decide_eq_false_iff_not, beq_iff_eq, beq_eq_false_iff_ne, Bool.and_eq_true, Bool.and_eq_false_iff, Bool.not_eq_true, Bool.not_eq_false, Bool.not_eq_eq_eq_not, Bool.not_true, Bool.not_false] at this
     omega
   refine AKp.enterLoop 4 ?_
   conv => arg 7; cbv
   refine AKl.invT hF tabOK hmix hnt hfr false _ hG (fun n vs hs => ∃ (i : Nat) (iv : Int), i + n = l.length ∧ iv = i ∧ (l.take i).all wordF = true ∧ (l.take i).Nodup ∧ vs = [(3, .d (.s (.int .i64 iv)))] ∧ hs = []) l.length ⟨0, _, by omega, rfl, by simp, by simp, rfl, rfl⟩ (by repeat (first | exact True.intro | refine ⟨⟨rfl, rfl⟩, ?_⟩)) (by repeat (first | exact True.intro | refine ⟨⟨rfl, rfl, rfl⟩, ?_⟩)) ?_
   rintro J n vs hs hJ ⟨i, iv, hi, hiv, hall, hnd, rfl, rfl⟩
   conv => arg 4; cbv
   refine AKt.node (fun hb => ?_) (fun hb => ?_)
   · have hlt : i < l.length := by simp only [hF, f_ltI, f_leI, f_eqI, f_eqS, f_eqB, f_not, f_andB, f_orB, f_lenS, f_lenD, f_hasS, f_atS, f_hasC, f_subS, f_hasCat, f_app, f_wrap, f_add, f_sub, f_mul, f_appD, f_fits, f_hasV, f_subV, decide_eq_true_eq, decide_eq_false_iff_not, beq_iff_eq, beq_eq_false_iff_ne, Bool.and_eq_true, Bool.and_eq_false_iff, Bool.not_eq_true, Bool.not_eq_false, Bool.not_eq_eq_eq_not, Bool.not_true, Bool.not_false] at hb; omega
     obtain ⟨a, ha⟩ : ∃ c, l[i]? = some c := ⟨_, List.getElem?_eq_getElem hlt⟩
     have hs1 : F .strA es iv 0 = a := by rw [hes]; exact t_str0 hF ha hiv
     have hh1 : F .hasD es iv [.str] = true := by rw [hes]; exact t_hasStrs hF hlt hiv
     rw [hs1]
     refine AKt.need hh1 fun _ => AKt.have ?_
     have hno : wordF a = false → l.all wordF = false := all_false ha
     have hyes := all_take_succ (p := wordF) ha hall
     repeat' (first|with_reducible (first|refine qAh ?_|refine qAt ?_|refine qAf ?_|refine qAy (by assumption) ?_|refine qAn (by assumption) ?_|refine qAd (fun hb => ?_) (fun hb => ?_)|refine qAe ?_ (fun hb => ?_)|refine qAl ?_)|((with_reducible show _=true); assumption))
     · refine AKp.doneE tabOK hfr (by rfl) ?_
       show _ = _
       simp only [tupAV]
       refine avb (Bool.eq_iff_iff.2 ?_)
       have hw : wordF a = false := by
         have := ‹F .not (uRefWord a) = true›
         subst huRefWord
         simp only [hF, f_ltI, f_leI, f_eqI, f_eqS, f_eqB, f_not, f_andB, f_orB, f_lenS, f_lenD, f_hasS, f_atS, f_hasC, f_subS, f_hasCat, f_app, f_wrap, f_add, f_sub, f_mul, f_appD, f_fits, f_hasV, f_subV, decide_eq_true_eq, decide_eq_false_iff_not, beq_iff_eq, beq_eq_false_iff_ne, Bool.and_eq_true, Bool.and_eq_false_iff, Bool.not_eq_true, Bool.not_eq_false, Bool.not_eq_eq_eq_not, Bool.not_true, Bool.not_false] at this
         exact this
       rw [hz, hno hw]
       simp
     · have hw : wordF a = true := by
         have := ‹F .not (uRefWord a) = false›
         subst huRefWord
         simp only [hF, f_ltI, f_leI, f_eqI, f_eqS, f_eqB, f_not, f_andB, f_orB, f_lenS, f_lenD, f_hasS, f_atS, f_hasC, f_subS, f_hasCat, f_app, f_wrap, f_add, f_sub, f_mul, f_appD, f_fits, f_hasV, f_subV, decide_eq_true_eq, decide_eq_false_iff_not, beq_iff_eq, beq_eq_false_iff_ne, Bool.and_eq_true, Bool.and_eq_false_iff, Bool.not_eq_true, Bool.not_eq_false, Bool.not_eq_eq_eq_not, Bool.not_true, Bool.not_false] at this
         exact this
       refine AKp.enterLoop 5 ?_
       conv => arg 7; cbv
       refine AKl.invT hF tabOK hmix hnt hfr false _ hG (fun n vs hs => ∃ (k : Nat) (kv : Int), k + n = i ∧ kv = k ∧ a ∉ l.take k ∧ vs = [(4, .d (.s (.int .i64 kv)))] ∧ hs = []) i ⟨0, _, by omega, rfl, by simp, rfl, rfl⟩ (by repeat (first | exact True.intro | refine ⟨⟨rfl, rfl⟩, ?_⟩)) (by repeat (first | exact True.intro | refine ⟨⟨rfl, rfl, rfl⟩, ?_⟩)) ?_
       rintro J2 n2 vs hs hJ2 ⟨k, kv, hk, hkv, hka, rfl, rfl⟩
       conv => arg 4; cbv
       refine AKt.node (fun hb => ?_) (fun hb => ?_)
       · have hlt2 : k < i := by simp only [hF, f_ltI, f_leI, f_eqI, f_eqS, f_eqB, f_not, f_andB, f_orB, f_lenS, f_lenD, f_hasS, f_atS, f_hasC, f_subS, f_hasCat, f_app, f_wrap, f_add, f_sub, f_mul, f_appD, f_fits, f_hasV, f_subV, decide_eq_true_eq, decide_eq_false_iff_not, beq_iff_eq, beq_eq_false_iff_ne, Bool.and_eq_true, Bool.and_eq_false_iff, Bool.not_eq_true, Bool.not_eq_false, Bool.not_eq_eq_eq_not, Bool.not_true, Bool.not_false] at hb; omega
         obtain ⟨b, hb2⟩ : ∃ c, l[k]? = some c := ⟨_, List.getElem?_eq_getElem (by omega)⟩
         have hs2 : F .strA es kv 0 = b := by rw [hes]; exact t_str0 hF hb2 hkv
         have hh2 : F .hasD es kv [.str] = true := by rw [hes]; exact t_hasStrs hF (by omega) hkv
         rw [hs1, hs2]
         repeat' (first|with_reducible (first|refine qAh ?_|refine qAt ?_|refine qAf ?_|refine qAy (by assumption) ?_|refine qAn (by assumption) ?_|refine qAd (fun hb => ?_) (fun hb => ?_)|refine qAe ?_ (fun hb => ?_)|refine qAl ?_)|((with_reducible show _=true); assumption))
         · refine AKp.doneE tabOK hfr (by rfl) ?_
           show _ = _
           simp only [tupAV]
           refine avb (Bool.eq_iff_iff.2 ?_)
           have heq := eqS1 hF ‹F .eqS b a = true›
           have : ¬ l.Nodup := by
             intro hn
             have := (nodup_take_succ ha).1 (hn.sublist (List.take_sublist _ _))
             exact this.2 (heq ▸ List.mem_of_getElem? (i := k) (by rw [List.getElem?_take_of_lt hlt2]; exact hb2))
           rw [hz]
           simp [this]
         · have hne := eqS0 hF ‹F .eqS b a = false›
           refine AKp.again _ hfr (by repeat (first | exact True.intro | refine ⟨⟨rfl, rfl⟩, ?_⟩)) (by repeat (first | exact True.intro | refine ⟨⟨rfl, rfl, rfl⟩, ?_⟩)) (hJ2 (n2 - 1) _ _ (by omega) ⟨k + 1, _, by omega, inc_i hF hkv (by omega), ?_, rfl, rfl⟩)
           rw [List.take_add_one, hb2]
           simp only [Option.toList_some, List.mem_append, List.mem_singleton, not_or]
           exact ⟨hka, fun e => hne e.symm⟩
       · have hge : ¬ k < i := by simp only [hF, f_ltI, f_leI, f_eqI, f_eqS, f_eqB, f_not, f_andB, f_orB, f_lenS, f_lenD, f_hasS, f_atS, f_hasC, f_subS, f_hasCat, f_app, f_wrap, f_add, f_sub, f_mul, f_appD, f_fits, f_hasV, f_subV, decide_eq_true_eq, decide_eq_false_iff_not, beq_iff_eq, beq_eq_false_iff_ne, Bool.and_eq_true, Bool.and_eq_false_iff, Bool.not_eq_true, Bool.not_eq_false, Bool.not_eq_eq_eq_not, Bool.not_true, Bool.not_false] at hb; omega
         have hki : k = i := by omega
         rw [hki] at hka
         repeat' (first|with_reducible (first|refine qAh ?_|refine qAt ?_|refine qAf ?_|refine qAy (by assumption) ?_|refine qAn (by assumption) ?_|refine qAd (fun hb => ?_) (fun hb => ?_)|refine qAe ?_ (fun hb => ?_)|refine qAl ?_)|((with_reducible show _=true); assumption))
         refine AKp.again _ hfr (by repeat (first | exact True.intro | refine ⟨⟨rfl, rfl⟩, ?_⟩)) (by repeat (first | exact True.intro | refine ⟨⟨rfl, rfl, rfl⟩, ?_⟩)) (hJ (n - 1) _ _ (by omega) ⟨i + 1, _, by omega, inc_i hF hiv (by omega), hyes hw, (nodup_take_succ ha).2 ⟨hnd, hka⟩, rfl, rfl⟩)
   · have hge : ¬ i < l.length := by simp only [hF, f_ltI, f_leI, f_eqI, f_eqS, f_eqB, f_not, f_andB, f_orB, f_lenS, f_lenD, f_hasS, f_atS, f_hasC, f_subS, f_hasCat, f_app, f_wrap, f_add, f_sub, f_mul, f_appD, f_fits, f_hasV, f_subV, decide_eq_true_eq, decide_eq_false_iff_not, beq_iff_eq, beq_eq_false_iff_ne, Bool.and_eq_true, Bool.and_eq_false_iff, Bool.not_eq_true, Bool.not_eq_false, Bool.not_eq_eq_eq_not, Bool.not_true, Bool.not_false] at hb; omega
     rw [List.take_of_length_le (by omega)] at hall hnd
     repeat' (first|with_reducible (first|refine qAh ?_|refine qAt ?_|refine qAf ?_|refine qAy (by assumption) ?_|refine qAn (by assumption) ?_|refine qAd (fun hb => ?_) (fun hb => ?_)|refine qAe ?_ (fun hb => ?_)|refine qAl ?_)|((with_reducible show _=true); assumption))
     refine AKp.doneE tabOK hfr (by rfl) ?_
     show _ = _
     simp only [tupAV]
     refine avb (Bool.eq_iff_iff.2 ?_)
     rw [hz]
     simp [hall, hnd, h8]
end Go.Proofs.YtpmpajodihpkaaaGreatDoor
