/- The library of this claim and its walks, part 27, joined out of smaller texts. No statement stands in it. -/
import Derived.Test.YtpmpajodihpkaaaGreatDoorUaM23
import Derived.Test.YtpmpajodihpkaaaGreatDoorUaM26
import Derived.Laws.Bits64
import Derived.Laws.Bits64b
set_option linter.unusedSimpArgs false
set_option linter.unusedVariables false
namespace Go.Proofs.YtpmpajodihpkaaaGreatDoor
open Go Go.Proofs Go.Ua Go.Extern
section
variable {F : Fam} (hF : F = Fam.real)
include hF
end
end Go.Proofs.YtpmpajodihpkaaaGreatDoor
namespace Go.Proofs.YtpmpajodihpkaaaGreatDoor
open Go Go.Proofs Go.Ua Go.Extern
end Go.Proofs.YtpmpajodihpkaaaGreatDoor
namespace Go.Proofs.YtpmpajodihpkaaaGreatDoor
open Go Go.Proofs Go.Ua Go.Extern
end Go.Proofs.YtpmpajodihpkaaaGreatDoor
namespace Go.Proofs.YtpmpajodihpkaaaGreatDoor
open Go Go.Proofs Go.Ua Go.Extern
def before (a b : List UInt8) : Prop := a.length < b.length ∨ (a.length = b.length ∧ a < b)
theorem dig_small {n : Nat} (h : n < 10) : Lib.decDigits n = [UInt8.ofNat (48 + n)] := by rw [Lib.decDigits, dif_pos h]
theorem dig_big {n : Nat} (h : ¬ n < 10) : Lib.decDigits n = Lib.decDigits (n / 10) ++ [UInt8.ofNat (48 + n % 10)] := by rw [Lib.decDigits, dif_neg h]
theorem dig_pos (n : Nat) : 1 ≤ (Lib.decDigits n).length := by
 by_cases h : n < 10
 · rw [dig_small h]; simp
 · rw [dig_big h]; simp
end Go.Proofs.YtpmpajodihpkaaaGreatDoor
namespace Go.Proofs.YtpmpajodihpkaaaGreatDoor
open Go Go.Proofs Go.Ua Go.Extern
theorem valN_snoc (p : List UInt8) (c : UInt8) : valN (p ++ [c]) = 10 * valN p + (c.toNat - 48) := by simp [valN, List.foldl_append]
theorem dig_byte {d : Nat} (h : d < 10) : (UInt8.ofNat (48 + d)).toNat = 48 + d := by rw [UInt8.toNat_ofNat']; omega
theorem dig_head : ∀ n : Nat, 1 ≤ n → ∃ c r, Lib.decDigits n = c :: r ∧ c ≠ 48
 | n, h => by
   by_cases hs : n < 10
   · refine ⟨_, _, dig_small hs, fun e => ?_⟩
     have := congrArg UInt8.toNat e
     rw [dig_byte hs] at this
     simp at this; omega
   · obtain ⟨c, r, h1, h2⟩ := dig_head (n / 10) (by omega)
     rw [dig_big hs, h1]
     exact ⟨c, r ++ [UInt8.ofNat (48 + n % 10)], rfl, h2⟩
theorem dig_val : ∀ n : Nat, valN (Lib.decDigits n) = n
 | n => by
   by_cases hs : n < 10
   · rw [dig_small hs]
     simp only [valN, List.foldl_cons, List.foldl_nil]
     rw [dig_byte hs]; omega
   · have ih := dig_val (n / 10)
     rw [dig_big hs, valN_snoc, ih, dig_byte (Nat.mod_lt _ (by decide))]
     omega
theorem dig_all : ∀ n : Nat, (Lib.decDigits n).all digB = true
 | n => by
   by_cases hs : n < 10
   · rw [dig_small hs]
     simp only [List.all_cons, List.all_nil, Bool.and_true]
     unfold digB digitN
     rw [dig_byte hs, decide_eq_true (by omega), decide_eq_true (by omega)]; rfl
   · have ih := dig_all (n / 10)
     rw [dig_big hs, List.all_append, ih]
     simp only [List.all_cons, List.all_nil, Bool.and_true, Bool.true_and]
     unfold digB digitN
     rw [dig_byte (Nat.mod_lt _ (by decide)), decide_eq_true (by omega), decide_eq_true (by omega)]; rfl
theorem dig_len : ∀ (k n : Nat), n < 10 ^ (k + 1) → (Lib.decDigits n).length ≤ k + 1
 | 0, n, h => by rw [dig_small h]; simp
 | k + 1, n, h => by
   have h : n < 10 ^ (k + 1) * 10 := h
   by_cases hs : n < 10
   · rw [dig_small hs]; simp
   · have := dig_len k (n / 10) (by omega)
     rw [dig_big hs]
     simp; omega
theorem val_dig {w : List UInt8} (h0 : w ≠ []) (hall : w.all digB = true) (hlead : 1 < w.length → w[0]? ≠ some 48) : Lib.decDigits (valN w) = w := by
 induction hn : w.length using Nat.strongRecOn generalizing w with
 | _ k ih =>
   obtain ⟨p, c, rfl⟩ : ∃ p c, w = p ++ [c] := ⟨w.dropLast, w.getLast h0, (List.dropLast_concat_getLast h0).symm⟩
   simp only [List.all_append, List.all_cons, List.all_nil, Bool.and_true, Bool.and_eq_true] at hall
   have hd := digB_le hall.2
   rw [valN_snoc]
   have hc : UInt8.ofNat (48 + (c.toNat - 48)) = c := by
     rw [show 48 + (c.toNat - 48) = c.toNat by omega, UInt8.ofNat_toNat]
   by_cases hp : p = []
   · subst hp
     rw [show valN [] = 0 from rfl, dig_small (by omega)]
     simp only [Nat.mul_zero, Nat.zero_add, List.nil_append]
     rw [hc]
   · have hlen : 1 < (p ++ [c]).length := by
       have := List.length_pos_iff.2 hp
       simp; omega
     have hl := hlead hlen
     rw [List.getElem?_append_left (List.length_pos_iff.2 hp)] at hl
     have := ih p.length (by simp at hn; omega) (w := p) hp hall.1 (fun _ => hl) rfl
     have hpos : 1 ≤ valN p := by
       rcases Nat.eq_zero_or_pos (valN p) with e | e
       · rw [e, dig_small (by decide)] at this
         rw [← this] at hl
         exact absurd rfl hl
       · exact e
     rw [dig_big (by omega), show (10 * valN p + (c.toNat - 48)) / 10 = valN p by omega, show (10 * valN p + (c.toNat - 48)) % 10 = c.toNat - 48 by omega, this, hc]
theorem num_dig {w : List UInt8} (hall : w.all digB = true) (h9 : w.length ≤ 9) : numForm w = decide (Lib.decDigits (valN w) = w) := by
 rw [Bool.eq_iff_iff, decide_eq_true_eq]
 unfold numForm
 constructor
 · intro h
   simp only [Bool.and_eq_true, decide_eq_true_eq, Bool.not_eq_true', Bool.and_eq_false_iff, decide_eq_false_iff_not] at h
   refine val_dig (by rintro rfl; simp at h) hall fun h1 => ?_
   rcases h.1.2 with h2 | h2
   · exact absurd h1 h2
   · exact h2
 · intro h
   have hp := dig_pos (valN w)
   rw [h] at hp
   rw [decide_eq_true hp, decide_eq_true h9, hall]
   simp only [Bool.true_and, Bool.and_true, Bool.not_eq_true', Bool.and_eq_false_iff, decide_eq_false_iff_not]
   by_cases h1 : 1 < w.length
   · right
     intro h2
     have hv : 1 ≤ valN w := by
       rcases Nat.eq_zero_or_pos (valN w) with e | e
       · rw [e, dig_small (by decide)] at h
         rw [← h] at h1
         exact absurd h1 (by simp)
       · exact e
     obtain ⟨c, r, h3, h4⟩ := dig_head _ hv
     rw [← h, h3] at h2
     exact h4 (Option.some.inj h2)
   · exact .inl h1
theorem num_of_dig {n : Nat} (h : n ≤ 999999999) : numForm (Lib.decDigits n) = true := by
 rw [num_dig (dig_all n) (dig_len 8 n (by omega)), dig_val]
 exact decide_eq_true rfl
end Go.Proofs.YtpmpajodihpkaaaGreatDoor
namespace Go.Proofs.YtpmpajodihpkaaaGreatDoor
open Go Go.Proofs Go.Ua Go.Extern
set_option maxRecDepth 10000
theorem t_digit {F : Fam} (hF : F = Fam.real) {k : Nat} {v : Int} (hv : v = k) (hk : k < 10) :
   F .hasStr [.s (.int .u8 (F .wrap .u8 (F .wrap .i64 (F .add 48 v))))] = true ∧ F .ofStr [.s (.int .u8 (F .wrap .u8 (F .wrap .i64 (F .add 48 v))))] = [UInt8.ofNat (48 + k)] := by
 have h := l_digit hF hv hk
 rw [hF] at h ⊢
 rw [f_hasStr, f_ofStr]
 have h : strOf [.s (.int .u8 (Fam.real .wrap .u8 (Fam.real .wrap .i64 (Fam.real .add 48 v))))] = some [UInt8.ofNat (48 + k)] := h
 rw [h]
 exact ⟨rfl, rfl⟩
theorem RefDigitsI_spec (n : Int) : ESpec Tryz.prog 67 [.d (.s (.int .i64 n))] (fun x => x = .d (.s (.str (Lib.decDigits n.toNat)))) := by
 obtain ⟨D, hD⟩ : ∃ z, z = Lib.decDigits n.toNat := ⟨_, rfl⟩
 rw [← hD]
 refine ESpec.enter Tryz.func67 (by kernel_rfl) rfl (Nat.le_of_ble_eq_true rfl) fun hok cx hnt hfr => ?_
 obtain ⟨F, hF⟩ := real_ex
 refine AK.runT hF tabOK hmix hnt hfr true [] trivial ?_
 conv => arg 4; cbv
 have hok1 : n ≤ 9223372036854775807 := hok.1.2
 have hDl : D.length ≤ 21 := by rw [hD]; exact decDigits_le _ (by omega)
 have start : ∀ (kv : Int), (F .ltI n 0 = true → kv = 0) → (F .ltI n 0 = false → kv = n) → kv = (n.toNat : Int) := fun kv h1 h2 => by
   cases h : F .ltI n 0
   · rw [h2 h]; simp only [hF, f_ltI, f_leI, f_eqI, f_eqS, f_eqB, f_not, f_andB, f_orB, f_lenS, f_lenD, f_hasS, f_atS, f_hasC, f_subS, f_hasCat, f_app, f_wrap, f_add, f_sub, f_mul, f_appD, f_fits, f_hasV, f_subV, decide_eq_true_eq, decide_eq_false_iff_not, beq_iff_eq, beq_eq_false_iff_ne, Bool.and_eq_true, Bool.and_eq_false_iff, Bool.not_eq_true, Bool.not_eq_false, Bool.not_eq_eq_eq_not, Bool.not_true, Bool.not_false] at h; omega
   · rw [h1 h]; simp only [hF, f_ltI, f_leI, f_eqI, f_eqS, f_eqB, f_not, f_andB, f_orB, f_lenS, f_lenD, f_hasS, f_atS, f_hasC, f_subS, f_hasCat, f_app, f_wrap, f_add, f_sub, f_mul, f_appD, f_fits, f_hasV, f_subV, decide_eq_true_eq, decide_eq_false_iff_not, beq_iff_eq, beq_eq_false_iff_ne, Bool.and_eq_true, Bool.and_eq_false_iff, Bool.not_eq_true, Bool.not_eq_false, Bool.not_eq_eq_eq_not, Bool.not_true, Bool.not_false] at h; omega
 refine AKt.node (fun hb0 => ?_) (fun hb0 => ?_)
 case' refine_1 => have hst := start 0 (fun _ => rfl) (fun h => by rw [hb0] at h; cases h)
 case' refine_2 => have hst := start n (fun h => by rw [hb0] at h; cases h) (fun _ => rfl)
 all_goals
   clear start
   repeat' (first|with_reducible (first|refine qAh ?_|refine qAt ?_|refine qAf ?_|refine qAy (by assumption) ?_|refine qAn (by assumption) ?_|refine qAd (fun hb => ?_) (fun hb => ?_)|refine qAe ?_ (fun hb => ?_)|refine qAl ?_)|((with_reducible show _=true); assumption))
   refine AKp.enterLoop 0 ?_
   conv => arg 7; cbv
   refine AKl.invT hF tabOK hmix hnt hfr true [] trivial (fun m vs hs => ∃ (k : Nat) (kv : Int) (s : List UInt8), k = m ∧ kv = k ∧ k ≤ 9223372036854775807 ∧ D = Lib.decDigits k ++ s ∧ vs = [(0, .d (.s (.int .i64 kv))), (3, .d (.s (.str s)))] ∧ hs = []) n.toNat ⟨n.toNat, _, [], rfl, hst, by omega, by simp [hD], rfl, rfl⟩ (by repeat (first | exact True.intro | refine ⟨⟨rfl, rfl⟩, ?_⟩)) (by repeat (first | exact True.intro | refine ⟨⟨rfl, rfl, rfl⟩, ?_⟩)) ?_
   rintro J m vs hs hJ ⟨k, kv, s, rfl, hkv, hk, hd, rfl, rfl⟩
   have hsl : s.length ≤ 21 := by rw [hd] at hDl; simp at hDl; omega
   have hr : F .tmod kv 10 = ((k % 10 : Nat) : Int) := l_rem10 hF hkv
   obtain ⟨rv, hrv⟩ : ∃ z : Int, z = ((k % 10 : Nat) : Int) := ⟨_, rfl⟩
   rw [← hrv] at hr
   conv => arg 4; cbv
   rw [hr]
   refine AKt.node (fun hb1 => ?_) (fun hb1 => ?_)
   · have hlt : ¬ k < 10 := by simp only [hF, f_ltI, f_leI, f_eqI, f_eqS, f_eqB, f_not, f_andB, f_orB, f_lenS, f_lenD, f_hasS, f_atS, f_hasC, f_subS, f_hasCat, f_app, f_wrap, f_add, f_sub, f_mul, f_appD, f_fits, f_hasV, f_subV, decide_eq_true_eq, decide_eq_false_iff_not, beq_iff_eq, beq_eq_false_iff_ne, Bool.and_eq_true, Bool.and_eq_false_iff, Bool.not_eq_true, Bool.not_eq_false, Bool.not_eq_eq_eq_not, Bool.not_true, Bool.not_false] at hb1; omega
     obtain ⟨g1, g2⟩ := t_digit hF hrv (Nat.mod_lt k (by decide))
     rw [g2, l_div10 hF hkv hk]
     have hca : F .hasCat [UInt8.ofNat (48 + k % 10)] s = true := t_hasCat hF (by simp; omega)
     have hap : F .app [UInt8.ofNat (48 + k % 10)] s = UInt8.ofNat (48 + k % 10) :: s := by rw [hF]; rfl
     rw [hap]
     repeat' (first|with_reducible (first|refine qAh ?_|refine qAt ?_|refine qAf ?_|refine qAy (by assumption) ?_|refine qAn (by assumption) ?_|refine qAd (fun hb => ?_) (fun hb => ?_)|refine qAe ?_ (fun hb => ?_)|refine qAl ?_)|((with_reducible show _=true); assumption))
     refine AKp.again _ hfr (by repeat (first | exact True.intro | refine ⟨⟨rfl, rfl⟩, ?_⟩)) (by repeat (first | exact True.intro | refine ⟨⟨rfl, rfl, rfl⟩, ?_⟩)) (hJ (k / 10) _ _ (by omega) ⟨k / 10, _, _, rfl, rfl, by omega, by rw [hd, dig_big hlt]; simp, rfl, rfl⟩)
   · have hlt : k < 10 := by simp only [hF, f_ltI, f_leI, f_eqI, f_eqS, f_eqB, f_not, f_andB, f_orB, f_lenS, f_lenD, f_hasS, f_atS, f_hasC, f_subS, f_hasCat, f_app, f_wrap, f_add, f_sub, f_mul, f_appD, f_fits, f_hasV, f_subV, decide_eq_true_eq, decide_eq_false_iff_not, beq_iff_eq, beq_eq_false_iff_ne, Bool.and_eq_true, Bool.and_eq_false_iff, Bool.not_eq_true, Bool.not_eq_false, Bool.not_eq_eq_eq_not, Bool.not_true, Bool.not_false] at hb1; omega
     obtain ⟨g1, g2⟩ := t_digit hF hkv hlt
     have hca : F .hasCat [UInt8.ofNat (48 + k)] s = true := t_hasCat hF (by simp; omega)
     have hap : F .app [UInt8.ofNat (48 + k)] s = UInt8.ofNat (48 + k) :: s := by rw [hF]; rfl
     rw [g2, hap]
     repeat' (first|with_reducible (first|refine qAh ?_|refine qAt ?_|refine qAf ?_|refine qAy (by assumption) ?_|refine qAn (by assumption) ?_|refine qAd (fun hb => ?_) (fun hb => ?_)|refine qAe ?_ (fun hb => ?_)|refine qAl ?_)|((with_reducible show _=true); assumption))
     refine AKp.doneE tabOK hfr (by rfl) ?_
     show _ = _
     simp only [tupAV]
     rw [hd, dig_small hlt]
     rfl
def φRefDigits (u : Int → List UInt8) : List AV → Option (Bool × AV)
 | [.d (.s (.int .i64 n))] => some (true, .d (.s (.str (u n))))
 | _ => none
theorem φRefDigits_ok : SpOK Tryz.prog 67 (φRefDigits (fun n => Lib.decDigits n.toNat)) := by
 intro xs b x h hb
 unfold φRefDigits at h
 split at h
 · simp only [Option.some.injEq, Prod.mk.injEq] at h
   obtain ⟨rfl, rfl⟩ := h
   exact RefDigitsI_spec _
 · cases h
theorem RefNumber_spec (w : List UInt8) (least most : Int) : ESpec Tryz.prog 69 [.d (.s (.str w)), .d (.s (.int .i64 least)), .d (.s (.int .i64 most))] (fun x => x = .tup [.d (.s (.int .i64 (numV w least most))), .d (.s (.bool (numB w least most)))]) := by
 obtain ⟨uRefDigits, huRefDigits⟩ : ∃ u : Int → List UInt8, u = fun n => Lib.decDigits n.toNat := ⟨_, rfl⟩
 have hG : TblOK Tryz.prog [(67, .p (φRefDigits uRefDigits))] := ⟨(by rw [huRefDigits]; exact φRefDigits_ok), trivial⟩
 obtain ⟨zv, hzv⟩ : ∃ z, z = numV w least most := ⟨_, rfl⟩
 obtain ⟨zb, hzb⟩ : ∃ z, z = numB w least most := ⟨_, rfl⟩
 have bad : ¬ (numForm w = true ∧ least ≤ (valN w : Int) ∧ (valN w : Int) ≤ most) → zv = 0 ∧ zb = false := fun h => by
   rw [hzv, hzb, numV, numB, numberF, if_neg h]; exact ⟨rfl, rfl⟩
 have good : numForm w = true → least ≤ (valN w : Int) → (valN w : Int) ≤ most → zv = (valN w : Int) ∧ zb = true := fun h1 h2 h3 => by
   rw [hzv, hzb, numV, numB, numberF, if_pos ⟨h1, h2, h3⟩]; exact ⟨rfl, rfl⟩
 rw [← hzv, ← hzb]
 refine ESpec.enter Tryz.func69 (by kernel_rfl) rfl (Nat.le_of_ble_eq_true rfl) fun hok cx hnt hfr => ?_
 obtain ⟨F, hF⟩ := real_ex
 refine AK.runT hF tabOK hmix hnt hfr false _ hG ?_
 conv => arg 4; cbv
 have hwl : w.length ≤ maxLen := hok.1
 have hm : maxLen = 9223372036854775807 := by decide
 repeat' (first|with_reducible (first|refine qAh ?_|refine qAt ?_|refine qAf ?_|refine qAy (by assumption) ?_|refine qAn (by assumption) ?_|refine qAd (fun hb => ?_) (fun hb => ?_)|refine qAe ?_ (fun hb => ?_)|refine qAl ?_)|((with_reducible show _=true); assumption))
 refine AKp.enterLoop 10 ?_
 conv => arg 7; cbv
 refine AKl.invT hF tabOK hmix hnt hfr false _ hG (fun n vs hs => ∃ (i : Nat) (iv nv : Int), i + n = w.length ∧ i ≤ 10 ∧ iv = i ∧ nv = (valN (w.take i) : Nat) ∧ (w.take i).all digB = true ∧ vs = [(9, .d (.s (.int .i64 iv))), (8, .d (.s (.int .i64 nv)))] ∧ hs = []) w.length ⟨0, _, 0, by omega, by omega, rfl, by simp [valN], by simp, rfl, rfl⟩ (by repeat (first | exact True.intro | refine ⟨⟨rfl, rfl⟩, ?_⟩)) (by repeat (first | exact True.intro | refine ⟨⟨rfl, rfl, rfl⟩, ?_⟩)) ?_
 rintro J n vs hs hJ ⟨i, iv, nv, hi, hi10, hiv, hnv, hall, rfl, rfl⟩
 have hvl := valN_lt i (by omega) hall
 have hp9 : 10 ^ i ≤ 10 ^ 10 := Nat.pow_le_pow_right (by decide) hi10
 have hu : uRefDigits nv = Lib.decDigits (valN (w.take i)) := by subst huRefDigits; show Lib.decDigits nv.toNat = _; rw [hnv]; rfl
 obtain ⟨D, hD⟩ : ∃ z, z = Lib.decDigits (valN (w.take i)) := ⟨_, rfl⟩
 rw [← hD] at hu
 conv => arg 4; cbv
 rw [hu]
 have fin : ∀ T : Tree, True := fun _ => trivial
 refine AKt.node (fun hb1 => ?_) (fun hb1 => ?_)
 · have hlt : i < w.length := by simp only [hF, f_ltI, f_leI, f_eqI, f_eqS, f_eqB, f_not, f_andB, f_orB, f_lenS, f_lenD, f_hasS, f_atS, f_hasC, f_subS, f_hasCat, f_app, f_wrap, f_add, f_sub, f_mul, f_appD, f_fits, f_hasV, f_subV, decide_eq_true_eq, decide_eq_false_iff_not, beq_iff_eq, beq_eq_false_iff_ne, Bool.and_eq_true, Bool.and_eq_false_iff, Bool.not_eq_true, Bool.not_eq_false, Bool.not_eq_eq_eq_not, Bool.not_true, Bool.not_false] at hb1; omega
   refine AKt.node (fun hb2 => ?_) (fun hb2 => ?_)
   · have hlt2 : i < 10 := by simp only [hF, f_ltI, f_leI, f_eqI, f_eqS, f_eqB, f_not, f_andB, f_orB, f_lenS, f_lenD, f_hasS, f_atS, f_hasC, f_subS, f_hasCat, f_app, f_wrap, f_add, f_sub, f_mul, f_appD, f_fits, f_hasV, f_subV, decide_eq_true_eq, decide_eq_false_iff_not, beq_iff_eq, beq_eq_false_iff_ne, Bool.and_eq_true, Bool.and_eq_false_iff, Bool.not_eq_true, Bool.not_eq_false, Bool.not_eq_eq_eq_not, Bool.not_true, Bool.not_false] at hb2; omega
     obtain ⟨c, hc⟩ : ∃ c, w[i]? = some c := ⟨_, List.getElem?_eq_getElem hlt⟩
     have hs := t_hasS hF hlt hiv
     have hno := all_false (p := digB) hc
     have hyes := all_take_succ (p := digB) hc hall
     have hvt := valN_take hc
     have hdb : digB c = (decide (48 ≤ (c.toNat : Int)) && decide ((c.toNat : Int) ≤ 57)) := rfl
     rw [t_atS hF hc hiv]
     have bad2 : digB c = false → zv = 0 ∧ zb = false := fun h => bad (by
       rintro ⟨h1, _⟩
       unfold numForm at h1
       rw [hno h] at h1
       simp at h1)
     have good2 : digB c = true → F .wrap .i64 (F .sub (F .wrap .i64 (F .add (F .wrap .i64 (F .mul 10 nv)) (F .wrap .i64 (c.toNat : Int)))) 48) = ((valN (w.take (i + 1)) : Nat) : Int) := fun h => by
       have := digB_le h
       rw [hF, hvt, hnv]
       show IntKind.i64.wrap (IntKind.i64.wrap (IntKind.i64.wrap (10 * ((valN (w.take i) : Nat) : Int)) + IntKind.i64.wrap (c.toNat : Int)) - 48) = _
       rw [w_i64 (n := 10 * ((valN (w.take i) : Nat) : Int)) (by omega) (by omega), w_i64 (n := (c.toNat : Int)) (by omega) (by omega), w_i64 (n := 10 * ((valN (w.take i) : Nat) : Int) + (c.toNat : Int)) (by omega) (by omega), w_i64 (by omega) (by omega)]
       omega
     repeat' (first|with_reducible (first|refine qAh ?_|refine qAt ?_|refine qAf ?_|refine qAy (by assumption) ?_|refine qAn (by assumption) ?_|refine qAd (fun hb => ?_) (fun hb => ?_)|refine qAe ?_ (fun hb => ?_)|refine qAl ?_)|((with_reducible show _=true); assumption))
     all_goals first
       | (have hd : digB c = true := by
            rw [hdb]
            clear hJ hno hyes bad good bad2 good2
            simp only [hF, f_ltI, f_leI, f_eqI, f_eqS, f_eqB, f_not, f_andB, f_orB, f_lenS, f_lenD, f_hasS, f_atS, f_hasC, f_subS, f_hasCat, f_app, f_wrap, f_add, f_sub, f_mul, f_appD, f_fits, f_hasV, f_subV, decide_eq_true_eq, decide_eq_false_iff_not, beq_iff_eq, beq_eq_false_iff_ne, Bool.and_eq_true, Bool.and_eq_false_iff, Bool.not_eq_true, Bool.not_eq_false, Bool.not_eq_eq_eq_not, Bool.not_true, Bool.not_false] at *
            grind
          rw [good2 hd]
          exact AKp.again _ hfr (by repeat (first | exact True.intro | refine ⟨⟨rfl, rfl⟩, ?_⟩)) (by repeat (first | exact True.intro | refine ⟨⟨rfl, rfl, rfl⟩, ?_⟩)) (hJ (n - 1) _ _ (by omega) ⟨i + 1, _, _, by omega, by omega, inc_i hF hiv (by omega), rfl, hyes hd, rfl, rfl⟩))
       | (refine AKp.doneE tabOK hfr (by rfl) ?_
          show _ = _
          simp only [tupAV]
          have hd : digB c = false := by
            rw [hdb]
            clear hJ hno hyes bad good bad2 good2
            simp only [hF, f_ltI, f_leI, f_eqI, f_eqS, f_eqB, f_not, f_andB, f_orB, f_lenS, f_lenD, f_hasS, f_atS, f_hasC, f_subS, f_hasCat, f_app, f_wrap, f_add, f_sub, f_mul, f_appD, f_fits, f_hasV, f_subV, decide_eq_true_eq, decide_eq_false_iff_not, beq_iff_eq, beq_eq_false_iff_ne, Bool.and_eq_true, Bool.and_eq_false_iff, Bool.not_eq_true, Bool.not_eq_false, Bool.not_eq_eq_eq_not, Bool.not_true, Bool.not_false] at *
            grind
          obtain ⟨g1, g2⟩ := bad2 hd
          rw [g1, g2])
   · have hge : ¬ i < 10 := by simp only [hF, f_ltI, f_leI, f_eqI, f_eqS, f_eqB, f_not, f_andB, f_orB, f_lenS, f_lenD, f_hasS, f_atS, f_hasC, f_subS, f_hasCat, f_app, f_wrap, f_add, f_sub, f_mul, f_appD, f_fits, f_hasV, f_subV, decide_eq_true_eq, decide_eq_false_iff_not, beq_iff_eq, beq_eq_false_iff_ne, Bool.and_eq_true, Bool.and_eq_false_iff, Bool.not_eq_true, Bool.not_eq_false, Bool.not_eq_eq_eq_not, Bool.not_true, Bool.not_false] at hb2; omega
     have hl9 : F .ltI 9 (F .lenS w) = true := by rw [hF, f_ltI, f_lenS]; exact decide_eq_true (by omega)
     have g := bad (by
       rintro ⟨h1, _⟩
       unfold numForm at h1
       rw [decide_eq_false (show ¬ w.length ≤ 9 by omega)] at h1
       simp at h1)
     rw [hl9]
     repeat' (first|with_reducible (first|refine qAh ?_|refine qAt ?_|refine qAf ?_|refine qAy (by assumption) ?_|refine qAn (by assumption) ?_|refine qAd (fun hb => ?_) (fun hb => ?_)|refine qAe ?_ (fun hb => ?_)|refine qAl ?_)|((with_reducible show _=true); assumption))
     refine AKp.doneE tabOK hfr (by rfl) ?_
     show _ = _
     simp only [tupAV]
     rw [g.1, g.2]
 · have hge : ¬ i < w.length := by simp only [hF, f_ltI, f_leI, f_eqI, f_eqS, f_eqB, f_not, f_andB, f_orB, f_lenS, f_lenD, f_hasS, f_atS, f_hasC, f_subS, f_hasCat, f_app, f_wrap, f_add, f_sub, f_mul, f_appD, f_fits, f_hasV, f_subV, decide_eq_true_eq, decide_eq_false_iff_not, beq_iff_eq, beq_eq_false_iff_ne, Bool.and_eq_true, Bool.and_eq_false_iff, Bool.not_eq_true, Bool.not_eq_false, Bool.not_eq_eq_eq_not, Bool.not_true, Bool.not_false] at hb1; omega
   rw [List.take_of_length_le (by omega)] at hnv hall hD
   have hf : w.length ≤ 9 → numForm w = decide (D = w) := fun h => by rw [num_dig hall h, hD]
   repeat' (first|with_reducible (first|refine qAh ?_|refine qAt ?_|refine qAf ?_|refine qAy (by assumption) ?_|refine qAn (by assumption) ?_|refine qAd (fun hb => ?_) (fun hb => ?_)|refine qAe ?_ (fun hb => ?_)|refine qAl ?_)|((with_reducible show _=true); assumption))
   all_goals first
     | (refine AKp.doneE tabOK hfr (by rfl) ?_
        show _ = _
        simp only [tupAV]
        have g : ¬ (numForm w = true ∧ least ≤ (valN w : Int) ∧ (valN w : Int) ≤ most) := by
          rintro ⟨h1, h2, h3⟩
          have h9 : w.length ≤ 9 := by
            unfold numForm at h1
            simp only [Bool.and_eq_true, decide_eq_true_eq] at h1
            exact h1.1.1.2
          rw [hf h9] at h1
          have h1 := of_decide_eq_true h1
          clear hJ bad good hf hall
          simp only [hF, f_ltI, f_leI, f_eqI, f_eqS, f_eqB, f_not, f_andB, f_orB, f_lenS, f_lenD, f_hasS, f_atS, f_hasC, f_subS, f_hasCat, f_app, f_wrap, f_add, f_sub, f_mul, f_appD, f_fits, f_hasV, f_subV, decide_eq_true_eq, decide_eq_false_iff_not, beq_iff_eq, beq_eq_false_iff_ne, Bool.and_eq_true, Bool.and_eq_false_iff, Bool.not_eq_true, Bool.not_eq_false, Bool.not_eq_eq_eq_not, Bool.not_true, Bool.not_false] at *
          first
            | omega
            | exact absurd h1 (by assumption)
            | grind
        obtain ⟨g1, g2⟩ := bad g
        rw [g1, g2]
        done)
     | (refine AKp.doneE tabOK hfr (by rfl) ?_
        show _ = _
        simp only [tupAV]
        have g := good (by
          have h9 : w.length ≤ 9 := by
            have := ‹F .ltI 9 (F .lenS w) = false›
            simp only [hF, f_ltI, f_leI, f_eqI, f_eqS, f_eqB, f_not, f_andB, f_orB, f_lenS, f_lenD, f_hasS, f_atS, f_hasC, f_subS, f_hasCat, f_app, f_wrap, f_add, f_sub, f_mul, f_appD, f_fits, f_hasV, f_subV, decide_eq_true_eq, decide_eq_false_iff_not, beq_iff_eq, beq_eq_false_iff_ne, Bool.and_eq_true, Bool.and_eq_false_iff, Bool.not_eq_true, Bool.not_eq_false, Bool.not_eq_eq_eq_not, Bool.not_true, Bool.not_false] at this
            omega
          rw [hf h9]
          clear hJ bad good hf hall
          simp only [hF, f_ltI, f_leI, f_eqI, f_eqS, f_eqB, f_not, f_andB, f_orB, f_lenS, f_lenD, f_hasS, f_atS, f_hasC, f_subS, f_hasCat, f_app, f_wrap, f_add, f_sub, f_mul, f_appD, f_fits, f_hasV, f_subV, decide_eq_true_eq, decide_eq_false_iff_not, beq_iff_eq, beq_eq_false_iff_ne, Bool.and_eq_true, Bool.and_eq_false_iff, Bool.not_eq_true, Bool.not_eq_false, Bool.not_eq_eq_eq_not, Bool.not_true, Bool.not_false] at *
          grind) (by clear hJ bad good hf hall; simp only [hF, f_ltI, f_leI, f_eqI, f_eqS, f_eqB, f_not, f_andB, f_orB, f_lenS, f_lenD, f_hasS, f_atS, f_hasC, f_subS, f_hasCat, f_app, f_wrap, f_add, f_sub, f_mul, f_appD, f_fits, f_hasV, f_subV, decide_eq_true_eq, decide_eq_false_iff_not, beq_iff_eq, beq_eq_false_iff_ne, Bool.and_eq_true, Bool.and_eq_false_iff, Bool.not_eq_true, Bool.not_eq_false, Bool.not_eq_eq_eq_not, Bool.not_true, Bool.not_false] at *; omega) (by clear hJ bad good hf hall; simp only [hF, f_ltI, f_leI, f_eqI, f_eqS, f_eqB, f_not, f_andB, f_orB, f_lenS, f_lenD, f_hasS, f_atS, f_hasC, f_subS, f_hasCat, f_app, f_wrap, f_add, f_sub, f_mul, f_appD, f_fits, f_hasV, f_subV, decide_eq_true_eq, decide_eq_false_iff_not, beq_iff_eq, beq_eq_false_iff_ne, Bool.and_eq_true, Bool.and_eq_false_iff, Bool.not_eq_true, Bool.not_eq_false, Bool.not_eq_eq_eq_not, Bool.not_true, Bool.not_false] at *; omega)
        rw [g.1, g.2, hnv])
def φRefNumber (u : List UInt8 → Int → Int → Int) (v : List UInt8 → Int → Int → Bool) : List AV → Option (Bool × AV)
 | [.d (.s (.str w)), .d (.s (.int .i64 a)), .d (.s (.int .i64 b))] => some (true, .tup [.d (.s (.int .i64 (u w a b))), .d (.s (.bool (v w a b)))])
 | _ => none
theorem φRefNumber_ok : SpOK Tryz.prog 69 (φRefNumber (numV) (numB)) := by
 intro xs b x h hb
 unfold φRefNumber at h
 split at h
 · simp only [Option.some.injEq, Prod.mk.injEq] at h
   obtain ⟨rfl, rfl⟩ := h
   exact RefNumber_spec _ _ _
 · cases h
end Go.Proofs.YtpmpajodihpkaaaGreatDoor
