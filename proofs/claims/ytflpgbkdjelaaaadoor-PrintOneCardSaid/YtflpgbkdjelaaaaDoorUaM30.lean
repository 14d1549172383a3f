/- The library of this claim and its walks, part 30, joined out of smaller texts. No statement stands in it. -/
import Derived.Test.YtflpgbkdjelaaaaDoorUaM25
import Derived.Test.YtflpgbkdjelaaaaDoorUaM27
import Derived.Test.YtflpgbkdjelaaaaDoorUaM28
import Derived.Test.YtflpgbkdjelaaaaDoorUaM29
/- What a text may tell: levels, schemas. -/
namespace Go.Proofs.YtflpgbkdjelaaaaDoor
open Go Go.Proofs Go.Ua Go.Extern
set_option linter.unusedVariables false
set_option linter.unusedSimpArgs false
set_option maxRecDepth 10000

theorem pwithin_spec (n a b : Int) : ESpec Tryd.prog 26 [.d (.s (.int .i64 n)), .d (.s (.int .i64 a)), .d (.s (.int .i64 b))] (fun x => x = .d (.s (.bool (inB n a b)))) := by
  refine ESpec.enter Tryd.func26 (by kernel_rfl) rfl (Nat.le_of_ble_eq_true rfl) fun _ cx hnt hfr => ?_
  obtain ⟨F, hF⟩ := real_ex
  refine AK.runT hF tabOK hmix hnt hfr false [] trivial ?_
  conv => arg 4; cbv
  repeat' (first | with_reducible (first | refine AKt.have ?_ | refine AKt.tt ?_ | refine AKt.ff ?_ | refine AKt.yes (by assumption) ?_ | refine AKt.no (by assumption) ?_ | refine AKt.node (fun hb => ?_) (fun hb => ?_) | refine AKt.need ?_ (fun hb => ?_) | refine AKt.leaf ?_) | ((with_reducible show _ = true); assumption))
  all_goals
    refine AKp.doneE tabOK hfr (by rfl) ?_
    show _ = _
    simp only [tupAV]
    simp only [hF, f_ltI, f_leI, f_eqI, f_eqS, f_eqB, f_not, f_andB, f_orB, f_lenS, f_lenD, f_hasS, f_atS, f_hasC, f_subS, f_hasCat, f_app, f_wrap, f_add, f_sub, f_mul, f_appD, f_fits, f_hasV, f_subV, decide_eq_true_eq, decide_eq_false_iff_not, beq_iff_eq, beq_eq_false_iff_ne, Bool.and_eq_true, Bool.and_eq_false_iff, Bool.not_eq_true, Bool.not_eq_false, Bool.not_eq_eq_eq_not, Bool.not_true, Bool.not_false] at *
    simp [inB, *]
def φPWithin (u : Int → Int → Int → Bool) : List AV → Option (Bool × AV)
  | [.d (.s (.int .i64 n)), .d (.s (.int .i64 a)), .d (.s (.int .i64 b))] => some (true, .d (.s (.bool (u n a b))))
  | _ => none
theorem φPWithin_ok : SpOK Tryd.prog 26 (φPWithin (inB)) := by
  intro xs b x h hb
  unfold φPWithin at h
  split at h
  · simp only [Option.some.injEq, Prod.mk.injEq] at h
    obtain ⟨rfl, rfl⟩ := h
    exact pwithin_spec _ _ _
  · cases h

set_option maxHeartbeats 1000000 in
theorem plevel_spec (nm : Wd) (kd sh ld bo qu ha le wa gu : Int) : ESpec Tryd.prog 27 [.d (.agg [.s (.str nm), .s (.int .i64 kd), .s (.int .i64 sh), .s (.int .i64 ld), .s (.int .i64 bo), .s (.int .i64 qu), .s (.int .i64 ha), .s (.int .i64 le), .s (.int .i64 wa), .s (.int .i64 gu)])] (fun x => x = .d (.s (.bool (levOK ⟨nm, kd, sh, ld, bo, qu, ha, le, wa, gu⟩)))) := by
  obtain ⟨uPWithin, huPWithin⟩ : ∃ u : Int → Int → Int → Bool, u = inB := ⟨_, rfl⟩
  obtain ⟨uName, huName⟩ : ∃ u : List UInt8 → Bool, u = nameF := ⟨_, rfl⟩
  have hG : TblOK Tryd.prog [(26, .p (φPWithin uPWithin)), (44, .p (φName uName))] := ⟨(by rw [huPWithin]; exact φPWithin_ok), (by rw [huName]; exact φName_ok), trivial⟩
  refine ESpec.enter Tryd.func27 (by kernel_rfl) rfl (Nat.le_of_ble_eq_true rfl) fun hok cx hnt hfr => ?_
  obtain ⟨F, hF⟩ := real_ex
  refine AK.runT hF tabOK hmix hnt hfr true _ hG ?_
  conv => arg 4; cbv
  repeat' (first | with_reducible (first | refine AKt.have ?_ | refine AKt.tt ?_ | refine AKt.ff ?_ | refine AKt.yes (by assumption) ?_ | refine AKt.no (by assumption) ?_ | refine AKt.node (fun hb => ?_) (fun hb => ?_) | refine AKt.need ?_ (fun hb => ?_) | refine AKt.leaf ?_) | ((with_reducible show _ = true); assumption))
  all_goals
    refine AKp.doneE tabOK hfr (by rfl) ?_
    show _ = _
    simp only [tupAV]
    subst huPWithin huName
    simp only [hF, f_ltI, f_leI, f_eqI, f_eqS, f_eqB, f_not, f_andB, f_orB, f_lenS, f_lenD, f_hasS, f_atS, f_hasC, f_subS, f_hasCat, f_app, f_wrap, f_add, f_sub, f_mul, f_appD, f_fits, f_hasV, f_subV, decide_eq_true_eq, decide_eq_false_iff_not, beq_iff_eq, beq_eq_false_iff_ne, Bool.and_eq_true, Bool.and_eq_false_iff, Bool.not_eq_true, Bool.not_eq_false, Bool.not_eq_eq_eq_not, Bool.not_true, Bool.not_false] at *
    first
      | (simp [levOK, *]; done)
      | (rw [Bool.eq_iff_iff]; simp [levOK, *]; done)
      | (clear hok hG; grind [levOK])
def φPLevel (u : Wd → Int → Int → Int → Int → Int → Int → Int → Int → Int → Bool) : List AV → Option (Bool × AV)
  | [.d (.agg [.s (.str nm), .s (.int .i64 kd), .s (.int .i64 sh), .s (.int .i64 ld), .s (.int .i64 bo), .s (.int .i64 qu), .s (.int .i64 ha), .s (.int .i64 le), .s (.int .i64 wa), .s (.int .i64 gu)])] => some (true, .d (.s (.bool (u nm kd sh ld bo qu ha le wa gu))))
  | _ => none
theorem φPLevel_ok : SpOK Tryd.prog 27 (φPLevel (fun a b c d e f g h i j => levOK ⟨a, b, c, d, e, f, g, h, i, j⟩)) := by
  intro xs b x h hb
  unfold φPLevel at h
  split at h
  · simp only [Option.some.injEq, Prod.mk.injEq] at h
    obtain ⟨rfl, rfl⟩ := h
    exact plevel_spec _ _ _ _ _ _ _ _ _ _
  · cases h

theorem plists_spec (a b c d e : List Dat) : ESpec Tryd.prog 21 [.d (.agg [.view 1 a, .view 1 b, .view 1 c, .view 1 d, .view 1 e])] (fun x => x = .d (.agg [.view 1 a, .view 1 b, .view 1 c, .view 1 d, .view 1 e])) := by
  refine ESpec.enter Tryd.func21 (by kernel_rfl) rfl (Nat.le_of_ble_eq_true rfl) fun hok cx hnt hfr => ?_
  obtain ⟨F, hF⟩ := real_ex
  refine AK.runT hF tabOK hmix hnt hfr true [] trivial ?_
  conv => arg 4; cbv
  repeat' (first | with_reducible (first | refine AKt.have ?_ | refine AKt.tt ?_ | refine AKt.ff ?_ | refine AKt.yes (by assumption) ?_ | refine AKt.no (by assumption) ?_ | refine AKt.node (fun hb => ?_) (fun hb => ?_) | refine AKt.need ?_ (fun hb => ?_) | refine AKt.leaf ?_) | ((with_reducible show _ = true); assumption))
  refine AKp.doneE tabOK hfr (by rfl) ?_
  show _ = _
  simp only [tupAV]
  rfl
def φPLists  : List AV → Option (Bool × AV)
  | [.d (.agg [.view 1 a, .view 1 b, .view 1 c, .view 1 d, .view 1 e])] => some (true, .d (.agg [.view 1 a, .view 1 b, .view 1 c, .view 1 d, .view 1 e]))
  | _ => none
theorem φPLists_ok : SpOK Tryd.prog 21 (φPLists ) := by
  intro xs b x h hb
  unfold φPLists at h
  split at h
  · simp only [Option.some.injEq, Prod.mk.injEq] at h
    obtain ⟨rfl, rfl⟩ := h
    exact plists_spec _ _ _ _ _
  · cases h
end Go.Proofs.YtflpgbkdjelaaaaDoor

/- print: a level told. -/
namespace Go.Proofs.YtflpgbkdjelaaaaDoor
open Go Go.Proofs Go.Ua Go.Extern Go.Shelf
set_option linter.unusedVariables false
set_option linter.unusedSimpArgs false
set_option maxRecDepth 10000

theorem by_spec (n : Int) : ESpec Tryd.prog 20 [.d (.s (.int .i64 n))] (fun x => x = .d (.s (.str (byW n)))) := by
  refine ESpec.enter Tryd.func20 (by kernel_rfl) rfl (Nat.le_of_ble_eq_true rfl) fun _ cx hnt hfr => ?_
  obtain ⟨F, hF⟩ := real_ex
  refine AK.runT hF tabOK hmix hnt hfr false [] trivial ?_
  conv => arg 4; cbv
  repeat' (first | with_reducible (first | refine AKt.have ?_ | refine AKt.tt ?_ | refine AKt.ff ?_ | refine AKt.yes (by assumption) ?_ | refine AKt.no (by assumption) ?_ | refine AKt.node (fun hb => ?_) (fun hb => ?_) | refine AKt.need ?_ (fun hb => ?_) | refine AKt.leaf ?_) | ((with_reducible show _ = true); assumption))
  all_goals
    refine AKp.doneE tabOK hfr (by rfl) ?_
    show _ = _
    simp only [tupAV]
    simp only [hF, f_ltI, f_leI, f_eqI, f_eqS, f_eqB, f_not, f_andB, f_orB, f_lenS, f_lenD, f_hasS, f_atS, f_hasC, f_subS, f_hasCat, f_app, f_wrap, f_add, f_sub, f_mul, f_appD, f_fits, f_hasV, f_subV, decide_eq_true_eq, decide_eq_false_iff_not, beq_iff_eq, beq_eq_false_iff_ne, Bool.and_eq_true, Bool.and_eq_false_iff, Bool.not_eq_true, Bool.not_eq_false, Bool.not_eq_eq_eq_not, Bool.not_true, Bool.not_false] at *
    simp [byW, USER, SPACE, NONE, *]
def φPBy (u : Int → Wd) : List AV → Option (Bool × AV)
  | [.d (.s (.int .i64 n))] => some (true, .d (.s (.str (u n))))
  | _ => none
theorem φPBy_ok : SpOK Tryd.prog 20 (φPBy (byW)) := by
  intro xs b x h hb
  unfold φPBy at h
  split at h
  · simp only [Option.some.injEq, Prod.mk.injEq] at h
    obtain ⟨rfl, rfl⟩ := h
    exact by_spec _
  · cases h

def tlP (bs : List Dat) (l : Lv) : Bool := decide (-1 ≤ l.bo) && (decide (1 ≤ l.kd ∧ l.kd ≤ 3) && tellP bs (strDs (levW l)))
def tlV (bs : List Dat) (l : Lv) : List Dat := bs ++ byD (lineT (levW l))
set_option maxHeartbeats 4000000 in
theorem tellLevel_spec (bs : List Dat) (l : Lv) (h : tlP bs l = true) : ASpec Tryd.prog 19 [.ptr 0 0 0 2, .d (.agg [.s (.str l.nm), .s (.int .i64 l.kd), .s (.int .i64 l.sh), .s (.int .i64 l.ld), .s (.int .i64 l.bo), .s (.int .i64 l.qu), .s (.int .i64 l.ha), .s (.int .i64 l.le), .s (.int .i64 l.wa), .s (.int .i64 l.gu)])] [(0, .cs 54 [.opt 0, .row 1 1]), (1, .ds 5 1 bs)] 2 (fun y h1 fr1 => y = .tup [] ∧ h1 = [(0, .cs 54 [.opt 0, .row 2 1]), (2, .ds 5 1 (tlV bs l))] ∧ fr1 = 3) := by
  obtain ⟨uDigits, huDigits⟩ : ∃ u : Int → List UInt8, u = fun n => Lib.decDigits n.toNat := ⟨_, rfl⟩
  obtain ⟨uTell, huTell⟩ : ∃ u : List Dat → List Dat → Bool, u = tellP := ⟨_, rfl⟩
  obtain ⟨uTell1, huTell1⟩ : ∃ u : List Dat → List Dat → List Dat, u = fun bs ws => bs ++ byD (lineT (unStr ws)) := ⟨_, rfl⟩
  have hG : TblOK Tryd.prog [(18, .p (φDigits uDigits)), (17, .m (φTell uTell uTell1))] := ⟨(by rw [huDigits]; exact φDigits_ok), (by rw [huTell, huTell1]; exact φTell_ok), trivial⟩
  simp only [tlP, Bool.and_eq_true, decide_eq_true_eq] at h
  obtain ⟨g1, ⟨g2, g5⟩, g3⟩ := h
  obtain ⟨V, hV⟩ : ∃ z, z = tlV bs l := ⟨_, rfl⟩
  rw [← hV]
  obtain ⟨W, hW⟩ : ∃ z, z = strDs (levW l) := ⟨_, rfl⟩
  rw [← hW] at g3
  have ht : uTell bs W = true := by rw [huTell]; exact g3
  have ht1 : uTell1 bs W = V := by rw [huTell1, hV, tlV, hW]; show bs ++ byD (lineT (unStr (strDs (levW l)))) = _; rw [unStr_strDs]
  unfold levW at hW
  obtain ⟨nm, kd, sh, ld, bo, qu, ha, le, wa, gu⟩ := l
  simp only at hW g1 g2 g5 ⊢
  refine ASpec.enterK Tryd.func19 (by kernel_rfl) rfl (Nat.le_of_ble_eq_true rfl) fun hok cx hnt hfr => ?_
  obtain ⟨F, hF⟩ := real_ex
  refine AK.runTn hF tabOK hmix hnt [] false _ hG (Nat.le_of_eq hfr) ?_
  conv => arg 4; cbv
  have k0 : F .inB 0 5 = some 0 := by rw [hF]; rfl
  have k1 : F .inB 1 5 = some 1 := by rw [hF]; rfl
  have k2 : F .inB 2 5 = some 2 := by rw [hF]; rfl
  have k3 : F .inB 3 5 = some 3 := by rw [hF]; rfl
  have k4 : F .inB 4 5 = some 4 := by rw [hF]; rfl
  have l0 : F .ltI 0 5 = true := by rw [hF]; rfl
  have l1 : F .ltI 1 5 = true := by rw [hF]; rfl
  have l2 : F .ltI 2 5 = true := by rw [hF]; rfl
  have l3 : F .ltI 3 5 = true := by rw [hF]; rfl
  have l4 : F .ltI 4 5 = true := by rw [hF]; rfl
  have l5 : F .ltI 5 5 = false := by rw [hF]; rfl
  have a0 : F .wrap .i64 (F .add 0 1) = 1 := by rw [hF]; rfl
  have a1 : F .wrap .i64 (F .add 1 1) = 2 := by rw [hF]; rfl
  have a2 : F .wrap .i64 (F .add 2 1) = 3 := by rw [hF]; rfl
  have a3 : F .wrap .i64 (F .add 3 1) = 4 := by rw [hF]; rfl
  have a4 : F .wrap .i64 (F .add 4 1) = 5 := by rw [hF]; rfl
  have f1 : ∀ (l : List Dat), l.length ≤ 1000 → F .fits 16 l = true := fun l hl => t_fits hF (by omega)
  have ap : ∀ a b, F .appD a b = a ++ b := fun a b => by rw [hF]; rfl
  refine AKt.node (fun c1 => ?_) (fun c1 => ?_)
  · have e1 : kd = 1 := by rw [hF, f_eqI] at c1; simpa using c1
    rw [if_pos e1] at hW
    have eW : [Dat.s (Sc.str [108, 101, 118, 101, 108]), Dat.s (Sc.str nm), Dat.s (Sc.str [101, 120, 101, 109, 112, 116])] = W := by rw [hW]; rfl
    rw [eW, ht1]
    refine AKt.need ht fun _ => ?_
    repeat' (first | with_reducible (first | refine AKt.have ?_ | refine AKt.tt ?_ | refine AKt.ff ?_ | refine AKt.yes (by assumption) ?_ | refine AKt.no (by assumption) ?_ | refine AKt.node (fun hb => ?_) (fun hb => ?_) | refine AKt.need ?_ (fun hb => ?_) | refine AKt.leaf ?_) | ((with_reducible show _ = true); assumption))
    first | refine AKp.doneI tabOK [0, 1, 4] hfr (by rfl) (by rfl) (by rfl) rfl rfl rfl ?_ ?_ | refine AKp.endI tabOK [0, 1, 4] hfr (by rfl) (by rfl) (by rfl) rfl rfl rfl ?_ ?_
    all_goals show _ = _
    · rfl
    · rfl
  have n1 : ¬ kd = 1 := by rw [hF, f_eqI] at c1; simpa using c1
  rw [if_neg n1] at hW
  refine AKt.node (fun c2 => ?b1) (fun c2 => ?b2)
  case' b1 =>
    have hb4 : uDigits bo = borW bo := by
      rw [hF, f_leI] at c2
      have := of_decide_eq_true c2
      rw [huDigits, borW, if_neg (by omega)]
      rfl
    obtain ⟨w4, hw4⟩ : ∃ z, z = uDigits bo := ⟨_, rfl⟩
    rw [← hw4]
    rw [← hw4] at hb4
    refine AKt.need rfl fun _ => AKt.need rfl fun _ => AKt.need rfl fun _ => ?_
  case' b2 =>
    have hb4 : ([97, 108, 108] : Wd) = borW bo := by
      rw [hF, f_leI] at c2
      have := of_decide_eq_false c2
      rw [borW, if_pos (by omega)]
      rfl
    obtain ⟨w4, hw4⟩ : ∃ z : Wd, z = [97, 108, 108] := ⟨_, rfl⟩
    rw [← hw4]
    rw [← hw4] at hb4
    refine AKt.need rfl fun _ => AKt.need rfl fun _ => ?_
  all_goals
    refine AKt.node (fun c3 => ?_) (fun c3 => ?_)
    · have e2 : kd = 2 := by rw [hF, f_eqI] at c3; simpa using c3
      rw [if_pos e2] at hW
      have eW : F .appD [Dat.s (Sc.str [108, 101, 118, 101, 108]), Dat.s (Sc.str nm), Dat.s (Sc.str (uDigits sh)), Dat.s (Sc.str (uDigits ld)), Dat.s (Sc.str w4)] [Dat.s (Sc.str [114, 101, 106, 101, 99, 116])] = W := by rw [ap, hW, hb4, huDigits]; rfl
      rw [eW, ht1]
      refine AKt.need (f1 W (by rw [← eW, ap]; simp)) fun _ => AKt.need ht fun _ => ?_
      repeat' (first | with_reducible (first | refine AKt.have ?_ | refine AKt.tt ?_ | refine AKt.ff ?_ | refine AKt.yes (by assumption) ?_ | refine AKt.no (by assumption) ?_ | refine AKt.node (fun hb => ?_) (fun hb => ?_) | refine AKt.need ?_ (fun hb => ?_) | refine AKt.leaf ?_) | ((with_reducible show _ = true); assumption))
      first | refine AKp.doneI tabOK [0, 1, 6] hfr (by rfl) (by rfl) (by rfl) rfl rfl rfl ?_ ?_ | refine AKp.endI tabOK [0, 1, 6] hfr (by rfl) (by rfl) (by rfl) rfl rfl rfl ?_ ?_
      all_goals show _ = _
      · rfl
      · rfl
    have n2 : ¬ kd = 2 := by rw [hF, f_eqI] at c3; simpa using c3
    rw [if_neg n2] at hW
    obtain ⟨R0, hR0⟩ : ∃ z, z = F .appD [Dat.s (Sc.str [108, 101, 118, 101, 108]), Dat.s (Sc.str nm), Dat.s (Sc.str (uDigits sh)), Dat.s (Sc.str (uDigits ld)), Dat.s (Sc.str w4)] [Dat.s (Sc.str [113, 117, 101, 117, 101])] := ⟨_, rfl⟩
    rw [← hR0]
    have s0 : R0.length = 6 := by rw [hR0, ap]; rfl
    refine AKt.need (f1 R0 (by omega)) fun _ => ?_
    repeat' (first | with_reducible (first | refine AKt.have ?_ | refine AKt.tt ?_ | refine AKt.ff ?_ | refine AKt.yes (by assumption) ?_ | refine AKt.no (by assumption) ?_ | refine AKt.node (fun hb => ?_) (fun hb => ?_) | refine AKt.need ?_ (fun hb => ?_) | refine AKt.leaf ?_) | ((with_reducible show _ = true); assumption))
    refine AKp.unroll 6 fun J0 n0 => ?_
    refine AK.runTn hF tabOK hmix hnt [] false _ hG (by first | exact Nat.le_of_eq hfr | (rw [hfr]; exact Nat.le_of_ble_eq_true rfl)) ?_
    conv => arg 4; cbv
    refine AKt.yes l0 ?_
    rw [k0]
    conv => arg 4; cbv
    rw [a0]
    obtain ⟨R1, hR1⟩ : ∃ z, z = F .appD R0 [Dat.s (Sc.str (uDigits qu))] := ⟨_, rfl⟩
    have s1 : R1.length = 7 := by rw [hR1, ap, List.length_append, s0]; rfl
    rw [← hR1]
    refine AKt.need rfl fun _ => AKt.need (f1 R1 (by omega)) fun _ => ?_
    repeat' (first | with_reducible (first | refine AKt.have ?_ | refine AKt.tt ?_ | refine AKt.ff ?_ | refine AKt.yes (by assumption) ?_ | refine AKt.no (by assumption) ?_ | refine AKt.node (fun hb => ?_) (fun hb => ?_) | refine AKt.need ?_ (fun hb => ?_) | refine AKt.leaf ?_) | ((with_reducible show _ = true); assumption))
    obtain ⟨J1, n1, nx⟩ := n0
    refine AKp.backTo (nx _ ?_)
    clear nx
    refine AK.runTn hF tabOK hmix hnt [] false _ hG (by first | exact Nat.le_of_eq hfr | (rw [hfr]; exact Nat.le_of_ble_eq_true rfl)) ?_
    conv => arg 4; cbv
    refine AKt.yes l1 ?_
    rw [k1]
    conv => arg 4; cbv
    rw [a1]
    obtain ⟨R2, hR2⟩ : ∃ z, z = F .appD R1 [Dat.s (Sc.str (uDigits ha))] := ⟨_, rfl⟩
    have s2 : R2.length = 8 := by rw [hR2, ap, List.length_append, s1]; rfl
    rw [← hR2]
    refine AKt.need rfl fun _ => AKt.need (f1 R2 (by omega)) fun _ => ?_
    repeat' (first | with_reducible (first | refine AKt.have ?_ | refine AKt.tt ?_ | refine AKt.ff ?_ | refine AKt.yes (by assumption) ?_ | refine AKt.no (by assumption) ?_ | refine AKt.node (fun hb => ?_) (fun hb => ?_) | refine AKt.need ?_ (fun hb => ?_) | refine AKt.leaf ?_) | ((with_reducible show _ = true); assumption))
    obtain ⟨J2, n2, nx⟩ := n1
    refine AKp.backTo (nx _ ?_)
    clear nx
    refine AK.runTn hF tabOK hmix hnt [] false _ hG (by first | exact Nat.le_of_eq hfr | (rw [hfr]; exact Nat.le_of_ble_eq_true rfl)) ?_
    conv => arg 4; cbv
    refine AKt.yes l2 ?_
    rw [k2]
    conv => arg 4; cbv
    rw [a2]
    obtain ⟨R3, hR3⟩ : ∃ z, z = F .appD R2 [Dat.s (Sc.str (uDigits le))] := ⟨_, rfl⟩
    have s3 : R3.length = 9 := by rw [hR3, ap, List.length_append, s2]; rfl
    rw [← hR3]
    refine AKt.need rfl fun _ => AKt.need (f1 R3 (by omega)) fun _ => ?_
    repeat' (first | with_reducible (first | refine AKt.have ?_ | refine AKt.tt ?_ | refine AKt.ff ?_ | refine AKt.yes (by assumption) ?_ | refine AKt.no (by assumption) ?_ | refine AKt.node (fun hb => ?_) (fun hb => ?_) | refine AKt.need ?_ (fun hb => ?_) | refine AKt.leaf ?_) | ((with_reducible show _ = true); assumption))
    obtain ⟨J3, n3, nx⟩ := n2
    refine AKp.backTo (nx _ ?_)
    clear nx
    refine AK.runTn hF tabOK hmix hnt [] false _ hG (by first | exact Nat.le_of_eq hfr | (rw [hfr]; exact Nat.le_of_ble_eq_true rfl)) ?_
    conv => arg 4; cbv
    refine AKt.yes l3 ?_
    rw [k3]
    conv => arg 4; cbv
    rw [a3]
    obtain ⟨R4, hR4⟩ : ∃ z, z = F .appD R3 [Dat.s (Sc.str (uDigits wa))] := ⟨_, rfl⟩
    have s4 : R4.length = 10 := by rw [hR4, ap, List.length_append, s3]; rfl
    rw [← hR4]
    refine AKt.need rfl fun _ => AKt.need (f1 R4 (by omega)) fun _ => ?_
    repeat' (first | with_reducible (first | refine AKt.have ?_ | refine AKt.tt ?_ | refine AKt.ff ?_ | refine AKt.yes (by assumption) ?_ | refine AKt.no (by assumption) ?_ | refine AKt.node (fun hb => ?_) (fun hb => ?_) | refine AKt.need ?_ (fun hb => ?_) | refine AKt.leaf ?_) | ((with_reducible show _ = true); assumption))
    obtain ⟨J4, n4, nx⟩ := n3
    refine AKp.backTo (nx _ ?_)
    clear nx
    refine AK.runTn hF tabOK hmix hnt [] false _ hG (by first | exact Nat.le_of_eq hfr | (rw [hfr]; exact Nat.le_of_ble_eq_true rfl)) ?_
    conv => arg 4; cbv
    refine AKt.yes l4 ?_
    rw [k4]
    conv => arg 4; cbv
    rw [a4]
    obtain ⟨R5, hR5⟩ : ∃ z, z = F .appD R4 [Dat.s (Sc.str (uDigits gu))] := ⟨_, rfl⟩
    have s5 : R5.length = 11 := by rw [hR5, ap, List.length_append, s4]; rfl
    rw [← hR5]
    refine AKt.need rfl fun _ => AKt.need (f1 R5 (by omega)) fun _ => ?_
    repeat' (first | with_reducible (first | refine AKt.have ?_ | refine AKt.tt ?_ | refine AKt.ff ?_ | refine AKt.yes (by assumption) ?_ | refine AKt.no (by assumption) ?_ | refine AKt.node (fun hb => ?_) (fun hb => ?_) | refine AKt.need ?_ (fun hb => ?_) | refine AKt.leaf ?_) | ((with_reducible show _ = true); assumption))
    obtain ⟨J5, n5, nx⟩ := n4
    refine AKp.backTo (nx _ ?_)
    clear nx
    refine AK.runTn hF tabOK hmix hnt [] false _ hG (by first | exact Nat.le_of_eq hfr | (rw [hfr]; exact Nat.le_of_ble_eq_true rfl)) ?_
    conv => arg 4; cbv
    refine AKt.no l5 ?_
    have eW : R5 = W := by
      rw [hR5, hR4, hR3, hR2, hR1, hR0, hW, hb4, huDigits]
      simp only [ap]
      rfl
    rw [eW, ht1]
    refine AKt.need ht fun _ => ?_
    repeat' (first | with_reducible (first | refine AKt.have ?_ | refine AKt.tt ?_ | refine AKt.ff ?_ | refine AKt.yes (by assumption) ?_ | refine AKt.no (by assumption) ?_ | refine AKt.node (fun hb => ?_) (fun hb => ?_) | refine AKt.need ?_ (fun hb => ?_) | refine AKt.leaf ?_) | ((with_reducible show _ = true); assumption))
    first | refine AKp.doneI tabOK [0, 1, 16] hfr (by rfl) (by rfl) (by rfl) rfl rfl rfl ?_ ?_ | refine AKp.endI tabOK [0, 1, 16] hfr (by rfl) (by rfl) (by rfl) rfl rfl rfl ?_ ?_
    all_goals show _ = _
    · rfl
    · rfl
def φTellLevel (p : List Dat → Wd → Int → Int → Int → Int → Int → Int → Int → Int → Int → Bool) (v : List Dat → Wd → Int → Int → Int → Int → Int → Int → Int → Int → Int → List Dat) : Nat → List AV → List (Nat × Blk) → Option (Bool × AV × List (Nat × Blk) × Nat)
  | 2, [.ptr 0 0 0 2, .d (.agg [.s (.str nm), .s (.int .i64 kd), .s (.int .i64 sh), .s (.int .i64 ld), .s (.int .i64 bo), .s (.int .i64 qu), .s (.int .i64 ha), .s (.int .i64 le), .s (.int .i64 wa), .s (.int .i64 gu)])], [(0, .cs 54 [.opt 0, .row 1 1]), (1, .ds 5 1 bs)] => some (p bs nm kd sh ld bo qu ha le wa gu, .tup [], [(0, .cs 54 [.opt 0, .row 2 1]), (2, .ds 5 1 (v bs nm kd sh ld bo qu ha le wa gu))], 3)
  | _, _, _ => none
theorem φTellLevel_ok : MSpOK Tryd.prog 19 (φTellLevel (fun bs a b c d e f g h i j => tlP bs ⟨a, b, c, d, e, f, g, h, i, j⟩) (fun bs a b c d e f g h i j => tlV bs ⟨a, b, c, d, e, f, g, h, i, j⟩)) := by
  intro fr xs h b x h1 fr1 h hb
  unfold φTellLevel at h
  split at h
  · simp only [Option.some.injEq, Prod.mk.injEq] at h
    obtain ⟨rfl, rfl, rfl, rfl⟩ := h
    exact tellLevel_spec _ ⟨_, _, _, _, _, _, _, _, _, _⟩ hb
  · cases h
end Go.Proofs.YtflpgbkdjelaaaaDoor

/- strings.Builder: what it holds. -/
namespace Go.Proofs.YtflpgbkdjelaaaaDoor
open Go Go.Proofs Go.Ua Go.Extern Go.Shelf Go.RowKit
set_option linter.unusedVariables false
set_option linter.unusedSimpArgs false

theorem len_spec (bs : List Dat) : ASpec Tryd.prog 23 [.ptr 0 0 0 2] [(0, .cs 54 [.opt 0, .row 1 1]), (1, .ds 5 1 bs)] 2 (fun y h1 fr1 => y = .d (.s (.int .i64 bs.length)) ∧ h1 = [(0, .cs 54 [.opt 0, .row 1 1]), (1, .ds 5 1 bs)] ∧ fr1 = 2) := by
  refine ASpec.enterK Tryd.func23 (by kernel_rfl) rfl (Nat.le_of_ble_eq_true rfl) fun hok cx hnt hfr => ?_
  obtain ⟨F, hF⟩ := real_ex
  refine AK.runTn hF tabOK hmix hnt [] false [] trivial (Nat.le_of_eq hfr) ?_
  conv => arg 4; cbv
  repeat' (first | with_reducible (first | refine AKt.have ?_ | refine AKt.tt ?_ | refine AKt.ff ?_ | refine AKt.yes (by assumption) ?_ | refine AKt.no (by assumption) ?_ | refine AKt.node (fun hb => ?_) (fun hb => ?_) | refine AKt.need ?_ (fun hb => ?_) | refine AKt.leaf ?_) | ((with_reducible show _ = true); assumption))
  first | refine AKp.doneM tabOK hfr (by rfl) (by rfl) ?_ ?_ | refine AKp.endM tabOK hfr (by rfl) (by rfl) ?_ ?_
  all_goals show _ = _
  · simp only [hF, f_ltI, f_leI, f_eqI, f_eqS, f_eqB, f_not, f_andB, f_orB, f_lenS, f_lenD, f_hasS, f_atS, f_hasC, f_subS, f_hasCat, f_app, f_wrap, f_add, f_sub, f_mul, f_appD, f_fits, f_hasV, f_subV, decide_eq_true_eq, decide_eq_false_iff_not, beq_iff_eq, beq_eq_false_iff_ne, Bool.and_eq_true, Bool.and_eq_false_iff, Bool.not_eq_true, Bool.not_eq_false, Bool.not_eq_eq_eq_not, Bool.not_true, Bool.not_false] at *
    rfl
  · rfl
def φBLen (u : List Dat → Int) : Nat → List AV → List (Nat × Blk) → Option (Bool × AV × List (Nat × Blk) × Nat)
  | 2, [.ptr 0 0 0 2], [(0, .cs 54 [.opt 0, .row 1 1]), (1, .ds 5 1 bs)] => some (true, .d (.s (.int .i64 (u bs))), [(0, .cs 54 [.opt 0, .row 1 1]), (1, .ds 5 1 bs)], 2)
  | _, _, _ => none
theorem φBLen_ok : MSpOK Tryd.prog 23 (φBLen (fun bs => bs.length)) := by
  intro fr xs h b x h1 fr1 h hb
  unfold φBLen at h
  split at h
  · simp only [Option.some.injEq, Prod.mk.injEq] at h
    obtain ⟨rfl, rfl, rfl, rfl⟩ := h
    exact len_spec _
  · cases h

def isBy : List Dat → Bool
  | [] => true
  | .s (.int .u8 n) :: r => decide (0 ≤ n) && (decide (n < 256) && isBy r)
  | _ => false
def unBy : List Dat → Wd
  | [] => []
  | .s (.int .u8 n) :: r => UInt8.ofNat n.toNat :: unBy r
  | _ :: r => 0 :: unBy r
theorem un_by : ∀ t : Wd, unBy (byD t) = t
  | [] => rfl
  | c :: r => by simp only [byD, List.map_cons, unBy]; rw [show unBy (r.map fun c => Dat.s (.int .u8 c.toNat)) = r from un_by r]; simp
theorem by_un : ∀ {bs : List Dat}, isBy bs = true → byD (unBy bs) = bs
  | [], _ => rfl
  | x :: r, h => by
    match x, h with
    | .s (.int .u8 n), h =>
      simp only [isBy, Bool.and_eq_true, decide_eq_true_eq] at h
      have ih := by_un h.2.2
      simp only [byD, unBy, List.map_cons] at ih ⊢
      rw [ih]
      have : ((UInt8.ofNat n.toNat).toNat : Int) = n := by
        rw [UInt8.toNat_ofNat']
        have := Nat.mod_eq_of_lt (show n.toNat < 2 ^ 8 by omega)
        omega
      rw [this]
theorem is_by : ∀ t : Wd, isBy (byD t) = true
  | [] => rfl
  | c :: r => by
    have := is_by r
    simp only [byD, List.map_cons, isBy, Bool.and_eq_true, decide_eq_true_eq] at this ⊢
    have := UInt8.toNat_lt c
    exact ⟨by omega, by omega, by assumption⟩

theorem lays169 : Lays.n169 Tryd.prog Tryd.lays156_ren := { Tryd.lays156 with }
theorem kept_drew {Y : Nat → Prop} {a w : World} (h : Kept Y a w) : Kept Y a w.drew := ⟨h.os, h.tape, h.output, h.size, h.block⟩
theorem kept_freeze {Y : Nat → Prop} {a w : World} (h : Kept Y a w) {p : Addr} (hp : Y p.block) (n : Nat) : Kept Y a (w.freeze p n) := by
  refine h.trans ?_
  unfold World.freeze
  split
  · exact .refl _ w
  · exact ⟨rfl, rfl, rfl, by simp, fun k hk hY => by
      simp only [Array.getElem?_modify]
      rw [if_neg (fun e : p.block = k => hY (by rw [← e]; exact hp))]⟩
section
variable {P : Program} {ρ : Ren}
set_option maxHeartbeats 2000000 in
set_option maxRecDepth 100000 in
theorem string_calls (L : Lays.n169 P ρ) (X : Builder.Extra P ρ) (b g cap : Nat) (p : Value) (cur : Array Value) (fz : Nat × Nat) (l : List UInt8) (w : World)
    (hbk : w.heap[b]? = some (.cells #[p, .slice (some ⟨g, 0, none⟩) l.length cap] (ρ.t 72) (0, 0))) (hg : w.heap[g]? = some (.cells cur (ρ.t 5) fz)) (hnc : l.length ≤ cap) (hcm : cap ≤ maxLen) (hcs : cur.size = cap)
    (hcell : ∀ (j : Nat) (x : UInt8), l[j]? = some x → cur[j]? = some (Value.int .u8 x.toNat)) (h0 : l ≠ []) :
    Calls P (ρ.f 169) #[.pointer (some ⟨b, 0, none⟩)] w fun e w' => e = .returned (.string ⟨l.toArray⟩) ∧ Kept (fun k => k = g) w w' := by
  have hl0 : l.length ≠ 0 := by simpa using h0
  have c1 : w.drew.cell? ⟨b, 1, none⟩ = some (.slice (some ⟨g, 0, none⟩) l.length cap) := by
    have : w.drew.heap[b]? = some (.cells #[p, .slice (some ⟨g, 0, none⟩) l.length cap] (ρ.t 72) (0, 0)) := hbk
    rw [Lib.cell_of_heap this]; rfl
  have hSD : (Builtin.unsafeSliceData_ #[(ρ.t 37)] (ρ.t 127) #[.slice (some ⟨g, 0, none⟩) l.length cap]).run P w.drew = .ok (.pointer (some ⟨g, 0, none⟩)) w.drew :=
    Lib.run_unsafeSliceData_row _ _ _ _ _ _ (by omega)
  have hg' : w.drew.heap[g]? = some (.cells cur (ρ.t 5) fz) := hg
  have hUS : (Builtin.unsafeString_ #[(ρ.t 127), (ρ.t 3)] (ρ.t 9) #[.pointer (some ⟨g, 0, none⟩), .int .i64 l.length]).run P w.drew = .ok (.string ⟨l.toArray⟩) (w.drew.freeze ⟨g, 0, none⟩ l.length) := by
    refine Lib.run_unsafeString_row w.drew (ρ.t 127) (ρ.t 3) (ρ.t 9) (ρ.t 5) L.t127 X.cellsByte g cur.size (by simp [World.shape?, hg']) l h0 (by omega) (by unfold maxLen at hcm; omega) ?_
    intro j x hx
    have hj := hcell j x hx
    have hadd : (⟨g, 0, none⟩ : Addr).add j = ⟨g, j, none⟩ := by unfold Addr.add; split <;> simp_all
    rw [hadd]
    simp [World.cell?, hg', hj]
  clear hcell hg hg'
  have mixed := L.mixed
  have t72 := L.t72; have a72 := L.a72; have z72 := L.z72; have v72 := L.v72; have u72 := run_underlying L.t72
  have t70 := L.t70; have a70 := L.a70; have z70 := L.z70; have v70 := L.v70; have u70 := run_underlying L.t70
  have t37 := L.t37; have a37 := L.a37; have z37 := L.z37; have v37 := L.v37; have u37 := run_underlying L.t37
  have t127 := L.t127; have a127 := L.a127; have z127 := L.z127; have v127 := L.v127; have u127 := run_underlying L.t127
  have t3 := L.t3; have a3 := L.a3; have z3 := L.z3; have v3 := L.v3; have u3 := run_underlying L.t3
  have t9 := L.t9; have a9 := L.a9; have z9 := L.z9; have v9 := L.v9; have u9 := run_underlying L.t9
  have t5 := X.t5; have a5 := X.a5; have z5 := X.z5; have v5 := X.v5; have u5 := run_underlying X.t5
  go_enter L.f169, Body.n169_ntmps ρ
  go_wp2
  go_region_o
  all_goals (go_wp2; go_ret; exact ⟨rfl, kept_freeze (Y := fun k => k = g) (kept_drew (Kept.refl _ w)) (p := ⟨g, 0, none⟩) rfl _⟩)
end
theorem string_spec (s : Wd) (h0 : s ≠ []) : ASpec Tryd.prog 24 [.ptr 0 0 0 2] [(0, .cs 54 [.opt 0, .row 1 1]), (1, .ds 5 1 (byD s))] 2 (fun y h1 fr1 => y = .d (.s (.str s)) ∧ h1 = [] ∧ fr1 = 2) := by
  refine ⟨enters_of Tryd.func24 (by kernel_rfl) rfl, fun X L w ι vs h1 hg h2 h3 => ?_⟩
  obtain ⟨v, rfl⟩ : ∃ v, vs = [v] := by
    match vs, h2 with
    | [v], _ => exact ⟨v, rfl⟩
  have hv := h3 0 _ v rfl rfl
  have hB := h1.hp 0 _ (show Go.Ua.look 0 ([(0, .cs 54 [.opt 0, .row 1 1]), (1, .ds 5 1 (byD s))] : List (Nat × Blk)) = some _ from rfl)
  have hC := h1.hp 1 _ (show Go.Ua.look 1 ([(0, .cs 54 [.opt 0, .row 1 1]), (1, .ds 5 1 (byD s))] : List (Nat × Blk)) = some _ from rfl)
  have hsl : (byD s).length = s.length := byD_length s
  have hs0 : s.length ≠ 0 := by simpa using h0
  cases hv with
  | ptr _ _ _ _ b c l hi =>
  cases hB with
  | cs _ _ b' cap l' cur hi' hb hl hone hr =>
  rw [hi] at hi'
  cases hi'
  obtain ⟨c0, c1, rfl⟩ : ∃ c0 c1, cur = [c0, c1] := by
    match cur, hl with
    | [c0, c1], _ => exact ⟨c0, c1, rfl⟩
  have r1 := hr 1 _ c1 rfl rfl
  generalize hbs : byD s = bs at hC hsl
  cases hC with
  | ds0 E k hi1 hk0 => simp at hsl; omega
  | ds E k es g cap2 cu hi1 hrow hcl hce hcm hk0 hk hone2 hrep =>
  obtain ⟨fz, hgc, hfz⟩ := hrow
  obtain rfl : c1 = .slice (some ⟨g, 0, none⟩) s.length cap2 := by
    cases r1 with
    | row _ _ b3 cap3 l3 hi3 => rw [hi1] at hi3; cases hi3; rw [hsl]
    | row0 _ _ a hi3 => rw [hi1] at hi3; cases hi3
  show Calls Tryd.prog 24 #[.pointer (some ⟨b, 0 * 2 + 0, none⟩)] w _
  rw [show 0 * 2 + 0 = 0 from rfl]
  refine Calls.mono (string_calls lays169 Tryd.Builder_Extra_156 b g cap2 c0 cu.toArray fz s w hb hgc (by omega) hcm (by simpa using hcl) ?_ h0) ?_
  · intro j x hx
    have hj : bs[j]? = some (.s (.int .u8 x.toNat)) := by rw [← hbs, byD, List.getElem?_map, hx]; rfl
    have hjl : j < cu.length := by
      have := (List.getElem?_eq_some_iff.1 hx).1
      omega
    have hcu : cu[j]? = some cu[j] := List.getElem?_eq_getElem hjl
    have := hrep j _ 0 _ cu[j] hj rfl (by simp)
    have e := rep_s (ι := ι) (.d _ _ this)
    simp only [List.getElem?_toArray]
    rw [hcu, e]
    rfl
  · rintro e w' ⟨rfl, hkept⟩
    refine ⟨_, _, [], 2, ι, rfl, ⟨rfl, rfl, rfl⟩, .d _ _ (.s (.str s) ?_), ?_⟩
    · show s.length ≤ maxLen
      omega
    · refine h1.step (ι' := ι) (Y := fun k => k = g) (fun _ _ h => h) (fun k hk hbad => ⟨hkept.block k hk (fun e => hbad (.inr ⟨1, cap2, bs.length, rfl, by rw [e]; exact hi1⟩)), ?_⟩) (fun n B hn => by simp [Go.Ua.look] at hn) (fun n m b c l c' l' hn => by simp [Go.Ua.look] at hn) (fun n b c l hn => by simp [Go.Ua.look] at hn) h1.fresh hkept (fun n hn => ?_)
      · rintro (hL | ⟨n, c, l, hn, _⟩)
        · exact hbad (.inl hL)
        · simp [Go.Ua.look] at hn
      · rw [hn]
        exact (h1.out 1 g cap2 _ rfl hi1).2
def strP (bs : List Dat) : Bool := isBy bs && decide (0 < bs.length)
theorem stringD_spec (bs : List Dat) (h : strP bs = true) : ASpec Tryd.prog 24 [.ptr 0 0 0 2] [(0, .cs 54 [.opt 0, .row 1 1]), (1, .ds 5 1 bs)] 2 (fun y h1 fr1 => y = .d (.s (.str (unBy bs))) ∧ h1 = [] ∧ fr1 = 2) := by
  simp only [strP, Bool.and_eq_true, decide_eq_true_eq] at h
  have e := by_un h.1
  have := string_spec (unBy bs) (fun e2 => by rw [e2] at e; rw [← e] at h; simp [byD] at h)
  rwa [e] at this
def φBString (p : List Dat → Bool) (u : List Dat → Wd) : Nat → List AV → List (Nat × Blk) → Option (Bool × AV × List (Nat × Blk) × Nat)
  | 2, [.ptr 0 0 0 2], [(0, .cs 54 [.opt 0, .row 1 1]), (1, .ds 5 1 bs)] => some (p bs, .d (.s (.str (u bs))), [], 2)
  | _, _, _ => none
theorem φBString_ok : MSpOK Tryd.prog 24 (φBString (strP) (unBy)) := by
  intro fr xs h b x h1 fr1 h hb
  unfold φBString at h
  split at h
  · simp only [Option.some.injEq, Prod.mk.injEq] at h
    obtain ⟨rfl, rfl, rfl, rfl⟩ := h
    exact stringD_spec _ hb
  · cases h
end Go.Proofs.YtflpgbkdjelaaaaDoor

/- Configurations that are small enough for a look. -/
namespace Go.Proofs.YtflpgbkdjelaaaaDoor
open Go Go.Proofs Go.Ua Go.Extern
set_option linter.unusedVariables false
set_option linter.unusedSimpArgs false
set_option maxRecDepth 10000

def lstB (l : List Wd) : Bool := decide (l.length ≤ 40) && l.all fun w => decide (w.length ≤ 1000)
def lstN (l : List Wd) : Nat := (l.map fun w => w.length + 1).sum
def rlLs (r : Rl) : List (List Wd) := [r.us, r.gs, r.vs, r.rs, r.ps]
def rlB (r : Rl) : Bool := (rlLs r).all lstB
def rlN (r : Rl) : Nat := ((rlLs r).map lstN).sum
def smB (s : Sm) : Bool := decide (s.rl.length ≤ 40) && (decide (s.nm.length ≤ 1000) && (decide (s.lv.length ≤ 1000) && s.rl.all rlB))
def smN (s : Sm) : Nat := (s.rl.map rlN).sum
def smallF (c : Cf) : Bool := decide (c.ls.length ≤ 40) && (decide (c.ss.length ≤ 80) && (c.ls.all (fun l => decide (l.nm.length ≤ 1000)) && (c.ss.all smB && decide ((c.ss.map smN).sum ≤ 200000))))

def isCf0 (ls ss : List Dat) : Bool := isLv ls && isSm ss
end Go.Proofs.YtflpgbkdjelaaaaDoor

/- A line's numbers, as the document tells them. -/
namespace Go.Proofs.YtflpgbkdjelaaaaDoor
open Go Go.Proofs Go.Ua Go.Extern
set_option linter.unusedVariables false
set_option linter.unusedSimpArgs false
set_option maxRecDepth 10000

end Go.Proofs.YtflpgbkdjelaaaaDoor

