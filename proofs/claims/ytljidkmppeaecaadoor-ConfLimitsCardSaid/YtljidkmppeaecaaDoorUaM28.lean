/- The library of this claim and its walks, part 28, joined out of smaller texts. No statement stands in it. -/
import Derived.Test.YtljidkmppeaecaaDoorUaM25
import Derived.Test.YtljidkmppeaecaaDoorUaM27
/- conf: a reader's small steps. -/
namespace Go.Proofs.YtljidkmppeaecaaDoor
open Go Go.Proofs Go.Ua Go.Extern
set_option linter.unusedVariables false
set_option linter.unusedSimpArgs false

theorem wrap_inc {F : Fam} (hF : F = Fam.real) {a : Int} (h0 : 0 ≤ a) (h1 : a < 9223372036854775807) : F .wrap .i64 (F .add a 1) = a + 1 := by
  have := inc_i hF (iv := a) (i := a.toNat) (by omega) (by omega)
  rw [this]
  omega
def failV (e n : Int) : Int := if e = 0 then n else e
def nxP (es : List Dat) (av : Int) : Bool := isStrs es && (decide (0 ≤ av) && (decide (av + 1 < es.length) && decide (es.length ≤ 1000000)))
def nxV (es : List Dat) (av : Int) : Wd := wAt (unStr es) (av + 1).toNat

theorem rdfail_spec (tt pe pr mo : Int) (es : List Dat) (av lf : Int) (ld : List Dat) (m : Nat) (sd : List Dat) (nm lv : Wd) (rk bb : Int) (rd : List Dat) (n : Int) : ASpec Tryd.prog 37 [.ptr 0 0 0 9, .d (.s (.int .i64 n))] [(0, .cs 59 [.d (.s (.int .i64 tt)), .d (.s (.int .i64 pe)), .d (.s (.int .i64 pr)), .d (.s (.int .i64 mo)), .row 1 10, .row 2 5, .d (.view 1 es),  .d (.s (.int .i64 av)), .d (.s (.int .i64 lf)) ]), (1, .ds 34 10 ld), (2, .xs 37 5 m sd [.d (.s (.str nm)), .d (.s (.str lv)), .d (.s (.int .i64 rk)), .d (.s (.int .i64 bb)), .row 3 5]), (3, .ds 40 5 rd)] 4 (fun y h1 fr1 => y = .tup [] ∧ h1 = [(0, .cs 59 [.d (.s (.int .i64 tt)), .d (.s (.int .i64 pe)), .d (.s (.int .i64 pr)), .d (.s (.int .i64 mo)), .row 1 10, .row 2 5, .d (.view 1 es),  .d (.s (.int .i64 av)), .d (.s (.int .i64 (failV lf n))) ]), (1, .ds 34 10 ld), (2, .xs 37 5 m sd [.d (.s (.str nm)), .d (.s (.str lv)), .d (.s (.int .i64 rk)), .d (.s (.int .i64 bb)), .row 3 5]), (3, .ds 40 5 rd)] ∧ fr1 = 4) := by
  refine ASpec.enterK Tryd.func37 (by kernel_rfl) rfl (Nat.le_of_ble_eq_true rfl) fun hok cx hnt hfr => ?_
  obtain ⟨F, hF⟩ := real_ex
  refine AK.runTn hF tabOK hmix hnt [] false [] trivial (Nat.le_of_eq hfr) ?_
  conv => arg 4; cbv
  repeat' (first | with_reducible (first | refine AKt.have ?_ | refine AKt.tt ?_ | refine AKt.ff ?_ | refine AKt.yes (by assumption) ?_ | refine AKt.no (by assumption) ?_ | refine AKt.node (fun hb => ?_) (fun hb => ?_) | refine AKt.need ?_ (fun hb => ?_) | refine AKt.leaf ?_) | ((with_reducible show _ = true); assumption))
  all_goals
    first | refine AKp.doneM tabOK hfr (by rfl) (by rfl) ?_ ?_ | refine AKp.endM tabOK hfr (by rfl) (by rfl) ?_ ?_
    all_goals show _ = _
    · rfl
    · simp only [hF, f_ltI, f_leI, f_eqI, f_eqS, f_eqB, f_not, f_andB, f_orB, f_lenS, f_lenD, f_hasS, f_atS, f_hasC, f_subS, f_hasCat, f_app, f_wrap, f_add, f_sub, f_mul, f_appD, f_fits, f_hasV, f_subV, decide_eq_true_eq, decide_eq_false_iff_not, beq_iff_eq, beq_eq_false_iff_ne, Bool.and_eq_true, Bool.and_eq_false_iff, Bool.not_eq_true, Bool.not_eq_false, Bool.not_eq_eq_eq_not, Bool.not_true, Bool.not_false] at *
      simp [failV, *]
def φRdFail (u : Int → Int → Int) : Nat → List AV → List (Nat × Blk) → Option (Bool × AV × List (Nat × Blk) × Nat)
  | 4, [.ptr 0 0 0 9, .d (.s (.int .i64 n))], [(0, .cs 59 [.d (.s (.int .i64 tt)), .d (.s (.int .i64 pe)), .d (.s (.int .i64 pr)), .d (.s (.int .i64 mo)), .row 1 10, .row 2 5, .d (.view 1 es),  .d (.s (.int .i64 av)), .d (.s (.int .i64 lf)) ]), (1, .ds 34 10 ld), (2, .xs 37 5 m sd [.d (.s (.str nm)), .d (.s (.str lv)), .d (.s (.int .i64 rk)), .d (.s (.int .i64 bb)), .row 3 5]), (3, .ds 40 5 rd)] => some (true, .tup [], [(0, .cs 59 [.d (.s (.int .i64 tt)), .d (.s (.int .i64 pe)), .d (.s (.int .i64 pr)), .d (.s (.int .i64 mo)), .row 1 10, .row 2 5, .d (.view 1 es),  .d (.s (.int .i64 av)), .d (.s (.int .i64 (u lf n))) ]), (1, .ds 34 10 ld), (2, .xs 37 5 m sd [.d (.s (.str nm)), .d (.s (.str lv)), .d (.s (.int .i64 rk)), .d (.s (.int .i64 bb)), .row 3 5]), (3, .ds 40 5 rd)], 4)
  | _, _, _ => none
theorem φRdFail_ok : MSpOK Tryd.prog 37 (φRdFail (failV)) := by
  intro fr xs h b x h1 fr1 h hb
  unfold φRdFail at h
  split at h
  · simp only [Option.some.injEq, Prod.mk.injEq] at h
    obtain ⟨rfl, rfl, rfl, rfl⟩ := h
    exact rdfail_spec _ _ _ _ _ _ _ _ _ _ _ _ _ _ _ _
  · cases h

theorem rdnext_spec (tt pe pr mo : Int) (es : List Dat) (av lf : Int) (ld : List Dat) (m : Nat) (sd : List Dat) (nm lv : Wd) (rk bb : Int) (rd : List Dat) (h : nxP es av = true) : ASpec Tryd.prog 49 [.ptr 0 0 0 9] [(0, .cs 59 [.d (.s (.int .i64 tt)), .d (.s (.int .i64 pe)), .d (.s (.int .i64 pr)), .d (.s (.int .i64 mo)), .row 1 10, .row 2 5, .d (.view 1 es),  .d (.s (.int .i64 av)), .d (.s (.int .i64 lf)) ]), (1, .ds 34 10 ld), (2, .xs 37 5 m sd [.d (.s (.str nm)), .d (.s (.str lv)), .d (.s (.int .i64 rk)), .d (.s (.int .i64 bb)), .row 3 5]), (3, .ds 40 5 rd)] 4 (fun y h1 fr1 => y = .d (.s (.str (nxV es av))) ∧ h1 = [(0, .cs 59 [.d (.s (.int .i64 tt)), .d (.s (.int .i64 pe)), .d (.s (.int .i64 pr)), .d (.s (.int .i64 mo)), .row 1 10, .row 2 5, .d (.view 1 es),  .d (.s (.int .i64 (av + 1))), .d (.s (.int .i64 lf)) ]), (1, .ds 34 10 ld), (2, .xs 37 5 m sd [.d (.s (.str nm)), .d (.s (.str lv)), .d (.s (.int .i64 rk)), .d (.s (.int .i64 bb)), .row 3 5]), (3, .ds 40 5 rd)] ∧ fr1 = 4) := by
  simp only [nxP, Bool.and_eq_true, decide_eq_true_eq] at h
  obtain ⟨h1, h2, h3, h4⟩ := h
  have hsd := strDs_unStr h1
  have hl : (av + 1).toNat < (unStr es).length := by rw [← strDs_length, hsd]; omega
  obtain ⟨i, hi⟩ : ∃ i : Int, i = av + 1 := ⟨_, rfl⟩
  rw [nxV, ← hi]
  rw [← hi] at hl
  refine ASpec.enterK Tryd.func49 (by kernel_rfl) rfl (Nat.le_of_ble_eq_true rfl) fun hok cx hnt hfr => ?_
  obtain ⟨F, hF⟩ := real_ex
  refine AK.runTn hF tabOK hmix hnt [] false [] trivial (Nat.le_of_eq hfr) ?_
  conv => arg 4; cbv
  have e1 : F .wrap .i64 (F .add av 1) = i := by rw [hi]; exact wrap_inc hF h2 (by omega)
  rw [e1]
  have k0 : F .hasD es i [.str] = true := by rw [← hsd]; exact (show i = (i.toNat : Int) by omega) ▸ t_hasG hF hl
  have s0 : F .strA es i 0 = wAt (unStr es) i.toNat := by
    conv => lhs; rw [← hsd, show i = (i.toNat : Int) by omega]
    exact t_strG hF _ _
  rw [s0]
  repeat' (first | with_reducible (first | refine AKt.have ?_ | refine AKt.tt ?_ | refine AKt.ff ?_ | refine AKt.yes (by assumption) ?_ | refine AKt.no (by assumption) ?_ | refine AKt.node (fun hb => ?_) (fun hb => ?_) | refine AKt.need ?_ (fun hb => ?_) | refine AKt.leaf ?_) | ((with_reducible show _ = true); assumption))
  first | refine AKp.doneM tabOK hfr (by rfl) (by rfl) ?_ ?_ | refine AKp.endM tabOK hfr (by rfl) (by rfl) ?_ ?_
  all_goals show _ = _
  · rfl
  · rfl
def φRdNext (p : List Dat → Int → Bool) (u : List Dat → Int → Wd) (v : Int → Int) : Nat → List AV → List (Nat × Blk) → Option (Bool × AV × List (Nat × Blk) × Nat)
  | 4, [.ptr 0 0 0 9], [(0, .cs 59 [.d (.s (.int .i64 tt)), .d (.s (.int .i64 pe)), .d (.s (.int .i64 pr)), .d (.s (.int .i64 mo)), .row 1 10, .row 2 5, .d (.view 1 es),  .d (.s (.int .i64 av)), .d (.s (.int .i64 lf)) ]), (1, .ds 34 10 ld), (2, .xs 37 5 m sd [.d (.s (.str nm)), .d (.s (.str lv)), .d (.s (.int .i64 rk)), .d (.s (.int .i64 bb)), .row 3 5]), (3, .ds 40 5 rd)] => some (p es av, .d (.s (.str (u es av))), [(0, .cs 59 [.d (.s (.int .i64 tt)), .d (.s (.int .i64 pe)), .d (.s (.int .i64 pr)), .d (.s (.int .i64 mo)), .row 1 10, .row 2 5, .d (.view 1 es),  .d (.s (.int .i64 (v av))), .d (.s (.int .i64 lf)) ]), (1, .ds 34 10 ld), (2, .xs 37 5 m sd [.d (.s (.str nm)), .d (.s (.str lv)), .d (.s (.int .i64 rk)), .d (.s (.int .i64 bb)), .row 3 5]), (3, .ds 40 5 rd)], 4)
  | _, _, _ => none
theorem φRdNext_ok : MSpOK Tryd.prog 49 (φRdNext (nxP) (nxV) (fun a => a + 1)) := by
  intro fr xs h b x h1 fr1 h hb
  unfold φRdNext at h
  split at h
  · simp only [Option.some.injEq, Prod.mk.injEq] at h
    obtain ⟨rfl, rfl, rfl, rfl⟩ := h
    exact rdnext_spec _ _ _ _ _ _ _ _ _ _ _ _ _ _ _ hb
  · cases h

def rnE (es : List Dat) (av lf a b : Int) : Int := if numB (nxV es av) a b = true then lf else failV lf 8
theorem rdnumber_spec (tt pe pr mo : Int) (es : List Dat) (av lf : Int) (ld : List Dat) (m : Nat) (sd : List Dat) (nm lv : Wd) (rk bb : Int) (rd : List Dat) (a b : Int) (h : nxP es av = true) : ASpec Tryd.prog 33 [.ptr 0 0 0 9, .d (.s (.int .i64 a)), .d (.s (.int .i64 b))] [(0, .cs 59 [.d (.s (.int .i64 tt)), .d (.s (.int .i64 pe)), .d (.s (.int .i64 pr)), .d (.s (.int .i64 mo)), .row 1 10, .row 2 5, .d (.view 1 es),  .d (.s (.int .i64 av)), .d (.s (.int .i64 lf)) ]), (1, .ds 34 10 ld), (2, .xs 37 5 m sd [.d (.s (.str nm)), .d (.s (.str lv)), .d (.s (.int .i64 rk)), .d (.s (.int .i64 bb)), .row 3 5]), (3, .ds 40 5 rd)] 4 (fun y h1 fr1 => y = .d (.s (.int .i64 (numV (nxV es av) a b))) ∧ h1 = [(0, .cs 59 [.d (.s (.int .i64 tt)), .d (.s (.int .i64 pe)), .d (.s (.int .i64 pr)), .d (.s (.int .i64 mo)), .row 1 10, .row 2 5, .d (.view 1 es),  .d (.s (.int .i64 (av + 1))), .d (.s (.int .i64 (rnE es av lf a b))) ]), (1, .ds 34 10 ld), (2, .xs 37 5 m sd [.d (.s (.str nm)), .d (.s (.str lv)), .d (.s (.int .i64 rk)), .d (.s (.int .i64 bb)), .row 3 5]), (3, .ds 40 5 rd)] ∧ fr1 = 4) := by
  obtain ⟨uRdFail, huRdFail⟩ : ∃ u : Int → Int → Int, u = failV := ⟨_, rfl⟩
  obtain ⟨uRdNext, huRdNext⟩ : ∃ u : List Dat → Int → Bool, u = nxP := ⟨_, rfl⟩
  obtain ⟨uRdNext1, huRdNext1⟩ : ∃ u : List Dat → Int → Wd, u = nxV := ⟨_, rfl⟩
  obtain ⟨uRdNext2, huRdNext2⟩ : ∃ u : Int → Int, u = fun a => a + 1 := ⟨_, rfl⟩
  obtain ⟨uNumber, huNumber⟩ : ∃ u : List UInt8 → Int → Int → Int, u = numV := ⟨_, rfl⟩
  obtain ⟨uNumber1, huNumber1⟩ : ∃ u : List UInt8 → Int → Int → Bool, u = numB := ⟨_, rfl⟩
  have hG : TblOK Tryd.prog [(37, .m (φRdFail uRdFail)), (49, .m (φRdNext uRdNext uRdNext1 uRdNext2)), (48, .p (φNumber uNumber uNumber1))] := ⟨(by rw [huRdFail]; exact φRdFail_ok), (by rw [huRdNext, huRdNext1, huRdNext2]; exact φRdNext_ok), (by rw [huNumber, huNumber1]; exact φNumber_ok), trivial⟩
  have q : uRdNext es av = true := by rw [huRdNext]; exact h
  refine ASpec.enterK Tryd.func33 (by kernel_rfl) rfl (Nat.le_of_ble_eq_true rfl) fun hok cx hnt hfr => ?_
  obtain ⟨F, hF⟩ := real_ex
  refine AK.runTn hF tabOK hmix hnt [] false _ hG (Nat.le_of_eq hfr) ?_
  conv => arg 4; cbv
  repeat' (first | with_reducible (first | refine AKt.have ?_ | refine AKt.tt ?_ | refine AKt.ff ?_ | refine AKt.yes (by assumption) ?_ | refine AKt.no (by assumption) ?_ | refine AKt.node (fun hb => ?_) (fun hb => ?_) | refine AKt.need ?_ (fun hb => ?_) | refine AKt.leaf ?_) | ((with_reducible show _ = true); assumption))
  all_goals
    first | refine AKp.doneM tabOK hfr (by rfl) (by rfl) ?_ ?_ | refine AKp.endM tabOK hfr (by rfl) (by rfl) ?_ ?_
    all_goals show _ = _
    · subst huRdFail huRdNext huRdNext1 huRdNext2 huNumber huNumber1
      rfl
    · subst huRdFail huRdNext huRdNext1 huRdNext2 huNumber huNumber1
      simp only [hF, f_ltI, f_leI, f_eqI, f_eqS, f_eqB, f_not, f_andB, f_orB, f_lenS, f_lenD, f_hasS, f_atS, f_hasC, f_subS, f_hasCat, f_app, f_wrap, f_add, f_sub, f_mul, f_appD, f_fits, f_hasV, f_subV, decide_eq_true_eq, decide_eq_false_iff_not, beq_iff_eq, beq_eq_false_iff_ne, Bool.and_eq_true, Bool.and_eq_false_iff, Bool.not_eq_true, Bool.not_eq_false, Bool.not_eq_eq_eq_not, Bool.not_true, Bool.not_false] at *
      simp [rnE, *]
def φRdNumber (p : List Dat → Int → Bool) (u : List Dat → Int → Int → Int → Int) (v : Int → Int) (w : List Dat → Int → Int → Int → Int → Int) : Nat → List AV → List (Nat × Blk) → Option (Bool × AV × List (Nat × Blk) × Nat)
  | 4, [.ptr 0 0 0 9, .d (.s (.int .i64 a)), .d (.s (.int .i64 b))], [(0, .cs 59 [.d (.s (.int .i64 tt)), .d (.s (.int .i64 pe)), .d (.s (.int .i64 pr)), .d (.s (.int .i64 mo)), .row 1 10, .row 2 5, .d (.view 1 es),  .d (.s (.int .i64 av)), .d (.s (.int .i64 lf)) ]), (1, .ds 34 10 ld), (2, .xs 37 5 m sd [.d (.s (.str nm)), .d (.s (.str lv)), .d (.s (.int .i64 rk)), .d (.s (.int .i64 bb)), .row 3 5]), (3, .ds 40 5 rd)] => some (p es av, .d (.s (.int .i64 (u es av a b))), [(0, .cs 59 [.d (.s (.int .i64 tt)), .d (.s (.int .i64 pe)), .d (.s (.int .i64 pr)), .d (.s (.int .i64 mo)), .row 1 10, .row 2 5, .d (.view 1 es),  .d (.s (.int .i64 (v av))), .d (.s (.int .i64 (w es av lf a b))) ]), (1, .ds 34 10 ld), (2, .xs 37 5 m sd [.d (.s (.str nm)), .d (.s (.str lv)), .d (.s (.int .i64 rk)), .d (.s (.int .i64 bb)), .row 3 5]), (3, .ds 40 5 rd)], 4)
  | _, _, _ => none
theorem φRdNumber_ok : MSpOK Tryd.prog 33 (φRdNumber (nxP) (fun es av a b => numV (nxV es av) a b) (fun a => a + 1) (rnE)) := by
  intro fr xs h b x h1 fr1 h hb
  unfold φRdNumber at h
  split at h
  · simp only [Option.some.injEq, Prod.mk.injEq] at h
    obtain ⟨rfl, rfl, rfl, rfl⟩ := h
    exact rdnumber_spec _ _ _ _ _ _ _ _ _ _ _ _ _ _ _ _ _ hb
  · cases h

def rnmE (es : List Dat) (av lf : Int) : Int := if nameF (nxV es av) = true then lf else failV lf 4
theorem rdname_spec (tt pe pr mo : Int) (es : List Dat) (av lf : Int) (ld : List Dat) (m : Nat) (sd : List Dat) (nm lv : Wd) (rk bb : Int) (rd : List Dat) (h : nxP es av = true) : ASpec Tryd.prog 51 [.ptr 0 0 0 9] [(0, .cs 59 [.d (.s (.int .i64 tt)), .d (.s (.int .i64 pe)), .d (.s (.int .i64 pr)), .d (.s (.int .i64 mo)), .row 1 10, .row 2 5, .d (.view 1 es),  .d (.s (.int .i64 av)), .d (.s (.int .i64 lf)) ]), (1, .ds 34 10 ld), (2, .xs 37 5 m sd [.d (.s (.str nm)), .d (.s (.str lv)), .d (.s (.int .i64 rk)), .d (.s (.int .i64 bb)), .row 3 5]), (3, .ds 40 5 rd)] 4 (fun y h1 fr1 => y = .d (.s (.str (nxV es av))) ∧ h1 = [(0, .cs 59 [.d (.s (.int .i64 tt)), .d (.s (.int .i64 pe)), .d (.s (.int .i64 pr)), .d (.s (.int .i64 mo)), .row 1 10, .row 2 5, .d (.view 1 es),  .d (.s (.int .i64 (av + 1))), .d (.s (.int .i64 (rnmE es av lf))) ]), (1, .ds 34 10 ld), (2, .xs 37 5 m sd [.d (.s (.str nm)), .d (.s (.str lv)), .d (.s (.int .i64 rk)), .d (.s (.int .i64 bb)), .row 3 5]), (3, .ds 40 5 rd)] ∧ fr1 = 4) := by
  obtain ⟨uRdFail, huRdFail⟩ : ∃ u : Int → Int → Int, u = failV := ⟨_, rfl⟩
  obtain ⟨uRdNext, huRdNext⟩ : ∃ u : List Dat → Int → Bool, u = nxP := ⟨_, rfl⟩
  obtain ⟨uRdNext1, huRdNext1⟩ : ∃ u : List Dat → Int → Wd, u = nxV := ⟨_, rfl⟩
  obtain ⟨uRdNext2, huRdNext2⟩ : ∃ u : Int → Int, u = fun a => a + 1 := ⟨_, rfl⟩
  obtain ⟨uName, huName⟩ : ∃ u : List UInt8 → Bool, u = nameF := ⟨_, rfl⟩
  have hG : TblOK Tryd.prog [(37, .m (φRdFail uRdFail)), (49, .m (φRdNext uRdNext uRdNext1 uRdNext2)), (63, .p (φName uName))] := ⟨(by rw [huRdFail]; exact φRdFail_ok), (by rw [huRdNext, huRdNext1, huRdNext2]; exact φRdNext_ok), (by rw [huName]; exact φName_ok), trivial⟩
  have q : uRdNext es av = true := by rw [huRdNext]; exact h
  refine ASpec.enterK Tryd.func51 (by kernel_rfl) rfl (Nat.le_of_ble_eq_true rfl) fun hok cx hnt hfr => ?_
  obtain ⟨F, hF⟩ := real_ex
  refine AK.runTn hF tabOK hmix hnt [] false _ hG (Nat.le_of_eq hfr) ?_
  conv => arg 4; cbv
  repeat' (first | with_reducible (first | refine AKt.have ?_ | refine AKt.tt ?_ | refine AKt.ff ?_ | refine AKt.yes (by assumption) ?_ | refine AKt.no (by assumption) ?_ | refine AKt.node (fun hb => ?_) (fun hb => ?_) | refine AKt.need ?_ (fun hb => ?_) | refine AKt.leaf ?_) | ((with_reducible show _ = true); assumption))
  all_goals
    first | refine AKp.doneM tabOK hfr (by rfl) (by rfl) ?_ ?_ | refine AKp.endM tabOK hfr (by rfl) (by rfl) ?_ ?_
    all_goals show _ = _
    · subst huRdFail huRdNext huRdNext1 huRdNext2 huName
      rfl
    · subst huRdFail huRdNext huRdNext1 huRdNext2 huName
      simp only [hF, f_ltI, f_leI, f_eqI, f_eqS, f_eqB, f_not, f_andB, f_orB, f_lenS, f_lenD, f_hasS, f_atS, f_hasC, f_subS, f_hasCat, f_app, f_wrap, f_add, f_sub, f_mul, f_appD, f_fits, f_hasV, f_subV, decide_eq_true_eq, decide_eq_false_iff_not, beq_iff_eq, beq_eq_false_iff_ne, Bool.and_eq_true, Bool.and_eq_false_iff, Bool.not_eq_true, Bool.not_eq_false, Bool.not_eq_eq_eq_not, Bool.not_true, Bool.not_false] at *
      simp [rnmE, *]
def φRdName (p : List Dat → Int → Bool) (u : List Dat → Int → Wd) (v : Int → Int) (w : List Dat → Int → Int → Int) : Nat → List AV → List (Nat × Blk) → Option (Bool × AV × List (Nat × Blk) × Nat)
  | 4, [.ptr 0 0 0 9], [(0, .cs 59 [.d (.s (.int .i64 tt)), .d (.s (.int .i64 pe)), .d (.s (.int .i64 pr)), .d (.s (.int .i64 mo)), .row 1 10, .row 2 5, .d (.view 1 es),  .d (.s (.int .i64 av)), .d (.s (.int .i64 lf)) ]), (1, .ds 34 10 ld), (2, .xs 37 5 m sd [.d (.s (.str nm)), .d (.s (.str lv)), .d (.s (.int .i64 rk)), .d (.s (.int .i64 bb)), .row 3 5]), (3, .ds 40 5 rd)] => some (p es av, .d (.s (.str (u es av))), [(0, .cs 59 [.d (.s (.int .i64 tt)), .d (.s (.int .i64 pe)), .d (.s (.int .i64 pr)), .d (.s (.int .i64 mo)), .row 1 10, .row 2 5, .d (.view 1 es),  .d (.s (.int .i64 (v av))), .d (.s (.int .i64 (w es av lf))) ]), (1, .ds 34 10 ld), (2, .xs 37 5 m sd [.d (.s (.str nm)), .d (.s (.str lv)), .d (.s (.int .i64 rk)), .d (.s (.int .i64 bb)), .row 3 5]), (3, .ds 40 5 rd)], 4)
  | _, _, _ => none
theorem φRdName_ok : MSpOK Tryd.prog 51 (φRdName (nxP) (nxV) (fun a => a + 1) (rnmE)) := by
  intro fr xs h b x h1 fr1 h hb
  unfold φRdName at h
  split at h
  · simp only [Option.some.injEq, Prod.mk.injEq] at h
    obtain ⟨rfl, rfl, rfl, rfl⟩ := h
    exact rdname_spec _ _ _ _ _ _ _ _ _ _ _ _ _ _ _ hb
  · cases h

def rlE (es : List Dat) (av lf : Int) : Int := if listB (nxV es av) = true then lf else failV lf 2
theorem rdlist_spec (tt pe pr mo : Int) (es : List Dat) (av lf : Int) (ld : List Dat) (m : Nat) (sd : List Dat) (nm lv : Wd) (rk bb : Int) (rd : List Dat) (h : nxP es av = true) : ASpec Tryd.prog 53 [.ptr 0 0 0 9] [(0, .cs 59 [.d (.s (.int .i64 tt)), .d (.s (.int .i64 pe)), .d (.s (.int .i64 pr)), .d (.s (.int .i64 mo)), .row 1 10, .row 2 5, .d (.view 1 es),  .d (.s (.int .i64 av)), .d (.s (.int .i64 lf)) ]), (1, .ds 34 10 ld), (2, .xs 37 5 m sd [.d (.s (.str nm)), .d (.s (.str lv)), .d (.s (.int .i64 rk)), .d (.s (.int .i64 bb)), .row 3 5]), (3, .ds 40 5 rd)] 4 (fun y h1 fr1 => y = .d (.view 1 (listV (nxV es av))) ∧ h1 = [(0, .cs 59 [.d (.s (.int .i64 tt)), .d (.s (.int .i64 pe)), .d (.s (.int .i64 pr)), .d (.s (.int .i64 mo)), .row 1 10, .row 2 5, .d (.view 1 es),  .d (.s (.int .i64 (av + 1))), .d (.s (.int .i64 (rlE es av lf))) ]), (1, .ds 34 10 ld), (2, .xs 37 5 m sd [.d (.s (.str nm)), .d (.s (.str lv)), .d (.s (.int .i64 rk)), .d (.s (.int .i64 bb)), .row 3 5]), (3, .ds 40 5 rd)] ∧ fr1 = 4) := by
  obtain ⟨uRdFail, huRdFail⟩ : ∃ u : Int → Int → Int, u = failV := ⟨_, rfl⟩
  obtain ⟨uRdNext, huRdNext⟩ : ∃ u : List Dat → Int → Bool, u = nxP := ⟨_, rfl⟩
  obtain ⟨uRdNext1, huRdNext1⟩ : ∃ u : List Dat → Int → Wd, u = nxV := ⟨_, rfl⟩
  obtain ⟨uRdNext2, huRdNext2⟩ : ∃ u : Int → Int, u = fun a => a + 1 := ⟨_, rfl⟩
  obtain ⟨uList, huList⟩ : ∃ u : List UInt8 → List Dat, u = listV := ⟨_, rfl⟩
  obtain ⟨uList1, huList1⟩ : ∃ u : List UInt8 → Bool, u = listB := ⟨_, rfl⟩
  have hG : TblOK Tryd.prog [(37, .m (φRdFail uRdFail)), (49, .m (φRdNext uRdNext uRdNext1 uRdNext2)), (64, .p (φList uList uList1))] := ⟨(by rw [huRdFail]; exact φRdFail_ok), (by rw [huRdNext, huRdNext1, huRdNext2]; exact φRdNext_ok), (by rw [huList, huList1]; exact φList_ok), trivial⟩
  have q : uRdNext es av = true := by rw [huRdNext]; exact h
  refine ASpec.enterK Tryd.func53 (by kernel_rfl) rfl (Nat.le_of_ble_eq_true rfl) fun hok cx hnt hfr => ?_
  obtain ⟨F, hF⟩ := real_ex
  refine AK.runTn hF tabOK hmix hnt [] false _ hG (Nat.le_of_eq hfr) ?_
  conv => arg 4; cbv
  repeat' (first | with_reducible (first | refine AKt.have ?_ | refine AKt.tt ?_ | refine AKt.ff ?_ | refine AKt.yes (by assumption) ?_ | refine AKt.no (by assumption) ?_ | refine AKt.node (fun hb => ?_) (fun hb => ?_) | refine AKt.need ?_ (fun hb => ?_) | refine AKt.leaf ?_) | ((with_reducible show _ = true); assumption))
  all_goals
    first | refine AKp.doneM tabOK hfr (by rfl) (by rfl) ?_ ?_ | refine AKp.endM tabOK hfr (by rfl) (by rfl) ?_ ?_
    all_goals show _ = _
    · subst huRdFail huRdNext huRdNext1 huRdNext2 huList huList1
      rfl
    · subst huRdFail huRdNext huRdNext1 huRdNext2 huList huList1
      simp only [hF, f_ltI, f_leI, f_eqI, f_eqS, f_eqB, f_not, f_andB, f_orB, f_lenS, f_lenD, f_hasS, f_atS, f_hasC, f_subS, f_hasCat, f_app, f_wrap, f_add, f_sub, f_mul, f_appD, f_fits, f_hasV, f_subV, decide_eq_true_eq, decide_eq_false_iff_not, beq_iff_eq, beq_eq_false_iff_ne, Bool.and_eq_true, Bool.and_eq_false_iff, Bool.not_eq_true, Bool.not_eq_false, Bool.not_eq_eq_eq_not, Bool.not_true, Bool.not_false] at *
      simp [rlE, *]
def φRdList (p : List Dat → Int → Bool) (u : List Dat → Int → List Dat) (v : Int → Int) (w : List Dat → Int → Int → Int) : Nat → List AV → List (Nat × Blk) → Option (Bool × AV × List (Nat × Blk) × Nat)
  | 4, [.ptr 0 0 0 9], [(0, .cs 59 [.d (.s (.int .i64 tt)), .d (.s (.int .i64 pe)), .d (.s (.int .i64 pr)), .d (.s (.int .i64 mo)), .row 1 10, .row 2 5, .d (.view 1 es),  .d (.s (.int .i64 av)), .d (.s (.int .i64 lf)) ]), (1, .ds 34 10 ld), (2, .xs 37 5 m sd [.d (.s (.str nm)), .d (.s (.str lv)), .d (.s (.int .i64 rk)), .d (.s (.int .i64 bb)), .row 3 5]), (3, .ds 40 5 rd)] => some (p es av, .d (.view 1 (u es av)), [(0, .cs 59 [.d (.s (.int .i64 tt)), .d (.s (.int .i64 pe)), .d (.s (.int .i64 pr)), .d (.s (.int .i64 mo)), .row 1 10, .row 2 5, .d (.view 1 es),  .d (.s (.int .i64 (v av))), .d (.s (.int .i64 (w es av lf))) ]), (1, .ds 34 10 ld), (2, .xs 37 5 m sd [.d (.s (.str nm)), .d (.s (.str lv)), .d (.s (.int .i64 rk)), .d (.s (.int .i64 bb)), .row 3 5]), (3, .ds 40 5 rd)], 4)
  | _, _, _ => none
theorem φRdList_ok : MSpOK Tryd.prog 53 (φRdList (nxP) (fun es av => listV (nxV es av)) (fun a => a + 1) (rlE)) := by
  intro fr xs h b x h1 fr1 h hb
  unfold φRdList at h
  split at h
  · simp only [Option.some.injEq, Prod.mk.injEq] at h
    obtain ⟨rfl, rfl, rfl, rfl⟩ := h
    exact rdlist_spec _ _ _ _ _ _ _ _ _ _ _ _ _ _ _ hb
  · cases h

def rbE (es : List Dat) (av lf : Int) : Int := if borB (nxV es av) = true then lf else failV lf 8
theorem rdborrow_spec (tt pe pr mo : Int) (es : List Dat) (av lf : Int) (ld : List Dat) (m : Nat) (sd : List Dat) (nm lv : Wd) (rk bb : Int) (rd : List Dat) (h : nxP es av = true) : ASpec Tryd.prog 52 [.ptr 0 0 0 9] [(0, .cs 59 [.d (.s (.int .i64 tt)), .d (.s (.int .i64 pe)), .d (.s (.int .i64 pr)), .d (.s (.int .i64 mo)), .row 1 10, .row 2 5, .d (.view 1 es),  .d (.s (.int .i64 av)), .d (.s (.int .i64 lf)) ]), (1, .ds 34 10 ld), (2, .xs 37 5 m sd [.d (.s (.str nm)), .d (.s (.str lv)), .d (.s (.int .i64 rk)), .d (.s (.int .i64 bb)), .row 3 5]), (3, .ds 40 5 rd)] 4 (fun y h1 fr1 => y = .d (.s (.int .i64 (borV (nxV es av)))) ∧ h1 = [(0, .cs 59 [.d (.s (.int .i64 tt)), .d (.s (.int .i64 pe)), .d (.s (.int .i64 pr)), .d (.s (.int .i64 mo)), .row 1 10, .row 2 5, .d (.view 1 es),  .d (.s (.int .i64 (av + 1))), .d (.s (.int .i64 (rbE es av lf))) ]), (1, .ds 34 10 ld), (2, .xs 37 5 m sd [.d (.s (.str nm)), .d (.s (.str lv)), .d (.s (.int .i64 rk)), .d (.s (.int .i64 bb)), .row 3 5]), (3, .ds 40 5 rd)] ∧ fr1 = 4) := by
  obtain ⟨uRdNumber, huRdNumber⟩ : ∃ u : List Dat → Int → Bool, u = nxP := ⟨_, rfl⟩
  obtain ⟨uRdNumber1, huRdNumber1⟩ : ∃ u : List Dat → Int → Int → Int → Int, u = fun es av a b => numV (nxV es av) a b := ⟨_, rfl⟩
  obtain ⟨uRdNumber2, huRdNumber2⟩ : ∃ u : Int → Int, u = fun a => a + 1 := ⟨_, rfl⟩
  obtain ⟨uRdNumber3, huRdNumber3⟩ : ∃ u : List Dat → Int → Int → Int → Int → Int, u = rnE := ⟨_, rfl⟩
  have hG : TblOK Tryd.prog [(33, .m (φRdNumber uRdNumber uRdNumber1 uRdNumber2 uRdNumber3))] := ⟨(by rw [huRdNumber, huRdNumber1, huRdNumber2, huRdNumber3]; exact φRdNumber_ok), trivial⟩
  have q : uRdNumber es av = true := by rw [huRdNumber]; exact h
  simp only [nxP, Bool.and_eq_true, decide_eq_true_eq] at h
  obtain ⟨h1, h2, h3, h4⟩ := h
  have hsd := strDs_unStr h1
  have hl : (av + 1).toNat < (unStr es).length := by rw [← strDs_length, hsd]; omega
  obtain ⟨i, hi⟩ : ∃ i : Int, i = av + 1 := ⟨_, rfl⟩
  obtain ⟨V, hV⟩ : ∃ v, v = nxV es av := ⟨_, rfl⟩
  have hV2 : V = wAt (unStr es) i.toNat := by rw [hV, nxV, hi]
  rw [← hi] at hl
  rw [rbE, ← hV, ← hi]
  refine ASpec.enterK Tryd.func52 (by kernel_rfl) rfl (Nat.le_of_ble_eq_true rfl) fun hok cx hnt hfr => ?_
  obtain ⟨F, hF⟩ := real_ex
  refine AK.runTn hF tabOK hmix hnt [] false _ hG (Nat.le_of_eq hfr) ?_
  conv => arg 4; cbv
  have e1 : F .wrap .i64 (F .add av 1) = i := by rw [hi]; exact wrap_inc hF h2 (by omega)
  rw [e1]
  have k0 : F .hasD es i [.str] = true := by rw [← hsd]; exact (show i = (i.toNat : Int) by omega) ▸ t_hasG hF hl
  have s0 : F .strA es i 0 = V := by
    rw [hV2]
    conv => lhs; rw [← hsd, show i = (i.toNat : Int) by omega]
    exact t_strG hF _ _
  rw [s0]
  refine AKt.need k0 fun _ => ?_
  refine AKt.node (fun c1 => ?_) (fun c1 => ?_)
  · have e : V = ALLW := by rw [hF, f_eqS] at c1; exact eq_of_beq c1
    repeat' (first | with_reducible (first | refine AKt.have ?_ | refine AKt.tt ?_ | refine AKt.ff ?_ | refine AKt.yes (by assumption) ?_ | refine AKt.no (by assumption) ?_ | refine AKt.node (fun hb => ?_) (fun hb => ?_) | refine AKt.need ?_ (fun hb => ?_) | refine AKt.leaf ?_) | ((with_reducible show _ = true); assumption))
    first | refine AKp.doneM tabOK hfr (by rfl) (by rfl) ?_ ?_ | refine AKp.endM tabOK hfr (by rfl) (by rfl) ?_ ?_
    all_goals show _ = _
    · simp [borV, e, tupAV]
    · rw [borB, if_pos (by simp [e])]
  · have e : ¬ V = ALLW := by rw [hF, f_eqS] at c1; exact fun h => by rw [h] at c1; exact absurd c1 (by decide)
    have e2 : uRdNumber1 es av 0 1000 = numV V 0 1000 := by rw [huRdNumber1, hV]
    have e3 : uRdNumber2 av = i := by rw [huRdNumber2, hi]
    have e4 : uRdNumber3 es av lf 0 1000 = rnE es av lf 0 1000 := by rw [huRdNumber3]
    rw [e2, e3, e4]
    repeat' (first | with_reducible (first | refine AKt.have ?_ | refine AKt.tt ?_ | refine AKt.ff ?_ | refine AKt.yes (by assumption) ?_ | refine AKt.no (by assumption) ?_ | refine AKt.node (fun hb => ?_) (fun hb => ?_) | refine AKt.need ?_ (fun hb => ?_) | refine AKt.leaf ?_) | ((with_reducible show _ = true); assumption))
    first | refine AKp.doneM tabOK hfr (by rfl) (by rfl) ?_ ?_ | refine AKp.endM tabOK hfr (by rfl) (by rfl) ?_ ?_
    all_goals show _ = _
    · simp [borV, e, tupAV]
    · rw [borB, rnE, ← hV]
      simp [e]
def φRdBorrow (p : List Dat → Int → Bool) (u : List Dat → Int → Int) (v : Int → Int) (w : List Dat → Int → Int → Int) : Nat → List AV → List (Nat × Blk) → Option (Bool × AV × List (Nat × Blk) × Nat)
  | 4, [.ptr 0 0 0 9], [(0, .cs 59 [.d (.s (.int .i64 tt)), .d (.s (.int .i64 pe)), .d (.s (.int .i64 pr)), .d (.s (.int .i64 mo)), .row 1 10, .row 2 5, .d (.view 1 es),  .d (.s (.int .i64 av)), .d (.s (.int .i64 lf)) ]), (1, .ds 34 10 ld), (2, .xs 37 5 m sd [.d (.s (.str nm)), .d (.s (.str lv)), .d (.s (.int .i64 rk)), .d (.s (.int .i64 bb)), .row 3 5]), (3, .ds 40 5 rd)] => some (p es av, .d (.s (.int .i64 (u es av))), [(0, .cs 59 [.d (.s (.int .i64 tt)), .d (.s (.int .i64 pe)), .d (.s (.int .i64 pr)), .d (.s (.int .i64 mo)), .row 1 10, .row 2 5, .d (.view 1 es),  .d (.s (.int .i64 (v av))), .d (.s (.int .i64 (w es av lf))) ]), (1, .ds 34 10 ld), (2, .xs 37 5 m sd [.d (.s (.str nm)), .d (.s (.str lv)), .d (.s (.int .i64 rk)), .d (.s (.int .i64 bb)), .row 3 5]), (3, .ds 40 5 rd)], 4)
  | _, _, _ => none
theorem φRdBorrow_ok : MSpOK Tryd.prog 52 (φRdBorrow (nxP) (fun es av => borV (nxV es av)) (fun a => a + 1) (rbE)) := by
  intro fr xs h b x h1 fr1 h hb
  unfold φRdBorrow at h
  split at h
  · simp only [Option.some.injEq, Prod.mk.injEq] at h
    obtain ⟨rfl, rfl, rfl, rfl⟩ := h
    exact rdborrow_spec _ _ _ _ _ _ _ _ _ _ _ _ _ _ _ hb
  · cases h
end Go.Proofs.YtljidkmppeaecaaDoor

