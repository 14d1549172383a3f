/- The library of this claim and its walks, part 29, joined out of smaller texts. No statement stands in it. -/
import Derived.Test.YtljidkmppeaecaaDoorUaM27
import Derived.Test.YtljidkmppeaecaaDoorUaM28
/- conf: what kind of level; a number told once. -/
namespace Go.Proofs.YtljidkmppeaecaaDoor
open Go Go.Proofs Go.Ua Go.Extern
set_option linter.unusedVariables false
set_option linter.unusedSimpArgs false
set_option maxRecDepth 10000

theorem kind_spec (ws : List Wd) : ESpec Tryd.prog 50 [.d (.view 1 (strDs ws))] (fun x => x = .d (.s (.int .i64 (kindL ws)))) := by
  obtain ⟨es, he⟩ : ∃ z, z = strDs ws := ⟨_, rfl⟩
  have hl : es.length = ws.length := by rw [he, strDs_length]
  rw [← he]
  obtain ⟨Z, hZ⟩ : ∃ z, z = kindL ws := ⟨_, rfl⟩
  rw [← hZ]
  refine ESpec.enter Tryd.func50 (by kernel_rfl) rfl (Nat.le_of_ble_eq_true rfl) fun hok cx hnt hfr => ?_
  obtain ⟨F, hF⟩ := real_ex
  refine AK.runT hF tabOK hmix hnt hfr true [] trivial ?_
  conv => arg 4; cbv
  have hL : F .lenD es = (ws.length : Int) := by rw [hF, f_lenD, hl]
  have s2 : F .strA es 2 0 = wAt ws 2 := by rw [he]; exact t_strG hF ws 2
  have s5 : F .strA es 5 0 = wAt ws 5 := by rw [he]; exact t_strG hF ws 5
  have g2 : 2 < ws.length → F .hasD es 2 [.str] = true := fun h => by rw [he]; exact t_hasG hF (n := 2) h
  have g5 : 5 < ws.length → F .hasD es 5 [.str] = true := fun h => by rw [he]; exact t_hasG hF (n := 5) h
  rw [hL, s2, s5]
  have eq : ∀ n : Int, F .eqI (ws.length : Int) n = true → (ws.length : Int) = n := fun n h => by rw [hF, f_eqI] at h; exact of_decide_eq_true h
  have ne : ∀ n : Int, F .eqI (ws.length : Int) n = false → ¬ (ws.length : Int) = n := fun n h => by rw [hF, f_eqI] at h; exact of_decide_eq_false h
  have es_ : ∀ a b : Wd, F .eqS a b = true → a = b := fun a b h => by rw [hF, f_eqS] at h; exact eq_of_beq h
  have ns_ : ∀ a b : Wd, F .eqS a b = false → ¬ a = b := fun a b h e => by rw [hF, f_eqS, e] at h; rw [beq_self_eq_true] at h; cases h
  unfold kindL at hZ
  refine AKt.node (fun c1 => ?_) (fun c1 => ?_)
  · have d1 := eq _ c1
    refine AKt.need (g2 (by omega)) fun _ => ?_
    refine AKt.node (fun c2 => ?_) (fun c2 => ?_)
    · repeat' (first | with_reducible (first | refine AKt.have ?_ | refine AKt.tt ?_ | refine AKt.ff ?_ | refine AKt.yes (by assumption) ?_ | refine AKt.no (by assumption) ?_ | refine AKt.node (fun hb => ?_) (fun hb => ?_) | refine AKt.need ?_ (fun hb => ?_) | refine AKt.leaf ?_) | ((with_reducible show _ = true); assumption))
      refine AKp.doneE tabOK hfr (by rfl) ?_
      show _ = _
      simp only [tupAV]
      rw [hZ, if_pos ⟨by omega, es_ _ _ c2⟩]
    · have d2 := ns_ _ _ c2
      have n6 : F .eqI (ws.length : Int) 6 = false := by rw [hF, f_eqI]; exact decide_eq_false (by omega)
      have n11 : F .eqI (ws.length : Int) 11 = false := by rw [hF, f_eqI]; exact decide_eq_false (by omega)
      repeat' (first | with_reducible (first | refine AKt.have ?_ | refine AKt.tt ?_ | refine AKt.ff ?_ | refine AKt.yes (by assumption) ?_ | refine AKt.no (by assumption) ?_ | refine AKt.node (fun hb => ?_) (fun hb => ?_) | refine AKt.need ?_ (fun hb => ?_) | refine AKt.leaf ?_) | ((with_reducible show _ = true); assumption))
      refine AKp.doneE tabOK hfr (by rfl) ?_
      show _ = _
      simp only [tupAV]
      rw [hZ, if_neg (fun h => d2 h.2), if_neg (fun h => by omega), if_neg (fun h => by omega)]
  · have d1 := ne _ c1
    refine AKt.node (fun c2 => ?_) (fun c2 => ?_)
    · have d2 := eq _ c2
      refine AKt.need (g5 (by omega)) fun _ => ?_
      refine AKt.node (fun c3 => ?_) (fun c3 => ?_)
      · repeat' (first | with_reducible (first | refine AKt.have ?_ | refine AKt.tt ?_ | refine AKt.ff ?_ | refine AKt.yes (by assumption) ?_ | refine AKt.no (by assumption) ?_ | refine AKt.node (fun hb => ?_) (fun hb => ?_) | refine AKt.need ?_ (fun hb => ?_) | refine AKt.leaf ?_) | ((with_reducible show _ = true); assumption))
        refine AKp.doneE tabOK hfr (by rfl) ?_
        show _ = _
        simp only [tupAV]
        rw [hZ, if_neg (fun h => by omega), if_pos ⟨by omega, es_ _ _ c3⟩]
      · have d3 := ns_ _ _ c3
        have n11 : F .eqI (ws.length : Int) 11 = false := by rw [hF, f_eqI]; exact decide_eq_false (by omega)
        repeat' (first | with_reducible (first | refine AKt.have ?_ | refine AKt.tt ?_ | refine AKt.ff ?_ | refine AKt.yes (by assumption) ?_ | refine AKt.no (by assumption) ?_ | refine AKt.node (fun hb => ?_) (fun hb => ?_) | refine AKt.need ?_ (fun hb => ?_) | refine AKt.leaf ?_) | ((with_reducible show _ = true); assumption))
        refine AKp.doneE tabOK hfr (by rfl) ?_
        show _ = _
        simp only [tupAV]
        rw [hZ, if_neg (fun h => by omega), if_neg (fun h => d3 h.2), if_neg (fun h => by omega)]
    · have d2 := ne _ c2
      refine AKt.node (fun c3 => ?_) (fun c3 => ?_)
      · have d3 := eq _ c3
        refine AKt.need (g5 (by omega)) fun _ => ?_
        refine AKt.node (fun c4 => ?_) (fun c4 => ?_)
        · repeat' (first | with_reducible (first | refine AKt.have ?_ | refine AKt.tt ?_ | refine AKt.ff ?_ | refine AKt.yes (by assumption) ?_ | refine AKt.no (by assumption) ?_ | refine AKt.node (fun hb => ?_) (fun hb => ?_) | refine AKt.need ?_ (fun hb => ?_) | refine AKt.leaf ?_) | ((with_reducible show _ = true); assumption))
          refine AKp.doneE tabOK hfr (by rfl) ?_
          show _ = _
          simp only [tupAV]
          rw [hZ, if_neg (fun h => by omega), if_neg (fun h => by omega), if_pos ⟨by omega, es_ _ _ c4⟩]
        · have d4 := ns_ _ _ c4
          repeat' (first | with_reducible (first | refine AKt.have ?_ | refine AKt.tt ?_ | refine AKt.ff ?_ | refine AKt.yes (by assumption) ?_ | refine AKt.no (by assumption) ?_ | refine AKt.node (fun hb => ?_) (fun hb => ?_) | refine AKt.need ?_ (fun hb => ?_) | refine AKt.leaf ?_) | ((with_reducible show _ = true); assumption))
          refine AKp.doneE tabOK hfr (by rfl) ?_
          show _ = _
          simp only [tupAV]
          rw [hZ, if_neg (fun h => by omega), if_neg (fun h => by omega), if_neg (fun h => d4 h.2)]
      · have d3 := ne _ c3
        repeat' (first | with_reducible (first | refine AKt.have ?_ | refine AKt.tt ?_ | refine AKt.ff ?_ | refine AKt.yes (by assumption) ?_ | refine AKt.no (by assumption) ?_ | refine AKt.node (fun hb => ?_) (fun hb => ?_) | refine AKt.need ?_ (fun hb => ?_) | refine AKt.leaf ?_) | ((with_reducible show _ = true); assumption))
        refine AKp.doneE tabOK hfr (by rfl) ?_
        show _ = _
        simp only [tupAV]
        rw [hZ, if_neg (fun h => by omega), if_neg (fun h => by omega), if_neg (fun h => by omega)]
theorem kindD_spec (es : List Dat) (h : isStrs es = true) : ESpec Tryd.prog 50 [.d (.view 1 es)] (fun x => x = .d (.s (.int .i64 (kindL (unStr es))))) := by
  have := kind_spec (unStr es)
  rwa [strDs_unStr h] at this
def φRdKind (p : List Dat → Bool) (u : List Dat → Int) : List AV → Option (Bool × AV)
  | [.d (.view 1 es)] => some (p es, .d (.s (.int .i64 (u es))))
  | _ => none
theorem φRdKind_ok : SpOK Tryd.prog 50 (φRdKind (isStrs) (fun es => kindL (unStr es))) := by
  intro xs b x h hb
  unfold φRdKind at h
  split at h
  · simp only [Option.some.injEq, Prod.mk.injEq] at h
    obtain ⟨rfl, rfl⟩ := h
    exact kindD_spec _ hb
  · cases h

def onE (f lf : Int) : Int := if f = 0 then lf else failV lf 5
def onV (f lf n : Int) : Int := if onE f lf = 0 then n else f
theorem once0_spec (tt pe pr mo : Int) (es : List Dat) (av lf : Int) (ld : List Dat) (m : Nat) (sd : List Dat) (nm lv : Wd) (rk bb : Int) (rd : List Dat) (n : Int) : ASpec Tryd.prog 32 [.ptr 0 0 0 9, .ptr 0 0 0 9, .d (.s (.int .i64 n))] ([(0, .cs 59 [ .d (.s (.int .i64 tt)), .d (.s (.int .i64 pe)), .d (.s (.int .i64 pr)), .d (.s (.int .i64 mo)) , .row 1 10, .row 2 5, .d (.view 1 es), .d (.s (.int .i64 av)), .d (.s (.int .i64  lf ))]), (1, .ds 34 10 ld), (2, .xs 37 5 m sd [.d (.s (.str nm)), .d (.s (.str lv)), .d (.s (.int .i64 rk)), .d (.s (.int .i64 bb)), .row 3 5]), (3, .ds 40 5 rd)]) 4 (fun y h1 fr1 => y = .tup [] ∧ h1 = [(0, .cs 59 [ .d (.s (.int .i64 (onV tt lf n))), .d (.s (.int .i64 pe)), .d (.s (.int .i64 pr)), .d (.s (.int .i64 mo)) , .row 1 10, .row 2 5, .d (.view 1 es), .d (.s (.int .i64 av)), .d (.s (.int .i64  (onE tt lf) ))]), (1, .ds 34 10 ld), (2, .xs 37 5 m sd [.d (.s (.str nm)), .d (.s (.str lv)), .d (.s (.int .i64 rk)), .d (.s (.int .i64 bb)), .row 3 5]), (3, .ds 40 5 rd)] ∧ fr1 = 4) := by
  obtain ⟨uRdFail, huRdFail⟩ : ∃ u : Int → Int → Int, u = failV := ⟨_, rfl⟩
  have hG : TblOK Tryd.prog [(37, .m (φRdFail uRdFail))] := ⟨(by rw [huRdFail]; exact φRdFail_ok), trivial⟩
  refine ASpec.enterK Tryd.func32 (by kernel_rfl) rfl (Nat.le_of_ble_eq_true rfl) fun hok cx hnt hfr => ?_
  obtain ⟨F, hF⟩ := real_ex
  refine AK.runTn hF tabOK hmix hnt [] false _ hG (Nat.le_of_eq hfr) ?_
  conv => arg 4; cbv
  repeat' (first | with_reducible (first | refine AKt.have ?_ | refine AKt.tt ?_ | refine AKt.ff ?_ | refine AKt.yes (by assumption) ?_ | refine AKt.no (by assumption) ?_ | refine AKt.node (fun hb => ?_) (fun hb => ?_) | refine AKt.need ?_ (fun hb => ?_) | refine AKt.leaf ?_) | ((with_reducible show _ = true); assumption))
  all_goals
    first | refine AKp.doneM tabOK hfr (by rfl) (by rfl) ?_ ?_ | refine AKp.endM tabOK hfr (by rfl) (by rfl) ?_ ?_
    all_goals show _ = _
    · rfl
    · subst huRdFail
      simp only [hF, f_ltI, f_leI, f_eqI, f_eqS, f_eqB, f_not, f_andB, f_orB, f_lenS, f_lenD, f_hasS, f_atS, f_hasC, f_subS, f_hasCat, f_app, f_wrap, f_add, f_sub, f_mul, f_appD, f_fits, f_hasV, f_subV, decide_eq_true_eq, decide_eq_false_iff_not, beq_iff_eq, beq_eq_false_iff_ne, Bool.and_eq_true, Bool.and_eq_false_iff, Bool.not_eq_true, Bool.not_eq_false, Bool.not_eq_eq_eq_not, Bool.not_true, Bool.not_false] at *
      simp [onE, onV, *]
theorem once1_spec (tt pe pr mo : Int) (es : List Dat) (av lf : Int) (ld : List Dat) (m : Nat) (sd : List Dat) (nm lv : Wd) (rk bb : Int) (rd : List Dat) (n : Int) : ASpec Tryd.prog 32 [.ptr 0 0 0 9, .ptr 0 0 1 9, .d (.s (.int .i64 n))] ([(0, .cs 59 [ .d (.s (.int .i64 tt)), .d (.s (.int .i64 pe)), .d (.s (.int .i64 pr)), .d (.s (.int .i64 mo)) , .row 1 10, .row 2 5, .d (.view 1 es), .d (.s (.int .i64 av)), .d (.s (.int .i64  lf ))]), (1, .ds 34 10 ld), (2, .xs 37 5 m sd [.d (.s (.str nm)), .d (.s (.str lv)), .d (.s (.int .i64 rk)), .d (.s (.int .i64 bb)), .row 3 5]), (3, .ds 40 5 rd)]) 4 (fun y h1 fr1 => y = .tup [] ∧ h1 = [(0, .cs 59 [ .d (.s (.int .i64 tt)), .d (.s (.int .i64 (onV pe lf n))), .d (.s (.int .i64 pr)), .d (.s (.int .i64 mo)) , .row 1 10, .row 2 5, .d (.view 1 es), .d (.s (.int .i64 av)), .d (.s (.int .i64  (onE pe lf) ))]), (1, .ds 34 10 ld), (2, .xs 37 5 m sd [.d (.s (.str nm)), .d (.s (.str lv)), .d (.s (.int .i64 rk)), .d (.s (.int .i64 bb)), .row 3 5]), (3, .ds 40 5 rd)] ∧ fr1 = 4) := by
  obtain ⟨uRdFail, huRdFail⟩ : ∃ u : Int → Int → Int, u = failV := ⟨_, rfl⟩
  have hG : TblOK Tryd.prog [(37, .m (φRdFail uRdFail))] := ⟨(by rw [huRdFail]; exact φRdFail_ok), trivial⟩
  refine ASpec.enterK Tryd.func32 (by kernel_rfl) rfl (Nat.le_of_ble_eq_true rfl) fun hok cx hnt hfr => ?_
  obtain ⟨F, hF⟩ := real_ex
  refine AK.runTn hF tabOK hmix hnt [] false _ hG (Nat.le_of_eq hfr) ?_
  conv => arg 4; cbv
  repeat' (first | with_reducible (first | refine AKt.have ?_ | refine AKt.tt ?_ | refine AKt.ff ?_ | refine AKt.yes (by assumption) ?_ | refine AKt.no (by assumption) ?_ | refine AKt.node (fun hb => ?_) (fun hb => ?_) | refine AKt.need ?_ (fun hb => ?_) | refine AKt.leaf ?_) | ((with_reducible show _ = true); assumption))
  all_goals
    first | refine AKp.doneM tabOK hfr (by rfl) (by rfl) ?_ ?_ | refine AKp.endM tabOK hfr (by rfl) (by rfl) ?_ ?_
    all_goals show _ = _
    · rfl
    · subst huRdFail
      simp only [hF, f_ltI, f_leI, f_eqI, f_eqS, f_eqB, f_not, f_andB, f_orB, f_lenS, f_lenD, f_hasS, f_atS, f_hasC, f_subS, f_hasCat, f_app, f_wrap, f_add, f_sub, f_mul, f_appD, f_fits, f_hasV, f_subV, decide_eq_true_eq, decide_eq_false_iff_not, beq_iff_eq, beq_eq_false_iff_ne, Bool.and_eq_true, Bool.and_eq_false_iff, Bool.not_eq_true, Bool.not_eq_false, Bool.not_eq_eq_eq_not, Bool.not_true, Bool.not_false] at *
      simp [onE, onV, *]
theorem once2_spec (tt pe pr mo : Int) (es : List Dat) (av lf : Int) (ld : List Dat) (m : Nat) (sd : List Dat) (nm lv : Wd) (rk bb : Int) (rd : List Dat) (n : Int) : ASpec Tryd.prog 32 [.ptr 0 0 0 9, .ptr 0 0 2 9, .d (.s (.int .i64 n))] ([(0, .cs 59 [ .d (.s (.int .i64 tt)), .d (.s (.int .i64 pe)), .d (.s (.int .i64 pr)), .d (.s (.int .i64 mo)) , .row 1 10, .row 2 5, .d (.view 1 es), .d (.s (.int .i64 av)), .d (.s (.int .i64  lf ))]), (1, .ds 34 10 ld), (2, .xs 37 5 m sd [.d (.s (.str nm)), .d (.s (.str lv)), .d (.s (.int .i64 rk)), .d (.s (.int .i64 bb)), .row 3 5]), (3, .ds 40 5 rd)]) 4 (fun y h1 fr1 => y = .tup [] ∧ h1 = [(0, .cs 59 [ .d (.s (.int .i64 tt)), .d (.s (.int .i64 pe)), .d (.s (.int .i64 (onV pr lf n))), .d (.s (.int .i64 mo)) , .row 1 10, .row 2 5, .d (.view 1 es), .d (.s (.int .i64 av)), .d (.s (.int .i64  (onE pr lf) ))]), (1, .ds 34 10 ld), (2, .xs 37 5 m sd [.d (.s (.str nm)), .d (.s (.str lv)), .d (.s (.int .i64 rk)), .d (.s (.int .i64 bb)), .row 3 5]), (3, .ds 40 5 rd)] ∧ fr1 = 4) := by
  obtain ⟨uRdFail, huRdFail⟩ : ∃ u : Int → Int → Int, u = failV := ⟨_, rfl⟩
  have hG : TblOK Tryd.prog [(37, .m (φRdFail uRdFail))] := ⟨(by rw [huRdFail]; exact φRdFail_ok), trivial⟩
  refine ASpec.enterK Tryd.func32 (by kernel_rfl) rfl (Nat.le_of_ble_eq_true rfl) fun hok cx hnt hfr => ?_
  obtain ⟨F, hF⟩ := real_ex
  refine AK.runTn hF tabOK hmix hnt [] false _ hG (Nat.le_of_eq hfr) ?_
  conv => arg 4; cbv
  repeat' (first | with_reducible (first | refine AKt.have ?_ | refine AKt.tt ?_ | refine AKt.ff ?_ | refine AKt.yes (by assumption) ?_ | refine AKt.no (by assumption) ?_ | refine AKt.node (fun hb => ?_) (fun hb => ?_) | refine AKt.need ?_ (fun hb => ?_) | refine AKt.leaf ?_) | ((with_reducible show _ = true); assumption))
  all_goals
    first | refine AKp.doneM tabOK hfr (by rfl) (by rfl) ?_ ?_ | refine AKp.endM tabOK hfr (by rfl) (by rfl) ?_ ?_
    all_goals show _ = _
    · rfl
    · subst huRdFail
      simp only [hF, f_ltI, f_leI, f_eqI, f_eqS, f_eqB, f_not, f_andB, f_orB, f_lenS, f_lenD, f_hasS, f_atS, f_hasC, f_subS, f_hasCat, f_app, f_wrap, f_add, f_sub, f_mul, f_appD, f_fits, f_hasV, f_subV, decide_eq_true_eq, decide_eq_false_iff_not, beq_iff_eq, beq_eq_false_iff_ne, Bool.and_eq_true, Bool.and_eq_false_iff, Bool.not_eq_true, Bool.not_eq_false, Bool.not_eq_eq_eq_not, Bool.not_true, Bool.not_false] at *
      simp [onE, onV, *]
def orM (a b : Nat → List AV → List (Nat × Blk) → Option (Bool × AV × List (Nat × Blk) × Nat)) : Nat → List AV → List (Nat × Blk) → Option (Bool × AV × List (Nat × Blk) × Nat) := fun fr xs h => match a fr xs h with
  | some r => some r
  | none => b fr xs h
theorem orM_ok {P : Program} [Globs P] {g : FuncId} {a b : Nat → List AV → List (Nat × Blk) → Option (Bool × AV × List (Nat × Blk) × Nat)} (ha : MSpOK P g a) (hb : MSpOK P g b) : MSpOK P g (orM a b) := by
  intro fr xs h b' x h1 fr1 e he
  unfold orM at e
  split at e
  · rename_i r hr
    obtain rfl := Option.some.inj e
    exact ha _ _ _ _ _ _ _ hr he
  · exact hb _ _ _ _ _ _ _ e he
def φRdOnce0 (u : Int → Int → Int) (w : Int → Int → Int → Int) : Nat → List AV → List (Nat × Blk) → Option (Bool × AV × List (Nat × Blk) × Nat)
  | 4, [.ptr 0 0 0 9, .ptr 0 0 0 9, .d (.s (.int .i64 n))], [(0, .cs 59 [ .d (.s (.int .i64 tt)), .d (.s (.int .i64 pe)), .d (.s (.int .i64 pr)), .d (.s (.int .i64 mo)) , .row 1 10, .row 2 5, .d (.view 1 es), .d (.s (.int .i64 av)), .d (.s (.int .i64  lf ))]), (1, .ds 34 10 ld), (2, .xs 37 5 m sd [.d (.s (.str nm)), .d (.s (.str lv)), .d (.s (.int .i64 rk)), .d (.s (.int .i64 bb)), .row 3 5]), (3, .ds 40 5 rd)] => some (true, .tup [], [(0, .cs 59 [ .d (.s (.int .i64 (w tt lf n))), .d (.s (.int .i64 pe)), .d (.s (.int .i64 pr)), .d (.s (.int .i64 mo)) , .row 1 10, .row 2 5, .d (.view 1 es), .d (.s (.int .i64 av)), .d (.s (.int .i64  (u tt lf) ))]), (1, .ds 34 10 ld), (2, .xs 37 5 m sd [.d (.s (.str nm)), .d (.s (.str lv)), .d (.s (.int .i64 rk)), .d (.s (.int .i64 bb)), .row 3 5]), (3, .ds 40 5 rd)], 4)
  | _, _, _ => none
theorem φRdOnce0_ok : MSpOK Tryd.prog 32 (φRdOnce0 (onE) (onV)) := by
  intro fr xs h b x h1 fr1 h hb
  unfold φRdOnce0 at h
  split at h
  · simp only [Option.some.injEq, Prod.mk.injEq] at h
    obtain ⟨rfl, rfl, rfl, rfl⟩ := h
    exact once0_spec _ _ _ _ _ _ _ _ _ _ _ _ _ _ _ _
  · cases h
def φRdOnce1 (u : Int → Int → Int) (w : Int → Int → Int → Int) : Nat → List AV → List (Nat × Blk) → Option (Bool × AV × List (Nat × Blk) × Nat)
  | 4, [.ptr 0 0 0 9, .ptr 0 0 1 9, .d (.s (.int .i64 n))], [(0, .cs 59 [ .d (.s (.int .i64 tt)), .d (.s (.int .i64 pe)), .d (.s (.int .i64 pr)), .d (.s (.int .i64 mo)) , .row 1 10, .row 2 5, .d (.view 1 es), .d (.s (.int .i64 av)), .d (.s (.int .i64  lf ))]), (1, .ds 34 10 ld), (2, .xs 37 5 m sd [.d (.s (.str nm)), .d (.s (.str lv)), .d (.s (.int .i64 rk)), .d (.s (.int .i64 bb)), .row 3 5]), (3, .ds 40 5 rd)] => some (true, .tup [], [(0, .cs 59 [ .d (.s (.int .i64 tt)), .d (.s (.int .i64 (w pe lf n))), .d (.s (.int .i64 pr)), .d (.s (.int .i64 mo)) , .row 1 10, .row 2 5, .d (.view 1 es), .d (.s (.int .i64 av)), .d (.s (.int .i64  (u pe lf) ))]), (1, .ds 34 10 ld), (2, .xs 37 5 m sd [.d (.s (.str nm)), .d (.s (.str lv)), .d (.s (.int .i64 rk)), .d (.s (.int .i64 bb)), .row 3 5]), (3, .ds 40 5 rd)], 4)
  | _, _, _ => none
theorem φRdOnce1_ok : MSpOK Tryd.prog 32 (φRdOnce1 (onE) (onV)) := by
  intro fr xs h b x h1 fr1 h hb
  unfold φRdOnce1 at h
  split at h
  · simp only [Option.some.injEq, Prod.mk.injEq] at h
    obtain ⟨rfl, rfl, rfl, rfl⟩ := h
    exact once1_spec _ _ _ _ _ _ _ _ _ _ _ _ _ _ _ _
  · cases h
def φRdOnce2 (u : Int → Int → Int) (w : Int → Int → Int → Int) : Nat → List AV → List (Nat × Blk) → Option (Bool × AV × List (Nat × Blk) × Nat)
  | 4, [.ptr 0 0 0 9, .ptr 0 0 2 9, .d (.s (.int .i64 n))], [(0, .cs 59 [ .d (.s (.int .i64 tt)), .d (.s (.int .i64 pe)), .d (.s (.int .i64 pr)), .d (.s (.int .i64 mo)) , .row 1 10, .row 2 5, .d (.view 1 es), .d (.s (.int .i64 av)), .d (.s (.int .i64  lf ))]), (1, .ds 34 10 ld), (2, .xs 37 5 m sd [.d (.s (.str nm)), .d (.s (.str lv)), .d (.s (.int .i64 rk)), .d (.s (.int .i64 bb)), .row 3 5]), (3, .ds 40 5 rd)] => some (true, .tup [], [(0, .cs 59 [ .d (.s (.int .i64 tt)), .d (.s (.int .i64 pe)), .d (.s (.int .i64 (w pr lf n))), .d (.s (.int .i64 mo)) , .row 1 10, .row 2 5, .d (.view 1 es), .d (.s (.int .i64 av)), .d (.s (.int .i64  (u pr lf) ))]), (1, .ds 34 10 ld), (2, .xs 37 5 m sd [.d (.s (.str nm)), .d (.s (.str lv)), .d (.s (.int .i64 rk)), .d (.s (.int .i64 bb)), .row 3 5]), (3, .ds 40 5 rd)], 4)
  | _, _, _ => none
theorem φRdOnce2_ok : MSpOK Tryd.prog 32 (φRdOnce2 (onE) (onV)) := by
  intro fr xs h b x h1 fr1 h hb
  unfold φRdOnce2 at h
  split at h
  · simp only [Option.some.injEq, Prod.mk.injEq] at h
    obtain ⟨rfl, rfl, rfl, rfl⟩ := h
    exact once2_spec _ _ _ _ _ _ _ _ _ _ _ _ _ _ _ _
  · cases h
def φRdOnce (u : Int → Int → Int) (w : Int → Int → Int → Int) : Nat → List AV → List (Nat × Blk) → Option (Bool × AV × List (Nat × Blk) × Nat) := orM (φRdOnce0 u w) (orM (φRdOnce1 u w) (φRdOnce2 u w))
theorem φRdOnce_ok : MSpOK Tryd.prog 32 (φRdOnce onE onV) := orM_ok φRdOnce0_ok (orM_ok φRdOnce1_ok φRdOnce2_ok)
end Go.Proofs.YtljidkmppeaecaaDoor

/- What a text may tell: levels, schemas. -/
namespace Go.Proofs.YtljidkmppeaecaaDoor
open Go Go.Proofs Go.Ua Go.Extern
set_option linter.unusedVariables false
set_option linter.unusedSimpArgs false

end Go.Proofs.YtljidkmppeaecaaDoor

/- What a text may tell: schemas, all of it. -/
namespace Go.Proofs.YtljidkmppeaecaaDoor
open Go Go.Proofs Go.Ua Go.Extern
set_option linter.unusedVariables false
set_option linter.unusedSimpArgs false

/-- The names ahead. -/
theorem hasL_take {l : List Lv} {i : Nat} {x : Lv} {n : Wd} (h : l[i]? = some x) : hasL (l.take (i + 1)) n = (hasL (l.take i) n || decide (x.nm = n)) := by
  unfold hasL
  rw [List.take_add_one, h, List.any_append]
  simp
theorem hasM_take {l : List Sm} {i : Nat} {x : Sm} {n : Wd} (h : l[i]? = some x) : hasM (l.take (i + 1)) n = (hasM (l.take i) n || decide (x.nm = n)) := by
  unfold hasM
  rw [List.take_add_one, h, List.any_append]
  simp
end Go.Proofs.YtljidkmppeaecaaDoor

