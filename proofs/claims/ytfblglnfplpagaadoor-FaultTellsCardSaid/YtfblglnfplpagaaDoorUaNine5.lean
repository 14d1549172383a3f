/- What faults tell. -/
import Derived.Test.YtfblglnfplpagaaDoorUaNine4
namespace Go.Proofs.YtfblglnfplpagaaDoor
open Go Go.Proofs Go.Ua Go.Extern
set_option linter.unusedVariables false

theorem f_not1 {F : Fam} (hF : F = Fam.real) : F .not true = false := by rw [hF]; rfl
theorem f_not0 {F : Fam} (hF : F = Fam.real) : F .not false = true := by rw [hF]; rfl
theorem f_lenS {F : Fam} (hF : F = Fam.real) (u : List UInt8) : F .lenS u = u.length := by subst hF; rfl
theorem f_lenD {F : Fam} (hF : F = Fam.real) (u : List Dat) : F .lenD u = u.length := by subst hF; rfl
theorem ltI_t {F : Fam} (hF : F = Fam.real) {a b : Int} (h : F .ltI a b = true) : a < b := by rw [hF] at h; exact of_decide_eq_true h
theorem ltI_f {F : Fam} (hF : F = Fam.real) {a b : Int} (h : F .ltI a b = false) : ¬ a < b := by rw [hF] at h; exact of_decide_eq_false h
theorem eqI_t {F : Fam} (hF : F = Fam.real) {a b : Int} (h : F .eqI a b = true) : a = b := by rw [hF] at h; exact eq_of_beq h
theorem eqI_f {F : Fam} (hF : F = Fam.real) {a b : Int} (h : F .eqI a b = false) : a ≠ b := by rw [hF] at h; exact ne_of_beq_false h
theorem eqS_t {F : Fam} (hF : F = Fam.real) {a b : List UInt8} (h : F .eqS a b = true) : a = b := by rw [hF] at h; exact eq_of_beq h
theorem eqS_f {F : Fam} (hF : F = Fam.real) {a b : List UInt8} (h : F .eqS a b = false) : a ≠ b := by rw [hF] at h; exact ne_of_beq_false h
theorem eqI_r {F : Fam} (hF : F = Fam.real) (a : Int) : F .eqI a a = true := by rw [hF]; exact beq_self_eq_true _
theorem eqS_r {F : Fam} (hF : F = Fam.real) (a : List UInt8) : F .eqS a a = true := by rw [hF]; exact beq_self_eq_true _

def codeF : ErrF → Int
  | .nil => 0
  | e => e.num?.getD 1
def lineF : ErrF → Int
  | .flt l _ e => if l ≠ 0 then l else lineF e
  | _ => 0
def whatF : ErrF → List UInt8
  | .flt _ w e => if w ≠ [] then w else whatF e
  | _ => []

theorem Code_spec (e : ErrF) : ESpec Tryd.prog 9 [.d e.dat] (fun x => x = .d (.s (.int .i64 (codeF e)))) := by
  rcases e.form with ⟨hn2, hf2⟩ | ⟨hn2, t2, x2, hf2⟩
  · rw [hf2, hn2]
    refine ESpec.enter Tryd.func9 (by kernel_rfl) rfl (Nat.le_of_ble_eq_true rfl) fun _ cx hnt hfr => ?_
    obtain ⟨F, hF⟩ := real_ex
    refine AK.run hF tabOK hnt ?_
    conv => arg 4; cbv
    exact AKp.doneE tabOK hfr (by rfl) (by rfl)
  have sp := AsNum_spec e 0
  rw [hf2] at sp ⊢
  have hc : codeF e = e.num?.getD 1 := by cases e <;> first | rfl | exact absurd rfl hn2
  rw [hc]
  obtain ⟨zb, zn, hz, h1, h2⟩ : ∃ zb zn, e.num?.getD 1 = (if zb then zn else 1) ∧ e.num?.isSome = zb ∧ e.num?.getD 0 = zn := by
    cases e.num? <;> exact ⟨_, _, rfl, rfl, rfl⟩
  rw [h1, h2] at sp
  rw [hz]
  clear hz h1 h2 hc
  refine ESpec.enter Tryd.func9 (by kernel_rfl) rfl (Nat.le_of_ble_eq_true rfl) fun _ cx hnt hfr => ?_
  obtain ⟨F, hF⟩ := real_ex
  refine AK.run hF tabOK hnt ?_
  conv => arg 4; cbv
  refine AKp.call1 hF tabOK hnt sp rfl rfl rfl rfl rfl rfl rfl rfl rfl (by repeat (first | exact True.intro | refine ⟨⟨rfl, rfl, rfl⟩, ?_⟩)) ?_
  rintro x h' fr' ⟨rfl, rfl, rfl⟩
  conv => arg 4; cbv
  cases zb
  · conv => arg 4; cbv
    exact AKp.doneE tabOK hfr (by rfl) (by rfl)
  · conv => arg 4; cbv
    exact AKp.doneE tabOK hfr (by rfl) (by rfl)

theorem Line_spec (e : ErrF) : ESpec Tryd.prog 10 [.d e.dat] (fun x => x = .d (.s (.int .i64 (lineF e)))) := by
  obtain ⟨ed, hed⟩ : ∃ d, d = e.dat := ⟨_, rfl⟩
  rw [← hed]
  refine ESpec.enter Tryd.func10 (by kernel_rfl) rfl (Nat.le_of_ble_eq_true rfl) fun _ cx hnt hfr => ?_
  obtain ⟨F, hF⟩ := real_ex
  refine AK.run hF tabOK hnt ?_
  conv => arg 4; cbv
  refine AKp.enterLoop 4 ?_
  conv => arg 7; cbv
  refine AKl.inv hF tabOK hnt hfr (fun n vs hs => ∃ (e1 : ErrF) (d1 c1 c2 c3 : Dat), d1 = e1.dat ∧ e1.depth = n ∧ lineF e1 = lineF e ∧ vs = [(0, .d d1)] ∧ hs = [(0, .cs 27 [.d c1, .d c2, .d c3])]) e.depth
    ⟨e, ed, _, _, _, hed, rfl, rfl, rfl, rfl⟩ (by repeat (first | exact True.intro | refine ⟨⟨rfl, rfl⟩, ?_⟩)) (by repeat (first | exact True.intro | refine ⟨⟨rfl, rfl, rfl⟩, ?_⟩)) ?_
  rintro J n vs hs hJ ⟨e1, d1, c1, c2, c3, hd1, hdep, hres, rfl, rfl⟩
  conv => arg 4; cbv
  have sp := AsFlt_spec e1 c1 c2 c3
  rw [← hd1] at sp
  cases e1 with
  | flt l w e2 =>
    obtain ⟨d2, hd2⟩ : ∃ d, d = e2.dat := ⟨_, rfl⟩
    simp only [ErrF.isFlt, ErrF.fltOr, ← hd2] at sp
    refine AKp.call1 hF tabOK hnt sp rfl rfl rfl rfl rfl rfl rfl rfl rfl (by repeat (first | exact True.intro | refine ⟨⟨rfl, rfl, rfl⟩, ?_⟩)) ?_
    rintro x h' fr' ⟨rfl, rfl, rfl⟩
    conv => arg 4; cbv
    cases hb : F .eqI l 0
    · rw [f_not0 hF]
      conv => arg 4; cbv
      have hb' := eqI_f hF hb
      rw [← hres, show lineF (.flt l w e2) = l by simp [lineF, hb']]
      exact AKp.doneE tabOK hfr (by rfl) (by rfl)
    · rw [f_not1 hF]
      conv => arg 4; cbv
      have hb' := eqI_t hF hb
      subst hF
      exact AKp.again _ hfr (by repeat (first | exact True.intro | refine ⟨⟨rfl, rfl⟩, ?_⟩)) (by repeat (first | exact True.intro | refine ⟨⟨rfl, rfl, rfl⟩, ?_⟩)) (hJ e2.depth _ _ (by rw [← hdep]; exact Nat.lt_succ_self _) ⟨e2, d2, _, _, _, hd2, rfl, by rw [← hres]; simp [lineF, hb'], rfl, rfl⟩)
  | nil =>
    simp only [ErrF.isFlt, ErrF.fltOr] at sp
    refine AKp.call1 hF tabOK hnt sp rfl rfl rfl rfl rfl rfl rfl rfl rfl (by repeat (first | exact True.intro | refine ⟨⟨rfl, rfl, rfl⟩, ?_⟩)) ?_
    rintro x h' fr' ⟨rfl, rfl, rfl⟩
    conv => arg 4; cbv
    rw [← hres]
    exact AKp.doneE tabOK hfr (by rfl) (by rfl)
  | num m =>
    simp only [ErrF.isFlt, ErrF.fltOr] at sp
    refine AKp.call1 hF tabOK hnt sp rfl rfl rfl rfl rfl rfl rfl rfl rfl (by repeat (first | exact True.intro | refine ⟨⟨rfl, rfl, rfl⟩, ?_⟩)) ?_
    rintro x h' fr' ⟨rfl, rfl, rfl⟩
    conv => arg 4; cbv
    rw [← hres]
    exact AKp.doneE tabOK hfr (by rfl) (by rfl)
  | other m =>
    simp only [ErrF.isFlt, ErrF.fltOr] at sp
    refine AKp.call1 hF tabOK hnt sp rfl rfl rfl rfl rfl rfl rfl rfl rfl (by repeat (first | exact True.intro | refine ⟨⟨rfl, rfl, rfl⟩, ?_⟩)) ?_
    rintro x h' fr' ⟨rfl, rfl, rfl⟩
    conv => arg 4; cbv
    rw [← hres]
    exact AKp.doneE tabOK hfr (by rfl) (by rfl)


theorem What_spec (e : ErrF) : ESpec Tryd.prog 11 [.d e.dat] (fun x => x = .d (.s (.str (whatF e)))) := by
  obtain ⟨ed, hed⟩ : ∃ d, d = e.dat := ⟨_, rfl⟩
  rw [← hed]
  refine ESpec.enter Tryd.func11 (by kernel_rfl) rfl (Nat.le_of_ble_eq_true rfl) fun _ cx hnt hfr => ?_
  obtain ⟨F, hF⟩ := real_ex
  refine AK.run hF tabOK hnt ?_
  conv => arg 4; cbv
  refine AKp.enterLoop 4 ?_
  conv => arg 7; cbv
  refine AKl.inv hF tabOK hnt hfr (fun n vs hs => ∃ (e1 : ErrF) (d1 c1 c2 c3 : Dat), d1 = e1.dat ∧ e1.depth = n ∧ whatF e1 = whatF e ∧ vs = [(0, .d d1)] ∧ hs = [(0, .cs 27 [.d c1, .d c2, .d c3])]) e.depth
    ⟨e, ed, _, _, _, hed, rfl, rfl, rfl, rfl⟩ (by repeat (first | exact True.intro | refine ⟨⟨rfl, rfl⟩, ?_⟩)) (by repeat (first | exact True.intro | refine ⟨⟨rfl, rfl, rfl⟩, ?_⟩)) ?_
  rintro J n vs hs hJ ⟨e1, d1, c1, c2, c3, hd1, hdep, hres, rfl, rfl⟩
  conv => arg 4; cbv
  have sp := AsFlt_spec e1 c1 c2 c3
  rw [← hd1] at sp
  cases e1 with
  | flt l w e2 =>
    obtain ⟨d2, hd2⟩ : ∃ d, d = e2.dat := ⟨_, rfl⟩
    simp only [ErrF.isFlt, ErrF.fltOr, ← hd2] at sp
    refine AKp.call1 hF tabOK hnt sp rfl rfl rfl rfl rfl rfl rfl rfl rfl (by repeat (first | exact True.intro | refine ⟨⟨rfl, rfl, rfl⟩, ?_⟩)) ?_
    rintro x h' fr' ⟨rfl, rfl, rfl⟩
    conv => arg 4; cbv
    cases hb : F .eqS w []
    · rw [f_not0 hF]
      conv => arg 4; cbv
      have hb' := eqS_f hF hb
      rw [← hres, show whatF (.flt l w e2) = w by simp [whatF, hb']]
      exact AKp.doneE tabOK hfr (by rfl) (by rfl)
    · rw [f_not1 hF]
      conv => arg 4; cbv
      have hb' := eqS_t hF hb
      subst hF
      exact AKp.again _ hfr (by repeat (first | exact True.intro | refine ⟨⟨rfl, rfl⟩, ?_⟩)) (by repeat (first | exact True.intro | refine ⟨⟨rfl, rfl, rfl⟩, ?_⟩)) (hJ e2.depth _ _ (by rw [← hdep]; exact Nat.lt_succ_self _) ⟨e2, d2, _, _, _, hd2, rfl, by rw [← hres]; simp [whatF, hb'], rfl, rfl⟩)
  | nil =>
    simp only [ErrF.isFlt, ErrF.fltOr] at sp
    refine AKp.call1 hF tabOK hnt sp rfl rfl rfl rfl rfl rfl rfl rfl rfl (by repeat (first | exact True.intro | refine ⟨⟨rfl, rfl, rfl⟩, ?_⟩)) ?_
    rintro x h' fr' ⟨rfl, rfl, rfl⟩
    conv => arg 4; cbv
    rw [← hres]
    exact AKp.doneE tabOK hfr (by rfl) (by rfl)
  | num m =>
    simp only [ErrF.isFlt, ErrF.fltOr] at sp
    refine AKp.call1 hF tabOK hnt sp rfl rfl rfl rfl rfl rfl rfl rfl rfl (by repeat (first | exact True.intro | refine ⟨⟨rfl, rfl, rfl⟩, ?_⟩)) ?_
    rintro x h' fr' ⟨rfl, rfl, rfl⟩
    conv => arg 4; cbv
    rw [← hres]
    exact AKp.doneE tabOK hfr (by rfl) (by rfl)
  | other m =>
    simp only [ErrF.isFlt, ErrF.fltOr] at sp
    refine AKp.call1 hF tabOK hnt sp rfl rfl rfl rfl rfl rfl rfl rfl rfl (by repeat (first | exact True.intro | refine ⟨⟨rfl, rfl, rfl⟩, ?_⟩)) ?_
    rintro x h' fr' ⟨rfl, rfl, rfl⟩
    conv => arg 4; cbv
    rw [← hres]
    exact AKp.doneE tabOK hfr (by rfl) (by rfl)

def atF (l : Int) : ErrF → ErrF
  | .nil => .nil
  | e => .flt l [] e
def ofF (w : List UInt8) : ErrF → ErrF
  | .nil => .nil
  | e => .flt 0 w e

theorem At_spec (l : Int) (e : ErrF) : ESpec Tryd.prog 13 [.d (.s (.int .i64 l)), .d e.dat] (fun x => x = .d (atF l e).dat) := by
  rcases e.form with ⟨hn2, hf2⟩ | ⟨hn2, t2, x2, hf2⟩
  · rw [hf2, hn2]
    refine ESpec.enter Tryd.func13 (by kernel_rfl) rfl (Nat.le_of_ble_eq_true rfl) fun _ cx hnt hfr => ?_
    obtain ⟨F, hF⟩ := real_ex
    refine AK.run hF tabOK hnt ?_
    conv => arg 4; cbv
    exact AKp.doneE tabOK hfr (by rfl) (by rfl)
  have hc : (atF l e).dat = .iface 27 (.agg [.s (.int .i64 l), .s (.str []), e.dat]) := by cases e <;> first | rfl | exact absurd rfl hn2
  rw [hc, hf2]
  refine ESpec.enter Tryd.func13 (by kernel_rfl) rfl (Nat.le_of_ble_eq_true rfl) fun _ cx hnt hfr => ?_
  obtain ⟨F, hF⟩ := real_ex
  refine AK.run hF tabOK hnt ?_
  conv => arg 4; cbv
  exact AKp.doneE tabOK hfr (by rfl) (by rfl)

theorem Of_spec (w : List UInt8) (e : ErrF) : ESpec Tryd.prog 14 [.d (.s (.str w)), .d e.dat] (fun x => x = .d (ofF w e).dat) := by
  rcases e.form with ⟨hn2, hf2⟩ | ⟨hn2, t2, x2, hf2⟩
  · rw [hf2, hn2]
    refine ESpec.enter Tryd.func14 (by kernel_rfl) rfl (Nat.le_of_ble_eq_true rfl) fun _ cx hnt hfr => ?_
    obtain ⟨F, hF⟩ := real_ex
    refine AK.run hF tabOK hnt ?_
    conv => arg 4; cbv
    exact AKp.doneE tabOK hfr (by rfl) (by rfl)
  have hc : (ofF w e).dat = .iface 27 (.agg [.s (.int .i64 0), .s (.str w), e.dat]) := by cases e <;> first | rfl | exact absurd rfl hn2
  rw [hc, hf2]
  refine ESpec.enter Tryd.func14 (by kernel_rfl) rfl (Nat.le_of_ble_eq_true rfl) fun _ cx hnt hfr => ?_
  obtain ⟨F, hF⟩ := real_ex
  refine AK.run hF tabOK hnt ?_
  conv => arg 4; cbv
  exact AKp.doneE tabOK hfr (by rfl) (by rfl)

def lvlA : List UInt8 := [108, 101, 118, 101, 108, 32, 97]
theorem awake_spec : ESpec Tryd.prog 8 [] (fun x => x = .d (.s (.bool true))) := by
  have s1 := Of_spec [108, 101, 118, 101, 108, 32, 97] (.num 8)
  have s2 := At_spec 3 (.flt 0 [108, 101, 118, 101, 108, 32, 97] (.num 8))
  have s3 := Code_spec (.flt 3 [] (.flt 0 [108, 101, 118, 101, 108, 32, 97] (.num 8)))
  have s4 := Line_spec (.flt 3 [] (.flt 0 [108, 101, 118, 101, 108, 32, 97] (.num 8)))
  have s5 := What_spec (.flt 3 [] (.flt 0 [108, 101, 118, 101, 108, 32, 97] (.num 8)))
  rw [show codeF (.flt 3 [] (.flt 0 [108, 101, 118, 101, 108, 32, 97] (.num 8))) = 8 from rfl] at s3
  rw [show lineF (.flt 3 [] (.flt 0 [108, 101, 118, 101, 108, 32, 97] (.num 8))) = 3 by decide] at s4
  rw [show whatF (.flt 3 [] (.flt 0 [108, 101, 118, 101, 108, 32, 97] (.num 8))) = [108, 101, 118, 101, 108, 32, 97] by decide] at s5
  refine ESpec.enter Tryd.func8 (by kernel_rfl) rfl (Nat.le_of_ble_eq_true rfl) fun _ cx hnt hfr => ?_
  obtain ⟨F, hF⟩ := real_ex
  refine AK.run hF tabOK hnt ?_
  conv => arg 4; cbv
  refine AKp.call hF tabOK hnt s1 rfl rfl rfl rfl rfl rfl rfl (by repeat' first | exact .refl _ | constructor) ?_
  rintro _ rfl
  conv => arg 4; cbv
  refine AKp.call hF tabOK hnt s2 rfl rfl rfl rfl rfl rfl rfl (by repeat' first | exact .refl _ | constructor) ?_
  rintro _ rfl
  conv => arg 4; cbv
  rw [f_not0 hF]
  conv => arg 4; cbv
  refine AKp.call hF tabOK hnt s3 rfl rfl rfl rfl rfl rfl rfl (by repeat' first | exact .refl _ | constructor) ?_
  rintro _ rfl
  conv => arg 4; cbv
  rw [eqI_r hF]
  conv => arg 4; cbv
  refine AKp.call hF tabOK hnt s4 rfl rfl rfl rfl rfl rfl rfl (by repeat' first | exact .refl _ | constructor) ?_
  rintro _ rfl
  conv => arg 4; cbv
  rw [eqI_r hF]
  conv => arg 4; cbv
  refine AKp.call hF tabOK hnt s5 rfl rfl rfl rfl rfl rfl rfl (by repeat' first | exact .refl _ | constructor) ?_
  rintro _ rfl
  conv => arg 4; cbv
  rw [eqS_r hF]
  exact AKp.doneE tabOK hfr (by rfl) (by rfl)
end Go.Proofs.YtfblglnfplpagaaDoor
