/- errors.As at a Fault. -/
import Derived.Test.YtfblglnfplpagaaDoorUaNine3
namespace Go.Proofs.YtfblglnfplpagaaDoor
open Go Go.Proofs Go.Ua Go.Extern
set_option linter.unusedVariables false

def ErrF.isFlt : ErrF → Bool
  | .flt _ _ _ => true
  | _ => false

/-- The outermost Fault's cells, or what was there. -/
def ErrF.fltOr (e : ErrF) (c : List AV) : List AV := match e with
  | .flt l w e => [.d (.s (.int .i64 l)), .d (.s (.str w)), .d e.dat]
  | _ => c

theorem asFlt_spec (e : ErrF) (hne : e ≠ .nil) (c1 c2 c3 : Dat) :
    ASpec Tryd.prog 30 [.d e.dat, .iface 55 (.ptr 0 0 0 3), rv3 4 55 (.ptr 1 0 0 1) 150, .d (.iface 78 (.agg [.s (.tok 4 27)]))] [(1, .cs 55 [.ptr 0 0 0 3]), (0, .cs 27 [.d c1, .d c2, .d c3])] 2
      (fun x h' fr' => x = .d (.s (.bool e.isFlt)) ∧ h' = [(1, .cs 55 [.ptr 0 0 0 3]), (0, .cs 27 (e.fltOr [.d c1, .d c2, .d c3]))] ∧ fr' = 2) := by
  refine ASpec.enter Tryd.func30 (by kernel_rfl) rfl (Nat.le_of_ble_eq_true rfl) ?_
  intro cx hnt hfr
  obtain ⟨F, hF⟩ := real_ex
  obtain ⟨ed, hed⟩ : ∃ d, d = e.dat := ⟨_, rfl⟩
  rw [← hed]
  refine AK.run hF tabOK hnt ?_
  conv => arg 4; cbv
  refine AKp.enterLoop 16 ?_
  conv => arg 7; cbv
  refine AKl.invL hF tabOK hnt (by rw [hfr]; exact Nat.le_of_ble_eq_true rfl) (fun n vs hs => vs = [(0, .d ed)] ∧
      hs = [(2, .cs 63 [.d (.s (.tok 4 55)), .ptr 1 0 0 1, .d (.s (.int .u64 150))]), (1, .cs 55 [.ptr 0 0 0 3]), (0, .cs 27 [.d c1, .d c2, .d c3])]) 0
    ⟨rfl, rfl⟩ (by repeat (first | exact True.intro | refine ⟨⟨rfl, rfl⟩, ?_⟩)) (by repeat (first | exact True.intro | refine ⟨⟨rfl, rfl, rfl⟩, ?_⟩)) ?_
  rintro J n vs hs hJ ⟨rfl, rfl⟩
  rw [hed]
  cases e with
  | nil => exact absurd rfl hne
  | num m =>
    conv => arg 4; cbv
    refine AKp.ext0 hF tabOK hnt Tryd.func31 (by kernel_rfl) (by kernel_rfl) (by kernel_rfl) (by kernel_rfl) rfl rfl rfl rfl rfl (H_typeOf 28 (.s (.int .i64 m)) typeOf28) ?_
    conv => arg 4; cbv
    refine AKp.inv0 hF tabOK hnt Tryd.func70 (by kernel_rfl) (by kernel_rfl) (by kernel_rfl) (by kernel_rfl) rfl rfl rfl rfl rfl rfl (H_assign 28 27 false fun w => (assignable w).2.2.2.1) ?_
    conv => arg 4; cbv
    refine AKp.tassert hF tabOK hnt false rfl rfl rfl rfl (fun R rv w h => no28_82 rv w) ?_
    conv => arg 4; cbv
    refine AKp.tassert hF tabOK hnt false rfl rfl rfl rfl (fun R rv w h => no28_85 rv w) ?_
    conv => arg 4; cbv
    refine AKp.tassert hF tabOK hnt false rfl rfl rfl rfl (fun R rv w h => no28_86 rv w) ?_
    conv => arg 4; cbv
    exact AKp.doneN (h' := [(1, .cs 55 [.ptr 0 0 0 3]), (0, .cs 27 [.d c1, .d c2, .d c3])]) tabOK hfr (by rfl) (by repeat (first | exact True.intro | refine ⟨⟨rfl, rfl, rfl⟩, ?_⟩)) ⟨rfl, rfl, rfl⟩
  | other m =>
    conv => arg 4; cbv
    refine AKp.ext0 hF tabOK hnt Tryd.func31 (by kernel_rfl) (by kernel_rfl) (by kernel_rfl) (by kernel_rfl) rfl rfl rfl rfl rfl (H_typeOf 72 (.vref [.s (.str m)]) typeOf72) ?_
    conv => arg 4; cbv
    refine AKp.inv0 hF tabOK hnt Tryd.func70 (by kernel_rfl) (by kernel_rfl) (by kernel_rfl) (by kernel_rfl) rfl rfl rfl rfl rfl rfl (H_assign 72 27 false fun w => (assignable w).2.2.2.2.2) ?_
    conv => arg 4; cbv
    refine AKp.tassert hF tabOK hnt false rfl rfl rfl rfl (fun R rv w h => no72_82 rv w) ?_
    conv => arg 4; cbv
    refine AKp.tassert hF tabOK hnt false rfl rfl rfl rfl (fun R rv w h => no72_85 rv w) ?_
    conv => arg 4; cbv
    refine AKp.tassert hF tabOK hnt false rfl rfl rfl rfl (fun R rv w h => no72_86 rv w) ?_
    conv => arg 4; cbv
    exact AKp.doneN (h' := [(1, .cs 55 [.ptr 0 0 0 3]), (0, .cs 27 [.d c1, .d c2, .d c3])]) tabOK hfr (by rfl) (by repeat (first | exact True.intro | refine ⟨⟨rfl, rfl, rfl⟩, ?_⟩)) ⟨rfl, rfl, rfl⟩
  | flt l w e2 =>
    obtain ⟨d2, hd2⟩ : ∃ d, d = e2.dat := ⟨_, rfl⟩
    have hfd : (ErrF.flt l w e2).dat = .iface 27 (.agg [.s (.int .i64 l), .s (.str w), d2]) := by rw [hd2]; rfl
    rw [hfd]
    conv => arg 4; cbv
    refine AKp.ext0 hF tabOK hnt Tryd.func31 (by kernel_rfl) (by kernel_rfl) (by kernel_rfl) (by kernel_rfl) rfl rfl rfl rfl rfl (H_typeOf 27 _ typeOf27) ?_
    conv => arg 4; cbv
    refine AKp.inv0 hF tabOK hnt Tryd.func70 (by kernel_rfl) (by kernel_rfl) (by kernel_rfl) (by kernel_rfl) rfl rfl rfl rfl rfl rfl (H_assign 27 27 true fun w => (assignable w).2.2.2.2.1) ?_
    conv => arg 4; cbv
    refine AKp.viaPtr hF tabOK hnt (rv3 4 27 (.ptr 0 0 0 3) 409) Tryd.func34 (by kernel_rfl) (by kernel_rfl) (by kernel_rfl) (by kernel_rfl) rfl rfl rfl rfl rfl rfl (fun a p w h => ⟨_, elemVF a p w h, fun R ι hp => ?_⟩) ?_
    · refine .agg _ [.pointer (some ⟨4, 27, none⟩), .pointer (some p), .int .u64 409] rfl (by intro v hv; simp at hv; rcases hv with rfl | rfl | rfl <;> rfl) fun i c v hc hv => ?_
      match i, hc, hv with
      | 0, hc, hv => cases hc; cases hv; exact .d _ _ (.s (.tok 4 27) trivial)
      | 1, hc, hv => cases hc; cases hv; exact hp
      | 2, hc, hv => cases hc; cases hv; exact .d _ _ (.s (.int .u64 409) (Sc.ok_of rfl))
      | i + 3, hc, hv => simp at hc
    conv => arg 4; cbv
    refine AKp.valueOf hF tabOK hnt (x := .d (.agg [.s (.int .i64 l), .s (.str w), d2])) 3 Tryd.func27 (by kernel_rfl) (by kernel_rfl) (by kernel_rfl) (by kernel_rfl) rfl rfl rfl rfl (by rfl) (iface_form 27 _) rfl (fun R ι u w hu => by
      cases hu with
      | d _ _ hu =>
        cases hu with
        | agg _ vs hl h1 hr =>
          match vs, hl with
          | [x, y, z], _ => exact valueOfFlt x y z w) (Sc.ok_of rfl) ?_
    conv => arg 4; cbv
    refine AKp.setV hF tabOK hnt Tryd.func35 (by kernel_rfl) (by kernel_rfl) (by kernel_rfl) (by kernel_rfl) rfl rfl rfl rfl rfl rfl (by decide) rfl setF ?_
    conv => arg 4; cbv
    exact AKp.doneN (h' := [(1, .cs 55 [.ptr 0 0 0 3]), (0, .cs 27 [.d (.s (.int .i64 l)), .d (.s (.str w)), .d d2])]) tabOK hfr (by rfl) (by repeat (first | exact True.intro | refine ⟨⟨rfl, rfl, rfl⟩, ?_⟩)) ⟨rfl, by rw [hd2]; rfl, rfl⟩

theorem AsFlt_spec (e : ErrF) (c1 c2 c3 : Dat) :
    ASpec Tryd.prog 22 [.d e.dat, .iface 55 (.ptr 0 0 0 3)] [(0, .cs 27 [.d c1, .d c2, .d c3])] 1
      (fun x h' fr' => x = .d (.s (.bool e.isFlt)) ∧ h' = [(0, .cs 27 (e.fltOr [.d c1, .d c2, .d c3]))] ∧ fr' = 1) := by
  refine ASpec.enter Tryd.func22 (by kernel_rfl) rfl (Nat.le_of_ble_eq_true rfl) ?_
  intro cx hnt hfr
  obtain ⟨F, hF⟩ := real_ex
  rcases e.form with ⟨hn2, hf2⟩ | ⟨hn2, t2, x2, hf2⟩
  · rw [hf2, hn2]
    refine AK.run hF tabOK hnt ?_
    conv => arg 4; cbv
    exact AKp.doneN (h' := [(0, .cs 27 [.d c1, .d c2, .d c3])]) tabOK hfr (by rfl) (by repeat (first | exact True.intro | refine ⟨⟨rfl, rfl, rfl⟩, ?_⟩)) ⟨rfl, rfl, rfl⟩
  have sp := asFlt_spec e hn2 c1 c2 c3
  rw [hf2] at sp ⊢
  obtain ⟨l1, l2, l3, hl⟩ : ∃ l1 l2 l3, e.fltOr [.d c1, .d c2, .d c3] = [.d l1, .d l2, .d l3] := by
    cases e <;> exact ⟨_, _, _, rfl⟩
  rw [hl] at sp ⊢
  generalize e.isFlt = zb at *
  refine AK.run hF tabOK hnt ?_
  conv => arg 4; cbv
  refine AKp.valueOf hF tabOK hnt (x := .ptr 0 0 0 3) 1 Tryd.func27 (by kernel_rfl) (by kernel_rfl) (by kernel_rfl) (by kernel_rfl) rfl rfl rfl rfl (by rfl) (iface_formP 55 0 0 0 3) rfl (fun R ι u w hu => by cases hu; exact valueOfF _ w) (Sc.ok_of rfl) ?_
  conv => arg 4; cbv
  refine AKp.ext0 hF tabOK hnt Tryd.func28 (by kernel_rfl) (by kernel_rfl) (by kernel_rfl) (by kernel_rfl) rfl rfl rfl rfl rfl (H_type 55 typeF 1 0 0 1) ?_
  conv => arg 4; cbv
  refine AKp.inv0 hF tabOK hnt Tryd.func62 (by kernel_rfl) (by kernel_rfl) (by kernel_rfl) (by kernel_rfl) rfl rfl rfl rfl rfl rfl (H_kind 55 22 kindF (Sc.ok_of rfl)) ?_
  conv => arg 4; cbv
  rw [show F .eqI (Int.ofNat 22) 22 = true by rw [hF]; rfl, show F .not true = false by rw [hF]; rfl]
  conv => arg 4; cbv
  refine AKp.viaPtr hF tabOK hnt (.d (.s (.bool false))) Tryd.func29 (by kernel_rfl) (by kernel_rfl) (by kernel_rfl) (by kernel_rfl) rfl rfl rfl rfl rfl rfl (fun a p w h => ⟨_, isNilF a p w h, fun R ι hp => .d _ _ (.s (.bool false) trivial)⟩) ?_
  conv => arg 4; cbv
  refine AKp.inv0 hF tabOK hnt Tryd.func72 (by kernel_rfl) (by kernel_rfl) (by kernel_rfl) (by kernel_rfl) rfl rfl rfl rfl rfl rfl (H_elem 55 27 elemF) ?_
  conv => arg 4; cbv
  refine AKp.inv0 hF tabOK hnt Tryd.func62 (by kernel_rfl) (by kernel_rfl) (by kernel_rfl) (by kernel_rfl) rfl rfl rfl rfl rfl rfl (H_kind 27 25 kind27 (Sc.ok_of rfl)) ?_
  conv => arg 4; cbv
  rw [show F .eqI (Int.ofNat 25) 20 = false by rw [hF]; rfl, show F .not false = true by rw [hF]; rfl]
  conv => arg 4; cbv
  refine AKp.loadG hF tabOK hnt (v := .iface 78 (.agg #[.pointer (some ⟨4, 25, none⟩)])) (z := .d (.iface 78 (.agg [.s (.tok 4 25)]))) rfl rfl rfl ⟨rfl, rfl⟩ (fun w hw => ?_) (fun R ι => rtype_rep 25) ?_
  · simp [Instr.loadAt, Instr.sureAddr, loadVar, isAgg, underlying, Tryd.underlying66, hw, Result.andThen]
  conv => arg 4; cbv
  refine AKp.inv0 hF tabOK hnt Tryd.func73 (by kernel_rfl) (by kernel_rfl) (by kernel_rfl) (by kernel_rfl) rfl rfl rfl rfl rfl rfl (H_implements 27 implements27) ?_
  conv => arg 4; cbv
  rw [show F .not true = false by rw [hF]; rfl]
  conv => arg 4; cbv
  refine AKp.call1 hF tabOK hnt sp rfl rfl rfl rfl rfl rfl rfl rfl rfl (by repeat (first | exact True.intro | refine ⟨⟨rfl, rfl, rfl⟩, ?_⟩)) ?_
  rintro x h' fr' ⟨rfl, rfl, rfl⟩
  conv => arg 4; cbv
  exact AKp.doneN (h' := [(0, .cs 27 [.d l1, .d l2, .d l3])]) tabOK hfr (by rfl) (by repeat (first | exact True.intro | refine ⟨⟨rfl, rfl, rfl⟩, ?_⟩)) ⟨rfl, rfl, rfl⟩
end Go.Proofs.YtfblglnfplpagaaDoor
