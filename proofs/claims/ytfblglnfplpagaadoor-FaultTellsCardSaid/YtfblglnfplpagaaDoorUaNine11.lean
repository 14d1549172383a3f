/- errors.Is on the errors of this chapter; FaultIs: the function returns true. -/
import Derived.Test.YtfblglnfplpagaaDoorUaNine10
namespace Go.Proofs.YtfblglnfplpagaaDoor
open Go Go.Proofs Go.Ua Go.Extern
set_option linter.unusedVariables false

theorem eq28 (a b : Int) (w : World) : (Op.equalIn 10000 25 (.iface 28 (.int .i64 a)) (.iface 28 (.int .i64 b))).run Tryd.prog w = .ok (a == b) w := by kernel_rfl

theorem AKp.eq28 {cx : Cx Tryd.prog} {Q : Exit → Act → World → Prop} {F : Fam} (hF : F = Fam.real) {n : Nat} (hn : cx.nt = n) {all r : List Oper} {k : List KI} {S : St} {o : Oper} {x y : Operand} {yt : TypeId} {a b : Int} (q : Bool) (hq : q = (a == b))
    (ho : o.op = .binOp .eql 25 x y yt) (hg : guardB all S o = some true) (hd : dstB n o = true) (hx : evl S x = .d (.iface 28 (.s (.int .i64 a)))) (hy : evl S y = .d (.iface 28 (.s (.int .i64 b))))
    (next : AKp Tryd.prog cx Q (runC (Ar.of F) tab n 100000 (.ops all r :: k) (S.put o.dst (.d (.s (.bool q)))))) : AKp Tryd.prog cx Q (.ops all (o :: r) :: k, S) := by
  refine AKp.op (S' := S) hF tabOK hn hg hd (fun ι ac w HR => ?_) next
  have h1 := HR.evl x
  have h2 := HR.evl y
  rw [hx] at h1
  rw [hy] at h2
  obtain ⟨u1, e1, g1⟩ := iface_form _ _ _ _ _ h1
  obtain ⟨u2, e2, g2⟩ := iface_form _ _ _ _ _ h2
  obtain rfl := rep_s g1
  obtain rfl := rep_s g2
  refine ⟨.bool q, w, ι, ?_, HR, .d _ _ (.s (.bool q) trivial)⟩
  have hb : Go.binOp .eql 25 (.iface 28 (.int .i64 a)) (.iface 28 (.int .i64 b)) = (do pure (.bool (← Op.equal 25 (.iface 28 (.int .i64 a)) (.iface 28 (.int .i64 b))))) := rfl
  simp only [execOp, ho, e1, e2, Sc.val]
  rw [hb]
  simp [Sem.run_bind, Op.equal, Op.maxDepth, Go.Proofs.YtfblglnfplpagaaDoor.eq28 a b w, eqGuard_plain, hq]

/-- The number that is wrapped is this one. -/
def isF (e : ErrF) (n : Int) : Bool := match e.num? with
  | some m => m == n
  | none => false

theorem is_spec (e : ErrF) (hne : e ≠ .nil) (n0 : Int) : ESpec Tryd.prog 32 [.d e.dat, .d (.iface 28 (.s (.int .i64 n0))), .d (.s (.bool true))] (fun x => x = .d (.s (.bool (isF e n0)))) := by
  obtain ⟨ed, hed⟩ : ∃ d, d = e.dat := ⟨_, rfl⟩
  obtain ⟨z, hz⟩ : ∃ z, z = isF e n0 := ⟨_, rfl⟩
  rw [← hed, ← hz]
  refine ESpec.enter Tryd.func32 (by kernel_rfl) rfl (Nat.le_of_ble_eq_true rfl) fun _ cx hnt hfr => ?_
  obtain ⟨F, hF⟩ := real_ex
  refine AK.run hF tabOK hnt ?_
  conv => arg 4; cbv
  refine AKp.enterLoop 6 ?_
  conv => arg 7; cbv
  refine AKl.inv hF tabOK hnt hfr (fun n vs hs => ∃ (e1 : ErrF), e1 ≠ .nil ∧ e1.depth = n ∧ z = isF e1 n0 ∧ vs = [(0, .d e1.dat)] ∧ hs = []) e.depth
    ⟨e, hne, rfl, hz, by rw [← hed], rfl⟩ (by repeat (first | exact True.intro | refine ⟨⟨rfl, rfl⟩, ?_⟩)) (by repeat (first | exact True.intro | refine ⟨⟨rfl, rfl, rfl⟩, ?_⟩)) ?_
  rintro J n vs hs hJ ⟨e1, hne1, hdep, hz1, rfl, rfl⟩
  cases e1 with
  | nil => exact absurd rfl hne1
  | num m =>
    obtain ⟨q, hq⟩ : ∃ q, q = (m == n0) := ⟨_, rfl⟩
    have hqz : z = q := by rw [hz1, hq]; rfl
    conv => arg 4; cbv
    refine AKp.eq28 hF hnt q hq rfl rfl rfl rfl rfl ?_
    rw [hqz]
    cases q
    case' true =>
      conv => arg 4; cbv
      exact AKp.doneE tabOK hfr (by rfl) (by rfl)
    case' false =>
      conv => arg 4; cbv
    refine AKp.tassert hF tabOK hnt false rfl rfl rfl rfl (fun R rv w h => no28_89 rv w) ?_
    conv => arg 4; cbv
    refine AKp.tassert hF tabOK hnt false rfl rfl rfl rfl (fun R rv w h => no28_85 rv w) ?_
    conv => arg 4; cbv
    refine AKp.tassert hF tabOK hnt false rfl rfl rfl rfl (fun R rv w h => no28_86 rv w) ?_
    conv => arg 4; cbv
    exact AKp.doneE tabOK hfr (by rfl) (by rfl)

  | other m =>
    have hqz : z = false := by rw [hz1]; rfl
    rw [hqz]
    conv => arg 4; cbv
    refine AKp.tassert hF tabOK hnt false rfl rfl rfl rfl (fun R rv w h => no72_89 rv w) ?_
    conv => arg 4; cbv
    refine AKp.tassert hF tabOK hnt false rfl rfl rfl rfl (fun R rv w h => no72_85 rv w) ?_
    conv => arg 4; cbv
    refine AKp.tassert hF tabOK hnt false rfl rfl rfl rfl (fun R rv w h => no72_86 rv w) ?_
    conv => arg 4; cbv
    exact AKp.doneE tabOK hfr (by rfl) (by rfl)

  | flt l w e2 =>
    have sp := Unwrap_spec l w e2.dat
    obtain ⟨d2, hd2⟩ : ∃ d, d = e2.dat := ⟨_, rfl⟩
    have hfd : (ErrF.flt l w e2).dat = .iface 27 (.agg [.s (.int .i64 l), .s (.str w), d2]) := by rw [hd2]; rfl
    rw [← hd2] at sp
    rw [hfd]
    conv => arg 4; cbv
    refine AKp.tassert hF tabOK hnt false rfl rfl rfl rfl (fun R rv w h => no27_89 rv w) ?_
    conv => arg 4; cbv
    refine AKp.tassert hF tabOK hnt true rfl rfl rfl rfl (fun R rv w h => is27_85 rv w) ?_
    conv => arg 4; cbv
    refine AKp.callI hF tabOK hnt sp rfl rfl rfl rfl rfl rfl (fun R rv w h => ?_) ?_
    · cases h with
      | agg _ vs hl h1 hr =>
        match vs, hl with
        | [x, y, z], _ => exact methodUnwrap x y z w
    rintro _ rfl
    conv => arg 4; cbv
    rcases e2.form with ⟨hn2, hf2⟩ | ⟨hn2, t2, x2, hf2⟩
    · have hqz : z = false := by rw [hz1, hn2]; rfl
      rw [hd2, hf2, hqz]
      conv => arg 4; cbv
      exact AKp.doneE tabOK hfr (by rfl) (by rfl)

    · rw [hf2] at hd2
      rw [hd2]
      conv => arg 4; cbv
      exact AKp.again _ hfr (by repeat (first | exact True.intro | refine ⟨⟨rfl, rfl⟩, ?_⟩)) (by repeat (first | exact True.intro | refine ⟨⟨rfl, rfl, rfl⟩, ?_⟩)) (hJ e2.depth [(0, .d (.iface t2 x2))] [] (by rw [← hdep]; exact Nat.lt_succ_self _) ⟨e2, hn2, rfl, by rw [hz1]; rfl, by rw [hf2], rfl⟩)

theorem H_comp (R : Rd) (ι : Io) (rv : Value) (vs : List Value) (w : World) (hrv : RepD R (.agg [.s (.tok 4 28)]) rv) (hl : ([] : List AV).length = vs.length) (hr : ∀ (i : Nat) (x : AV) (v : Value), ([] : List AV)[i]? = some x → vs[i]? = some v → RepV R ι x v) :
    ∃ receiver v, (Go.method (Tryd.prog.types.size + Made.depth) 78 rv "Comparable").run Tryd.prog w = .ok (71, receiver) w ∧
      (ReflectliteType.method (fun t => do Rtype.noPackHeld "Comparable" t; pure (.bool (← typeInfo t).comparable)) (receiver :: vs).toArray).run Tryd.prog w = .ok v w ∧ RepV R ι (.d (.s (.bool true))) v := by
  obtain rfl : vs = [] := List.eq_nil_of_length_eq_zero (by simpa using hl.symm)
  obtain rfl := rtype_inv hrv
  exact ⟨_, _, methodComparable _ w, comparable28 w, .d _ _ (.s (.bool true) trivial)⟩

theorem ErrIs_spec (e : ErrF) (hne : e ≠ .nil) (n0 : Int) : ESpec Tryd.prog 24 [.d e.dat, .d (.iface 28 (.s (.int .i64 n0)))] (fun x => x = .d (.s (.bool (isF e n0)))) := by
  have sp := is_spec e hne n0
  obtain ⟨z, hz⟩ : ∃ z, z = isF e n0 := ⟨_, rfl⟩
  rw [← hz] at sp ⊢
  rcases e.form with ⟨h, _⟩ | ⟨_, t, x, h⟩
  · exact absurd h hne
  rw [h] at sp ⊢
  refine ESpec.enter Tryd.func24 (by kernel_rfl) rfl (Nat.le_of_ble_eq_true rfl) fun _ cx hnt hfr => ?_
  obtain ⟨F, hF⟩ := real_ex
  refine AK.run hF tabOK hnt ?_
  conv => arg 4; cbv
  refine AKp.ext0 hF tabOK hnt Tryd.func31 (by kernel_rfl) (by kernel_rfl) (by kernel_rfl) (by kernel_rfl) rfl rfl rfl rfl rfl (H_typeOf 28 (.s (.int .i64 n0)) typeOf28) ?_
  conv => arg 4; cbv
  refine AKp.inv0 hF tabOK hnt Tryd.func71 (by kernel_rfl) (by kernel_rfl) (by kernel_rfl) (by kernel_rfl) rfl rfl rfl rfl rfl rfl H_comp ?_
  conv => arg 4; cbv
  refine AKp.call hF tabOK hnt sp rfl rfl rfl rfl rfl rfl rfl (by repeat' first | exact .refl _ | constructor) ?_
  rintro _ rfl
  conv => arg 4; cbv
  exact AKp.doneE tabOK hfr (by rfl) (by rfl)

theorem FIs_spec (e : ErrF) (hne : e ≠ .nil) (n0 : Int) : ESpec Tryd.prog 19 [.d e.dat, .d (.s (.int .i64 n0))] (fun x => x = .d (.s (.bool (isF e n0)))) := by
  have sp := ErrIs_spec e hne n0
  obtain ⟨z, hz⟩ : ∃ z, z = isF e n0 := ⟨_, rfl⟩
  rw [← hz] at sp ⊢
  rcases e.form with ⟨h, _⟩ | ⟨_, t, x, h⟩
  · exact absurd h hne
  rw [h] at sp ⊢
  refine ESpec.enter Tryd.func19 (by kernel_rfl) rfl (Nat.le_of_ble_eq_true rfl) fun _ cx hnt hfr => ?_
  obtain ⟨F, hF⟩ := real_ex
  refine AK.run hF tabOK hnt ?_
  conv => arg 4; cbv
  rw [f_not0 hF]
  conv => arg 4; cbv
  refine AKp.call hF tabOK hnt sp rfl rfl rfl rfl rfl rfl rfl (by repeat' first | exact .refl _ | constructor) ?_
  rintro _ rfl
  conv => arg 4; cbv
  exact AKp.doneE tabOK hfr (by rfl) (by rfl)

theorem isF_made (code : Int) (ws : List WrapF) (n0 : Int) : isF (madeErr code ws) n0 = (if code < 0 then false else code == n0) := by
  unfold isF
  rw [madeErr, num_errOf]
  rcases baseF_cases code with ⟨h0, h⟩ | ⟨h0, h⟩ <;> rw [h]
  · rw [if_pos h0]; rfl
  · rw [if_neg h0]; rfl

theorem FaultIs_spec (code n0 : Int) (ws : List WrapF) : ESpec Tryd.prog 6 [.d (.s (.int .i64 code)), .d (.s (.int .i64 n0)), .d (.view 3 (wrapDs ws))] (fun x => x = .d (.s (.bool true))) := by
  have s0 := made_spec code ws
  have s1 := FIs_spec (madeErr code ws) (made_ne code ws) n0
  have s2 := FIs_spec (madeErr code ws) (made_ne code ws) code
  rw [isF_made] at s1 s2
  obtain ⟨ed, hed⟩ : ∃ d, d = (madeErr code ws).dat := ⟨_, rfl⟩
  obtain ⟨wd, hwd⟩ : ∃ d, d = wrapDs ws := ⟨_, rfl⟩
  obtain ⟨ld, hld⟩ : ∃ d, d = linkDs (linksOf ws) := ⟨_, rfl⟩
  rw [← hld] at s0
  rw [← hed] at s0 s1 s2
  rw [← hwd] at s0 ⊢
  obtain ⟨te, xe, rfl⟩ : ∃ t x, ed = .iface t x := by
    rcases (madeErr code ws).form with ⟨h, _⟩ | ⟨_, t, x, h⟩
    · exact absurd h (made_ne code ws)
    · exact ⟨t, x, by rw [hed, h]⟩
  refine ESpec.enter Tryd.func6 (by kernel_rfl) rfl (Nat.le_of_ble_eq_true rfl) fun _ cx hnt hfr => ?_
  obtain ⟨F, hF⟩ := real_ex
  refine AK.run hF tabOK hnt ?_
  conv => arg 4; cbv
  refine AKp.call hF tabOK hnt awake_spec rfl rfl rfl rfl rfl rfl rfl (by repeat' first | exact .refl _ | constructor) ?_
  rintro _ rfl
  conv => arg 4; cbv
  rw [f_not1 hF]
  conv => arg 4; cbv
  refine AKp.call hF tabOK hnt s0 rfl rfl rfl rfl rfl rfl rfl (by repeat' first | exact .refl _ | constructor) ?_
  rintro _ rfl
  conv => arg 4; cbv
  cases hb : F .ltI code 0
  case' true =>
    have hlt := ltI_t hF hb
    rw [if_pos hlt] at s1
    conv => arg 4; cbv
    refine AKp.call hF tabOK hnt s1 rfl rfl rfl rfl rfl rfl rfl (by repeat' first | exact .refl _ | constructor) ?_
    rintro _ rfl
    conv => arg 4; cbv
    rw [f_not0 hF]
    exact AKp.doneE tabOK hfr (by rfl) (by rfl)
  case' false =>
    have hlt := ltI_f hF hb
    rw [if_neg hlt] at s1 s2
    rw [show (code == code) = true by simp] at s2
    obtain ⟨q, hq⟩ : ∃ q, q = (code == n0) := ⟨_, rfl⟩
    rw [← hq] at s1
    conv => arg 4; cbv
    refine AKp.call hF tabOK hnt s2 rfl rfl rfl rfl rfl rfl rfl (by repeat' first | exact .refl _ | constructor) ?_
    rintro _ rfl
    conv => arg 4; cbv
    refine AKp.call hF tabOK hnt s1 rfl rfl rfl rfl rfl rfl rfl (by repeat' first | exact .refl _ | constructor) ?_
    rintro _ rfl
    conv => arg 4; cbv
    rw [show F .eqB q (F .eqI code n0) = true by rw [hF, hq]; show ((code == n0) == (code == n0)) = true; simp]
    exact AKp.doneE tabOK hfr (by rfl) (by rfl)
end Go.Proofs.YtfblglnfplpagaaDoor
