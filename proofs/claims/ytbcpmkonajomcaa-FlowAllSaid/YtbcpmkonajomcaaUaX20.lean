/- The reference's class; any request has the document's class. -/
import Derived.Test.YtbcpmkonajomcaaUaX19
namespace Go.Proofs.Ytbcpmkonajomcaa
open Go Go.Proofs Go.Ua
set_option linter.unusedVariables false

theorem refClassify_spec (l : List SchemaF) (q : ReqF) (a1 a2 a3 a4 dg : Int) (lv : List Dat) (hn : ∀ s, s ∈ l → s.name.length ≤ 1000) (hu : q.user.length ≤ 1000) (hsp : q.space.length ≤ 1000) :
    ESpec Try.prog 11 [.d (.agg [.s (.int .i64 a1), .s (.int .i64 a2), .s (.int .i64 a3), .s (.int .i64 a4), .view 10 lv, .view 5 (schemaDs l), .s (.int .u64 dg)]), .d q.dat]
      (fun x => x = .tup [.d (classF l q).1, .d (.s (.int .i64 (classF l q).2))]) := by
  have sp := fun s => refSchema_spec s q
  have sk : ∀ b, ESpec Try.prog 14 [.d (.s (.int .i64 b)), .d q.dat] (fun x => x = .d (.s (.str (keyF b q.user q.space)))) := fun b => refKey_spec b q.user (strs q.groups) q.verb q.resource q.space q.objects
  have hkl : ∀ b, (keyF b q.user q.space).length ≤ 1000 := by
    intro b
    unfold keyF
    split
    · exact hu
    · split
      · exact hsp
      · exact Nat.zero_le _
  unfold ReqF.dat reqD at *
  generalize strs q.groups = eg at *
  obtain ⟨ss, hss⟩ : ∃ e, e = schemaDs l := ⟨_, rfl⟩
  rw [← hss]
  have hsl : ss.length = l.length := by rw [hss]; simp [schemaDs]
  refine ESpec.enter Try.func11 (by kernel_rfl) rfl (Nat.le_of_ble_eq_true rfl) fun hok cx hnt hfr => ?_
  have hl' : l.length < 9223372036854775808 := hsl ▸ lt63 hok.1.2.2.2.2.2.1.1
  obtain ⟨F, hF⟩ := real_ex
  refine AK.run hF tabOK hnt ?_
  conv => arg 4; cbv
  refine AKp.freezeBox 1 rfl rfl ?_
  refine AKp.freezeBox 0 rfl rfl ?_
  conv => arg 4; arg 2; cbv
  refine AKp.enterLoop 9 ?_
  conv => arg 7; cbv
  refine AKl.inv hF tabOK hnt hfr (fun n vs hs => ∃ (i : Nat) (iv : Int), i + n = l.length ∧ iv = i ∧ (∀ j (hj : j < l.length), j < i → schemaF l[j] q = false) ∧ vs = [(7, .d (.s (.int .i64 iv))), (5, .d (.s (.int .i64 0)))] ∧
      hs = [(2, .cs 34 [.d (.s (.str [])), .d (.s (.str [])), .d (.s (.str [])), .d (.s (.int .u64 0))])]) l.length
    ⟨0, _, by omega, rfl, fun j _ hj => absurd hj (by omega), rfl, rfl⟩ (by repeat (first | exact True.intro | refine ⟨⟨rfl, rfl⟩, ?_⟩)) (by repeat (first | exact True.intro | refine ⟨⟨rfl, rfl, rfl⟩, ?_⟩)) ?_
  rintro J n vs hs hJ ⟨i, iv, hi, hiv, hno, rfl, rfl⟩
  conv => arg 4; cbv
  cases hb : F .ltI iv (F .lenD ss)
  · have hlt := ltI_f hF hb
    rw [f_lenD hF] at hlt
    conv => arg 4; cbv
    have hcl : classF l q = (clD [] [] [] 0, 6) := by
      unfold classF
      rw [List.find?_eq_none.2 fun x hx => by
        obtain ⟨j, hj, rfl⟩ := List.mem_iff_getElem.1 hx
        simp [hno j hj (by omega)]]
    rw [hcl]
    exact AKp.doneE tabOK hfr (by rfl) (by rfl)
  · have hlt := ltI_t hF hb
    rw [f_lenD hF] at hlt
    have hil : i < l.length := by omega
    obtain ⟨y, hy⟩ : ∃ y, y = l[i] := ⟨_, rfl⟩
    have sy := sp y
    obtain ⟨er, her⟩ : ∃ e, e = ruleDs y.rules := ⟨_, rfl⟩
    have hyd : y.dat = .agg [.s (.str y.name), .s (.str y.level), .s (.int .i64 y.rank), .s (.int .i64 y.by_), .view 5 er] := by rw [her]; rfl
    rw [hyd] at sy
    have hg : F .getD ss iv = some (.agg [.s (.str y.name), .s (.str y.level), .s (.int .i64 y.rank), .s (.int .i64 y.by_), .view 5 er]) := by
      rw [hF]; exact fr_getD (by rw [hss, ← hyd, hy]; simp [schemaDs, hil]) hiv
    generalize hz : schemaF y q = z at sy
    conv => arg 4; cbv
    refine AKp.drawn ?_
    refine DK.runV hF tabOK hnt hfr 0 ?_
    conv => arg 8; cbv
    rw [hg]
    conv => arg 8; cbv
    refine DK.call hF tabOK hnt hfr sy 5 rfl rfl rfl rfl rfl rfl rfl rfl (by repeat' first | exact .refl _ | constructor) ?_
    conv => arg 8; cbv
    refine DK.fin (by kernel_rfl) (by decide) ?_
    refine AK.run hF tabOK hnt ?_
    cases z
    · conv => arg 4; cbv
      subst hF
      exact AKp.again _ hfr (by repeat (first | exact True.intro | refine ⟨⟨rfl, rfl⟩, ?_⟩)) (by repeat (first | exact True.intro | refine ⟨⟨rfl, rfl, rfl⟩, ?_⟩)) (hJ (n - 1) _ _ (by omega) ⟨i + 1, _, by omega, inc_i64 hiv hil (by omega), upto_succ (p := fun s => schemaF s q = false) hil hno (by rw [← hy]; exact hz), rfl, rfl⟩)
    · have sk' := sk y.by_
      have sf := refFlow_spec y.name (keyF y.by_ q.user q.space) (hn y (by rw [hy]; exact List.getElem_mem hil)) (hkl _)
      have hcl : classF l q = (clD y.name y.level (keyF y.by_ q.user q.space) (flowF y.name (keyF y.by_ q.user q.space)), 0) := by
        unfold classF
        have hfind : l.find? (fun s => schemaF s q) = some y := by
          rw [hy] at hz ⊢
          exact List.find?_eq_some_iff_getElem.2 ⟨hz, i, hil, rfl, fun j hj => by simp [hno j (by omega) hj]⟩
        rw [hfind]
      rw [hcl]
      generalize keyF y.by_ q.user q.space = ky at *
      generalize flowF y.name ky = fl at *
      unfold clD
      conv => arg 4; cbv
      refine AKp.drawn ?_
      refine DK.runV hF tabOK hnt hfr 0 ?_
      conv => arg 8; cbv
      rw [hg]
      conv => arg 8; cbv
      refine DK.call hF tabOK hnt hfr sk' 6 rfl rfl rfl rfl rfl rfl rfl rfl (by repeat' first | exact .refl _ | constructor) ?_
      conv => arg 8; cbv
      refine DK.fin (by kernel_rfl) (by decide) ?_
      refine AK.run hF tabOK hnt ?_
      conv => arg 4; cbv
      refine AKp.drawn ?_
      refine DK.runV hF tabOK hnt hfr 0 ?_
      conv => arg 8; cbv
      rw [hg]
      conv => arg 8; cbv
      rw [hg]
      conv => arg 8; cbv
      rw [hg]
      conv => arg 8; cbv
      refine DK.call hF tabOK hnt hfr sf 17 rfl rfl rfl rfl rfl rfl rfl rfl (by repeat' first | exact .refl _ | constructor) ?_
      conv => arg 8; cbv
      refine DK.fin (by kernel_rfl) (by decide) ?_
      refine AK.run hF tabOK hnt ?_
      conv => arg 4; cbv
      exact AKp.doneE tabOK hfr (by rfl) (by rfl)

theorem FlowAll_spec (l : List SchemaF) (q : ReqF) : ESpec Try.prog 3 [.d (.view 5 (schemaDs l)), .d q.dat] (fun x => x = .d (.s (.bool true))) := by
  have sl := confSmallE ⟨0, 0, 0, 0, [], l⟩
  have sq := reqSmallE q
  have cl := ClassifyE l q 0 0 0 0 0 []
  have cr := fun h1 h2 h3 => refClassify_spec l q 0 0 0 0 0 [] h1 h2 h3
  obtain ⟨a, b, c, f, e, hc, -⟩ := class_shape l q
  rw [hc] at cl cr
  unfold confCells at sl
  unfold ReqF.dat reqD at *
  unfold clD at *
  obtain ⟨el, hel⟩ : ∃ e, e = schemaDs l := ⟨_, rfl⟩
  rw [← hel] at sl cl cr ⊢
  simp only at sl cl cr
  generalize strs q.groups = qg at *
  refine ESpec.enter Try.func3 (by kernel_rfl) rfl (Nat.le_of_ble_eq_true rfl) fun _ cx hnt hfr => ?_
  obtain ⟨F, hF⟩ := real_ex
  refine AK.run hF tabOK hnt ?_
  conv => arg 4; cbv
  refine AKp.call hF tabOK hnt awakeE rfl rfl rfl rfl rfl rfl rfl (by repeat' first | exact .refl _ | constructor) ?_
  rintro _ rfl
  conv => arg 4; cbv
  rw [f_not1 hF]
  conv => arg 4; cbv
  refine AKp.call hF tabOK hnt sl rfl rfl rfl rfl rfl rfl rfl (by repeat' first | exact .refl _ | constructor) ?_
  rintro _ ⟨z1, rfl, hsl⟩
  conv => arg 4; cbv
  cases z1
  · rw [f_not0 hF]
    conv => arg 4; cbv
    exact AKp.doneE tabOK hfr (by rfl) (by rfl)
  rw [f_not1 hF]
  conv => arg 4; cbv
  refine AKp.call hF tabOK hnt sq rfl rfl rfl rfl rfl rfl rfl (by repeat' first | exact .refl _ | constructor) ?_
  rintro _ ⟨z3, rfl, hsq⟩
  conv => arg 4; cbv
  cases z3
  · rw [f_not0 hF]
    conv => arg 4; cbv
    exact AKp.doneE tabOK hfr (by rfl) (by rfl)
  rw [f_not1 hF]
  conv => arg 4; cbv
  replace hsl := (hsl rfl).2.2.2
  replace hsq := hsq.1 rfl
  have cr' := cr (fun s hs => (hsl s hs).2.1) hsq.1 hsq.2.2.2.1
  refine AKp.call hF tabOK hnt cl rfl rfl rfl rfl rfl rfl rfl (by repeat' first | exact .refl _ | constructor) ?_
  rintro _ rfl
  conv => arg 4; cbv
  refine AKp.call hF tabOK hnt cr' rfl rfl rfl rfl rfl rfl rfl (by repeat' first | exact .refl _ | constructor) ?_
  rintro _ rfl
  conv => arg 4; cbv
  rw [show F .andB (F .eqS a a) (F .andB (F .eqS b b) (F .andB (F .eqS c c) (F .andB (F .eqI f f) true))) = true by rw [hF]; simp [Fam.real, Ar.real]]
  conv => arg 4; cbv
  rw [show F .eqI e e = true by rw [hF]; exact beq_self_eq_true _]
  exact AKp.doneE tabOK hfr (by rfl) (by rfl)
end Go.Proofs.Ytbcpmkonajomcaa
