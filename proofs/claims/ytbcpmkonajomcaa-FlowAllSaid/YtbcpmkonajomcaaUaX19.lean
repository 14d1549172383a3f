/- The reference's classes are the program's. -/
import Derived.Test.YtbcpmkonajomcaaUaX18
namespace Go.Proofs.Ytbcpmkonajomcaa
open Go Go.Proofs Go.Ua
set_option linter.unusedVariables false

theorem refHas_spec (l : List (List UInt8)) (w : List UInt8) : ESpec Try.prog 29 [.d (.view 1 (strs l)), .d (.s (.str w))] (fun x => x = .d (.s (.bool (hasF l w)))) := by
  obtain ⟨es, he⟩ : ∃ e, e = strs l := ⟨_, rfl⟩
  rw [← he]
  have hel : es.length = l.length := by rw [he]; simp [strs]
  have hfe : ∀ (h : ¬ (l.length = 1 ∧ l[0]? = some [42])), hasF l w = l.any fun s => w == s := by
    intro h
    unfold hasF
    cases h1 : (l.length == 1 && l[0]? == some [42])
    · rfl
    · exfalso; apply h; simpa using h1
  have hft : l.length = 1 ∧ l[0]? = some [42] → hasF l w = true := by
    intro ⟨h1, h2⟩
    unfold hasF
    rw [h1, h2]; rfl
  refine ESpec.enter Try.func29 (by kernel_rfl) rfl (Nat.le_of_ble_eq_true rfl) fun hok cx hnt hfr => ?_
  have hl' : l.length < 9223372036854775808 := hel ▸ lt63 hok.1.1
  obtain ⟨F, hF⟩ := real_ex
  refine AK.run hF tabOK hnt ?_
  conv => arg 4; cbv
  have done : (l.length = 1 ∧ l[0]? = some [42]) ∨ ¬ (l.length = 1 ∧ l[0]? = some [42]) := Decidable.em _
  rcases done with hd | hd
  · have hg : F .getD es 0 = some (.s (.str [42])) := by rw [hF]; exact fr_getD (i := 0) (by rw [he]; simp only [strs, List.getElem?_map, hd.2]; rfl) rfl
    rw [show F .eqI (F .lenD es) 1 = true by rw [f_lenD hF, hF, hel, hd.1]; rfl]
    conv => arg 4; cbv
    rw [hg]
    conv => arg 4; cbv
    rw [show F .eqS [42] [42] = true by rw [hF]; rfl]
    conv => arg 4; cbv
    exact AKp.doneE tabOK hfr (by rfl) (by rw [hft hd]; rfl)
  · rw [hfe hd]
    cases h1 : F .eqI (F .lenD es) 1
    case' true =>
      have h1' := eqI_t hF h1
      rw [f_lenD hF] at h1'
      obtain ⟨s0, hs0⟩ : ∃ s0, l[0]? = some s0 := ⟨_, List.getElem?_eq_getElem (by omega)⟩
      have hg : F .getD es 0 = some (.s (.str s0)) := by rw [hF]; exact fr_getD (i := 0) (by rw [he]; simp only [strs, List.getElem?_map, hs0]; rfl) rfl
      conv => arg 4; cbv
      rw [hg]
      conv => arg 4; cbv
      rw [show F .eqS s0 [42] = false by rw [hF]; exact beq_eq_false_iff_ne.2 (fun e => hd ⟨by omega, by rw [hs0, e]⟩)]
    all_goals
      conv => arg 4; cbv
      refine AKp.enterLoop 6 ?_
      conv => arg 7; cbv
      refine AKl.inv hF tabOK hnt hfr (fun n vs hs => ∃ (i : Nat) (iv : Int), i + n = l.length ∧ iv = i ∧ (∀ j (hj : j < l.length), j < i → (w == l[j]) = false) ∧ vs = [(5, .d (.s (.int .i64 iv)))] ∧ hs = []) l.length
        ⟨0, _, by omega, rfl, fun j _ hj => absurd hj (by omega), rfl, rfl⟩ (by repeat (first | exact True.intro | refine ⟨⟨rfl, rfl⟩, ?_⟩)) (by repeat (first | exact True.intro | refine ⟨⟨rfl, rfl, rfl⟩, ?_⟩)) ?_
      rintro J n vs hs hJ ⟨i, iv, hi, hiv, hno, rfl, rfl⟩
      conv => arg 4; cbv
      cases hb : F .ltI iv (F .lenD es)
      · have hlt := ltI_f hF hb
        rw [f_lenD hF] at hlt
        conv => arg 4; cbv
        rw [show (l.any fun s => w == s) = false by
          rw [List.any_eq_false]
          intro s hs
          obtain ⟨j, hj, rfl⟩ := List.mem_iff_getElem.1 hs
          simp [hno j hj (by omega)]]
        exact AKp.doneE tabOK hfr (by rfl) (by rfl)
      · have hlt := ltI_t hF hb
        rw [f_lenD hF] at hlt
        have hil : i < l.length := by omega
        obtain ⟨y, hy⟩ : ∃ y, y = l[i] := ⟨_, rfl⟩
        have hg : F .getD es iv = some (.s (.str y)) := by rw [hF]; exact fr_getD (by rw [he]; simp [strs, hil, hy]) hiv
        conv => arg 4; cbv
        rw [hg]
        conv => arg 4; cbv
        cases hc : F .eqS y w
        · have hc' : (w == l[i]) = false := by
            rw [hF] at hc
            have := ne_of_beq_false hc
            rw [← hy]
            exact beq_eq_false_iff_ne.2 fun e => this e.symm
          conv => arg 4; cbv
          subst hF
          exact AKp.again _ hfr (by repeat (first | exact True.intro | refine ⟨⟨rfl, rfl⟩, ?_⟩)) (by repeat (first | exact True.intro | refine ⟨⟨rfl, rfl, rfl⟩, ?_⟩)) (hJ (n - 1) _ _ (by omega) ⟨i + 1, _, by omega, inc_i64 hiv hil (by omega), upto_succ (p := fun s => (w == s) = false) hil hno hc', rfl, rfl⟩)
        · have hc' : y = w := by rw [hF] at hc; exact eq_of_beq hc
          conv => arg 4; cbv
          rw [show (l.any fun s => w == s) = true by
            rw [List.any_eq_true]
            exact ⟨l[i], List.getElem_mem hil, by rw [← hy, hc']; exact beq_self_eq_true _⟩]
          exact AKp.doneE tabOK hfr (by rfl) (by rfl)

theorem refRule_spec (r : RuleF) (q : ReqF) : ESpec Try.prog 23 [.d (ruleD r), .d q.dat] (fun x => x = .d (.s (.bool (ruleF r q)))) := by
  have sv := refHas_spec r.verbs q.verb
  have sr := refHas_spec r.resources q.resource
  have ss := refHas_spec r.spaces q.space
  have su := refHas_spec r.users q.user
  have sg := fun g => refHas_spec r.groups g
  unfold ruleF
  generalize hasF r.verbs q.verb = bv at *
  generalize hasF r.resources q.resource = br at *
  generalize hasF r.spaces q.space = bs at *
  generalize hasF r.users q.user = bu at *
  unfold ruleD ReqF.dat reqD
  generalize strs r.users = e1 at *
  generalize strs r.groups = e2 at *
  generalize strs r.verbs = e3 at *
  generalize strs r.resources = e4 at *
  generalize strs r.spaces = e5 at *
  obtain ⟨eg, heg⟩ : ∃ e, e = strs q.groups := ⟨_, rfl⟩
  rw [← heg]
  have hgl : eg.length = q.groups.length := by rw [heg]; simp [strs]
  refine ESpec.enter Try.func23 (by kernel_rfl) rfl (Nat.le_of_ble_eq_true rfl) fun hok cx hnt hfr => ?_
  have hl' : q.groups.length < 9223372036854775808 := hgl ▸ lt63 hok.2.1.2.1.1
  obtain ⟨F, hF⟩ := real_ex
  refine AK.run hF tabOK hnt ?_
  conv => arg 4; cbv
  refine AKp.freezeBox 1 rfl rfl ?_
  refine AKp.freezeBox 0 rfl rfl ?_
  conv => arg 4; arg 2; cbv
  refine AKp.call hF tabOK hnt sv rfl rfl rfl rfl rfl rfl rfl (by repeat' first | exact .refl _ | constructor) ?_
  rintro _ rfl
  conv => arg 4; cbv
  cases bv
  · rw [f_not0 hF]
    conv => arg 4; cbv
    exact AKp.doneE tabOK hfr (by rfl) (by simp; rfl)
  rw [f_not1 hF]
  conv => arg 4; cbv
  refine AKp.call hF tabOK hnt sr rfl rfl rfl rfl rfl rfl rfl (by repeat' first | exact .refl _ | constructor) ?_
  rintro _ rfl
  conv => arg 4; cbv
  cases br
  · rw [f_not0 hF]
    conv => arg 4; cbv
    exact AKp.doneE tabOK hfr (by rfl) (by simp; rfl)
  rw [f_not1 hF]
  conv => arg 4; cbv
  refine AKp.call hF tabOK hnt ss rfl rfl rfl rfl rfl rfl rfl (by repeat' first | exact .refl _ | constructor) ?_
  rintro _ rfl
  conv => arg 4; cbv
  cases bs
  · rw [f_not0 hF]
    conv => arg 4; cbv
    exact AKp.doneE tabOK hfr (by rfl) (by simp; rfl)
  rw [f_not1 hF]
  conv => arg 4; cbv
  refine AKp.call hF tabOK hnt su rfl rfl rfl rfl rfl rfl rfl (by repeat' first | exact .refl _ | constructor) ?_
  rintro _ rfl
  conv => arg 4; cbv
  cases bu
  rotate_left
  · conv => arg 4; cbv
    exact AKp.doneE tabOK hfr (by rfl) (by rfl)
  conv => arg 4; cbv
  refine AKp.enterLoop 6 ?_
  conv => arg 7; cbv
  refine AKl.inv hF tabOK hnt hfr (fun n vs hs => ∃ (i : Nat) (iv : Int), i + n = q.groups.length ∧ iv = i ∧ (∀ j (hj : j < q.groups.length), j < i → hasF r.groups q.groups[j] = false) ∧ vs = [(5, .d (.s (.int .i64 iv)))] ∧ hs = []) q.groups.length
    ⟨0, _, by omega, rfl, fun j _ hj => absurd hj (by omega), rfl, rfl⟩ (by repeat (first | exact True.intro | refine ⟨⟨rfl, rfl⟩, ?_⟩)) (by repeat (first | exact True.intro | refine ⟨⟨rfl, rfl, rfl⟩, ?_⟩)) ?_
  rintro J n vs hs hJ ⟨i, iv, hi, hiv, hno, rfl, rfl⟩
  conv => arg 4; cbv
  cases hb : F .ltI iv (F .lenD eg)
  · have hlt := ltI_f hF hb
    rw [f_lenD hF] at hlt
    conv => arg 4; cbv
    rw [show (q.groups.any fun g => hasF r.groups g) = false by
      rw [List.any_eq_false]
      intro s hs
      obtain ⟨j, hj, rfl⟩ := List.mem_iff_getElem.1 hs
      simp [hno j hj (by omega)]]
    exact AKp.doneE tabOK hfr (by rfl) (by rfl)
  · have hlt := ltI_t hF hb
    rw [f_lenD hF] at hlt
    have hil : i < q.groups.length := by omega
    obtain ⟨y, hy⟩ : ∃ y, y = q.groups[i] := ⟨_, rfl⟩
    have hg : F .getD eg iv = some (.s (.str y)) := by rw [hF]; exact fr_getD (by rw [heg]; simp [strs, hil, hy]) hiv
    have sy := sg y
    generalize hz : hasF r.groups y = z at sy
    conv => arg 4; cbv
    refine AKp.drawn ?_
    refine DK.runV hF tabOK hnt hfr 0 ?_
    conv => arg 8; cbv
    rw [hg]
    conv => arg 8; cbv
    refine DK.call hF tabOK hnt hfr sy 7 rfl rfl rfl rfl rfl rfl rfl rfl (by repeat' first | exact .refl _ | constructor) ?_
    conv => arg 8; cbv
    refine DK.fin (by kernel_rfl) (by decide) ?_
    refine AK.run hF tabOK hnt ?_
    cases z
    · conv => arg 4; cbv
      subst hF
      exact AKp.again _ hfr (by repeat (first | exact True.intro | refine ⟨⟨rfl, rfl⟩, ?_⟩)) (by repeat (first | exact True.intro | refine ⟨⟨rfl, rfl, rfl⟩, ?_⟩)) (hJ (n - 1) _ _ (by omega) ⟨i + 1, _, by omega, inc_i64 hiv hil (by omega), upto_succ (p := fun s => hasF r.groups s = false) hil hno (by rw [← hy]; exact hz), rfl, rfl⟩)
    · conv => arg 4; cbv
      rw [show (q.groups.any fun g => hasF r.groups g) = true by
        rw [List.any_eq_true]
        exact ⟨q.groups[i], List.getElem_mem hil, by rw [← hy]; exact hz⟩]
      exact AKp.doneE tabOK hfr (by rfl) (by rfl)

theorem refSchema_spec (s : SchemaF) (q : ReqF) : ESpec Try.prog 16 [.d s.dat, .d q.dat] (fun x => x = .d (.s (.bool (schemaF s q)))) := by
  have sp := fun r => refRule_spec r q
  unfold schemaF
  unfold SchemaF.dat
  unfold ReqF.dat reqD at *
  generalize strs q.groups = eg at *
  obtain ⟨er, her⟩ : ∃ e, e = ruleDs s.rules := ⟨_, rfl⟩
  rw [← her]
  have hgl : er.length = s.rules.length := by rw [her]; simp [ruleDs]
  refine ESpec.enter Try.func16 (by kernel_rfl) rfl (Nat.le_of_ble_eq_true rfl) fun hok cx hnt hfr => ?_
  have hl' : s.rules.length < 9223372036854775808 := hgl ▸ lt63 hok.1.2.2.2.2.1.1
  obtain ⟨F, hF⟩ := real_ex
  refine AK.run hF tabOK hnt ?_
  conv => arg 4; cbv
  refine AKp.freezeBox 1 rfl rfl ?_
  refine AKp.freezeBox 0 rfl rfl ?_
  conv => arg 4; arg 2; cbv
  refine AKp.enterLoop 6 ?_
  conv => arg 7; cbv
  refine AKl.inv hF tabOK hnt hfr (fun n vs hs => ∃ (i : Nat) (iv : Int), i + n = s.rules.length ∧ iv = i ∧ (∀ j (hj : j < s.rules.length), j < i → ruleF s.rules[j] q = false) ∧ vs = [(5, .d (.s (.int .i64 iv)))] ∧ hs = []) s.rules.length
    ⟨0, _, by omega, rfl, fun j _ hj => absurd hj (by omega), rfl, rfl⟩ (by repeat (first | exact True.intro | refine ⟨⟨rfl, rfl⟩, ?_⟩)) (by repeat (first | exact True.intro | refine ⟨⟨rfl, rfl, rfl⟩, ?_⟩)) ?_
  rintro J n vs hs hJ ⟨i, iv, hi, hiv, hno, rfl, rfl⟩
  conv => arg 4; cbv
  cases hb : F .ltI iv (F .lenD er)
  · have hlt := ltI_f hF hb
    rw [f_lenD hF] at hlt
    conv => arg 4; cbv
    rw [show (s.rules.any fun r => ruleF r q) = false by
      rw [List.any_eq_false]
      intro s hs
      obtain ⟨j, hj, rfl⟩ := List.mem_iff_getElem.1 hs
      simp [hno j hj (by omega)]]
    exact AKp.doneE tabOK hfr (by rfl) (by rfl)
  · have hlt := ltI_t hF hb
    rw [f_lenD hF] at hlt
    have hil : i < s.rules.length := by omega
    obtain ⟨y, hy⟩ : ∃ y, y = s.rules[i] := ⟨_, rfl⟩
    have sy := sp y
    unfold ruleD at sy
    have hg : F .getD er iv = some (.agg [.view 1 (strs y.users), .view 1 (strs y.groups), .view 1 (strs y.verbs), .view 1 (strs y.resources), .view 1 (strs y.spaces)]) := by rw [hF]; exact fr_getD (by rw [her]; simp [ruleDs, ruleD, hil, hy]) hiv
    generalize strs y.users = e1 at *
    generalize strs y.groups = e2 at *
    generalize strs y.verbs = e3 at *
    generalize strs y.resources = e4 at *
    generalize strs y.spaces = e5 at *
    generalize hz : ruleF y q = z at sy
    conv => arg 4; cbv
    refine AKp.drawn ?_
    refine DK.runV hF tabOK hnt hfr 0 ?_
    conv => arg 8; cbv
    rw [hg]
    conv => arg 8; cbv
    refine DK.call hF tabOK hnt hfr sy 6 rfl rfl rfl rfl rfl rfl rfl rfl (by repeat' first | exact .refl _ | constructor) ?_
    conv => arg 8; cbv
    refine DK.fin (by kernel_rfl) (by decide) ?_
    refine AK.run hF tabOK hnt ?_
    cases z
    · conv => arg 4; cbv
      subst hF
      exact AKp.again _ hfr (by repeat (first | exact True.intro | refine ⟨⟨rfl, rfl⟩, ?_⟩)) (by repeat (first | exact True.intro | refine ⟨⟨rfl, rfl, rfl⟩, ?_⟩)) (hJ (n - 1) _ _ (by omega) ⟨i + 1, _, by omega, inc_i64 hiv hil (by omega), upto_succ (p := fun s => ruleF s q = false) hil hno (by rw [← hy]; exact hz), rfl, rfl⟩)
    · conv => arg 4; cbv
      rw [show (s.rules.any fun r => ruleF r q) = true by
        rw [List.any_eq_true]
        exact ⟨s.rules[i], List.getElem_mem hil, by rw [← hy]; exact hz⟩]
      exact AKp.doneE tabOK hfr (by rfl) (by rfl)
end Go.Proofs.Ytbcpmkonajomcaa
