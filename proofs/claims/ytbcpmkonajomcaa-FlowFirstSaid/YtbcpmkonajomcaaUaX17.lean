/- test -/
import Derived.Test.YtbcpmkonajomcaaUaX15
namespace Go.Proofs.Ytbcpmkonajomcaa
open Go Go.Proofs Go.Ua
set_option linter.unusedVariables false

theorem find_filter {α : Type} (p : α → Bool) : ∀ l : List α, (l.filter p).find? p = l.find? p
  | [] => rfl
  | x :: l => by
    by_cases h : p x = true
    · simp [h]
    · have h' : p x = false := by simpa using h
      simp [h', find_filter p l]

theorem classF_filter (l : List SchemaF) (q : ReqF) : classF (l.filter fun s => schemaF s q) q = classF l q := by
  unfold classF
  rw [find_filter]

theorem classF_append (l b : List SchemaF) (q : ReqF) (h : (classF l q).2 = 0) : classF (l ++ b) q = classF l q := by
  unfold classF at h ⊢
  rw [List.find?_append]
  split at h
  · rename_i s hs
    rw [hs]
    rfl
  · simp at h

theorem classF_few (l : List SchemaF) (q : ReqF) : (l.filter (fun s => schemaF s q) = [] ∧ (classF l q).2 = 6) ∨
    ∃ s r, l.filter (fun s => schemaF s q) = s :: r ∧ ∃ c f, classF l q = (clD s.name s.level c f, 0) := by
  have h : (l.filter (fun s => schemaF s q)).head? = l.find? (fun s => schemaF s q) := List.head?_filter ..
  cases hf : l.filter (fun s => schemaF s q) with
  | nil =>
    rw [hf] at h
    left
    refine ⟨rfl, ?_⟩
    unfold classF
    rw [← h]
    rfl
  | cons s r =>
    rw [hf] at h
    right
    refine ⟨s, r, rfl, ?_⟩
    unfold classF
    rw [← h]
    exact ⟨_, _, rfl⟩

theorem FlowFirst_spec (l bh : List SchemaF) (q : ReqF) : ESpec Try.prog 4 [.d (.view 5 (schemaDs l)), .d (.view 5 (schemaDs bh)), .d q.dat] (fun x => x = .d (.s (.bool true))) := by
  have sl := confSmallE ⟨0, 0, 0, 0, [], l⟩
  have sb := confSmallE ⟨0, 0, 0, 0, [], bh⟩
  have sq := reqSmallE q
  have cl := ClassifyE l q 0 0 0 0 0 []
  have cm := ClassifyE (l ++ bh) q 0 0 0 0 0 []
  have cf := ClassifyE (l.filter fun s => schemaF s q) q 0 0 0 0 0 []
  rw [classF_filter] at cf
  have hfew := classF_few l q
  have happ := classF_append l bh q
  obtain ⟨ma, mb, mc, mf, me, hm, -⟩ := class_shape (l ++ bh) q
  obtain ⟨a, b, c, f, e, hc, -⟩ := class_shape l q
  rw [hm, hc] at happ
  rw [hc] at hfew cl cf
  rw [hm] at cm
  unfold confCells at sl sb
  unfold ReqF.dat reqD at *
  unfold clD at *
  obtain ⟨el, hel⟩ : ∃ e, e = schemaDs l := ⟨_, rfl⟩
  obtain ⟨eb, heb⟩ : ∃ e, e = schemaDs bh := ⟨_, rfl⟩
  obtain ⟨ef, hef⟩ : ∃ e, e = schemaDs (l.filter fun s => schemaF s q) := ⟨_, rfl⟩
  rw [show schemaDs (l ++ bh) = el ++ eb by rw [hel, heb]; simp [schemaDs]] at cm
  rw [← hef] at cf
  rw [← hel] at sl cl ⊢
  rw [← heb] at sb ⊢
  simp only at sl sb cl cm cf hfew happ
  generalize hqg : strs q.groups = qg at *
  refine ESpec.enter Try.func4 (by kernel_rfl) rfl (Nat.le_of_ble_eq_true rfl) fun _ cx hnt hfr => ?_
  obtain ⟨F, hF⟩ := real_ex
  refine AK.run hF tabOK hnt ?_
  conv => arg 4; cbv
  refine AKp.call hF tabOK hnt awakeE rfl rfl rfl rfl rfl rfl rfl (by repeat' first | exact .refl _ | constructor) ?_
  rintro _ rfl
  conv => arg 4; cbv
  rw [f_not1 hF]
  conv => arg 4; cbv
  refine AKp.call hF tabOK hnt sl rfl rfl rfl rfl rfl rfl rfl (by repeat' first | exact .refl _ | constructor) ?_
  rintro _ ⟨z1, rfl, hsl⟩
  conv => arg 4; cbv
  cases z1
  · rw [f_not0 hF]
    conv => arg 4; cbv
    exact AKp.doneE tabOK hfr (by rfl) (by rfl)
  rw [f_not1 hF]
  conv => arg 4; cbv
  refine AKp.call hF tabOK hnt sb rfl rfl rfl rfl rfl rfl rfl (by repeat' first | exact .refl _ | constructor) ?_
  rintro _ ⟨z2, rfl, hsb⟩
  conv => arg 4; cbv
  cases z2
  · rw [f_not0 hF]
    conv => arg 4; cbv
    exact AKp.doneE tabOK hfr (by rfl) (by rfl)
  rw [f_not1 hF]
  conv => arg 4; cbv
  refine AKp.call hF tabOK hnt sq rfl rfl rfl rfl rfl rfl rfl (by repeat' first | exact .refl _ | constructor) ?_
  rintro _ ⟨z3, rfl, -⟩
  conv => arg 4; cbv
  cases z3
  · rw [f_not0 hF]
    conv => arg 4; cbv
    exact AKp.doneE tabOK hfr (by rfl) (by rfl)
  rw [f_not1 hF]
  conv => arg 4; cbv
  replace hsl := (hsl rfl).2.1
  replace hsb := (hsb rfl).2.1
  refine AKp.call hF tabOK hnt cl rfl rfl rfl rfl rfl rfl rfl (by repeat' first | exact .refl _ | constructor) ?_
  rintro _ rfl
  conv => arg 4; cbv
  have hll : el.length = l.length := by rw [hel]; simp [schemaDs]
  have hbl : eb.length = bh.length := by rw [heb]; simp [schemaDs]
  have hsl' : l.length ≤ 80 := hsl
  have hsb' : bh.length ≤ 80 := hsb
  rw [show F .fits 72 (F .appD [] el) = true by rw [hF]; exact decide_eq_true (show el.length * 72 ≤ _ by omega)]
  conv => arg 4; cbv
  obtain ⟨em, hem⟩ : ∃ e, e = el ++ eb := ⟨_, rfl⟩
  have hap : F .appD (F .appD [] el) eb = em := by rw [hF, hem]; rfl
  rw [show F .fits 72 (F .appD (F .appD [] el) eb) = true by rw [hap, hF]; exact decide_eq_true (by rw [hem]; simp; omega)]
  rw [← hem] at cm
  conv => arg 4; cbv
  rw [hap]
  refine AKp.freeze 4 rfl ?_
  conv => arg 4; arg 2; cbv
  refine AKp.call hF tabOK hnt cm rfl rfl rfl rfl rfl rfl rfl (by repeat' first | exact .refl _ | constructor) ?_
  rintro _ rfl
  conv => arg 4; cbv
  have h0 : (e = 0 ∧ a = ma ∧ b = mb ∧ c = mc ∧ f = mf ∧ e = me) ∨ e ≠ 0 := by
    rcases Decidable.em (e = 0) with he | he
    · left
      have := happ he
      simp only [Prod.mk.injEq, Dat.agg.injEq, List.cons.injEq, Dat.s.injEq, Sc.str.injEq, Sc.int.injEq] at this
      exact ⟨he, this.1.1.symm, this.1.2.1.symm, this.1.2.2.1.symm, this.1.2.2.2.1.2.symm, this.2.symm⟩
    · exact .inr he
  have sameD : F .andB (F .eqS a a) (F .andB (F .eqS b b) (F .andB (F .eqS c c) (F .andB (F .eqI f f) true))) = true := by rw [hF]; simp [Fam.real, Ar.real]
  clear hm happ sl sb sq cm
  rcases h0 with ⟨he, rfl, rfl, rfl, rfl, rfl⟩ | he
  case' inl =>
    rw [show F .eqI e 0 = true by rw [hF, he]; rfl]
    conv => arg 4; cbv
    rw [sameD, f_not1 hF]
    conv => arg 4; cbv
    rw [show F .eqI e 0 = true by rw [hF, he]; rfl, f_not1 hF]
    conv => arg 4; cbv
  case' inr =>
    rw [show F .eqI e 0 = false by rw [hF]; exact beq_eq_false_iff_ne.2 he]
    conv => arg 4; cbv
  all_goals
    refine AKp.asRow 12 46 5 (by decide) rfl ?_
    conv => arg 4; arg 2; cbv
    refine AKp.enterLoop 16 ?_
    conv => arg 7; cbv
    refine AKl.inv hF tabOK hnt hfr (fun n vs hs => ∃ (i : Nat) (iv : Int) (es : List Dat), i + n = l.length ∧ iv = i ∧ es = schemaDs ((l.take i).filter fun s => schemaF s q) ∧
      vs = [(13, .d (.s (.int .i64 iv))), (12, .row 6 5)] ∧ hs = [(6, .ds 46 5 es), (1, .cs 34 [.d (.s (.str a)), .d (.s (.str b)), .d (.s (.str c)), .d (.s (.int .u64 f))]),
        (0, .cs 25 [.d (.s (.str q.1)), .d (.view 1 qg), .d (.s (.str q.3)), .d (.s (.str q.4)), .d (.s (.str q.5)), .d (.s (.int .i64 q.6))])]) l.length
      ⟨0, _, [], by omega, rfl, rfl, rfl, rfl⟩ (by repeat (first | exact True.intro | refine ⟨⟨rfl, rfl⟩, ?_⟩)) (by repeat (first | exact True.intro | refine ⟨⟨rfl, rfl, rfl⟩, ?_⟩)) ?_
    rintro J n vs hs hJ ⟨i, iv, es, hi, hiv, hes, rfl, rfl⟩
    conv => arg 4; cbv
    cases hb : F .ltI iv (F .lenD el)
    case' true =>
      have hlt := ltI_t hF hb
      rw [f_lenD hF] at hlt
      have hil : i < l.length := by omega
      obtain ⟨x, hx⟩ : ∃ x, x = l[i] := ⟨_, rfl⟩
      obtain ⟨er, her⟩ : ∃ e, e = ruleDs x.rules := ⟨_, rfl⟩
      have hxd : x.dat = .agg [.s (.str x.name), .s (.str x.level), .s (.int .i64 x.rank), .s (.int .i64 x.by_), .view 5 er] := by rw [her]; rfl
      have hg : F .getD el iv = some (.agg [.s (.str x.name), .s (.str x.level), .s (.int .i64 x.rank), .s (.int .i64 x.by_), .view 5 er]) := by
        rw [hF]; exact fr_getD (by rw [hel, ← hxd, hx]; simp [schemaDs, hil]) hiv
      have sx := SchemaE x q
      unfold ReqF.dat reqD at sx
      rw [hxd, hqg] at sx
      have htake : (l.take (i + 1)).filter (fun s => schemaF s q) = (l.take i).filter (fun s => schemaF s q) ++ (if schemaF x q then [x] else []) := by
        rw [List.take_add_one, List.getElem?_eq_getElem hil, ← hx, List.filter_append]
        simp [List.filter_cons]
      have hesl : es.length ≤ 80 := by
        rw [hes]
        simp only [schemaDs, List.length_map]
        have := List.length_filter_le (fun s => schemaF s q) (l.take i)
        simp only [List.length_take] at this
        omega
      generalize hz : schemaF x q = z at sx
      conv => arg 4; cbv
      refine AKp.drawn ?_
      refine DK.runV hF tabOK hnt hfr 0 ?_
      conv => arg 8; cbv
      rw [hg]
      conv => arg 8; cbv
      refine DK.call hF tabOK hnt hfr sx 5 rfl rfl rfl rfl rfl rfl rfl rfl (by repeat' first | exact .refl _ | constructor) ?_
      conv => arg 8; cbv
      refine DK.fin (by kernel_rfl) (by decide) ?_
      refine AK.run hF tabOK hnt ?_
      cases z
      · conv => arg 4; cbv
        subst hF
        refine AKp.again _ hfr (by repeat (first | exact True.intro | refine ⟨⟨rfl, rfl⟩, ?_⟩)) (by repeat (first | exact True.intro | refine ⟨⟨rfl, rfl, rfl⟩, ?_⟩)) (hJ (n - 1) _ _ (by omega) ⟨i + 1, _, es, by omega, inc_i64 hiv hil (by omega), by rw [htake, hz]; simpa using hes, rfl, rfl⟩)
      · conv => arg 4; cbv
        rw [hg]
        conv => arg 4; cbv
        have hap : F .appD es [.agg [.s (.str x.name), .s (.str x.level), .s (.int .i64 x.rank), .s (.int .i64 x.by_), .view 5 er]] = es ++ [x.dat] := by rw [hF, hxd]; rfl
        rw [show F .fits 72 (F .appD es [.agg [.s (.str x.name), .s (.str x.level), .s (.int .i64 x.rank), .s (.int .i64 x.by_), .view 5 er]]) = true by rw [hap, hF]; exact decide_eq_true (by simp; omega)]
        conv => arg 4; cbv
        rw [hap]
        subst hF
        refine AKp.againR [(6, 8)] _ hfr (by repeat (first | exact True.intro | refine ⟨⟨rfl, rfl⟩, ?_⟩)) (by repeat (first | exact True.intro | refine ⟨⟨Nat.le_of_ble_eq_true rfl, rfl, rfl⟩, ?_⟩)) rfl (hJ (n - 1) _ _ (by omega) ⟨i + 1, _, es ++ [x.dat], by omega, inc_i64 hiv hil (by omega), by rw [htake, hz, hes]; simp [schemaDs], rfl, rfl⟩)
    have hlt := ltI_f hF hb
    rw [f_lenD hF] at hlt
    have hee : es = ef := by rw [hes, hef, List.take_of_length_le (by omega)]
    subst hee
    conv => arg 4; cbv
    refine AKp.freeze 6 rfl ?_
    conv => arg 4; arg 2; cbv
    refine AKp.call hF tabOK hnt cf rfl rfl rfl rfl rfl rfl rfl (by repeat' first | exact .refl _ | constructor) ?_
    rintro _ rfl
    conv => arg 4; cbv
    refine AKp.drawn ?_
    refine DK.runV hF tabOK hnt hfr 0 ?_
    conv => arg 8; cbv
    rw [sameD]
    conv => arg 8; cbv
    rw [show F .eqI e e = true by rw [hF]; exact beq_self_eq_true _]
    conv => arg 8; cbv
    have hiff : F .eqB (F .eqI e 0) (F .ltI 0 (F .lenD es)) = true := by
      rw [f_lenD hF, hF]
      rcases hfew with ⟨h1, h2⟩ | ⟨s, r, h1, c', f', h2⟩
      · rw [hef, h1, h2]; rfl
      · simp only [Prod.mk.injEq] at h2
        rw [hef, h1, h2.2]; simp [schemaDs, Fam.real, Ar.real]
    rw [hiff]
    conv => arg 8; cbv
    rcases hfew with ⟨h1, h2⟩ | ⟨s, r, h1, c', f', h2⟩
    · rw [show F .eqI (F .lenD es) 0 = true by rw [f_lenD hF, hF, hef, h1]; rfl]
      conv => arg 8; cbv
      refine DK.fin (by kernel_rfl) (by decide) ?_
      refine AK.run hF tabOK hnt ?_
      conv => arg 4; cbv
      exact AKp.doneE tabOK hfr (by rfl) (by rfl)
    · rw [show F .eqI (F .lenD es) 0 = false by rw [f_lenD hF, hF, hef, h1]; simp [schemaDs, Fam.real, Ar.real]; omega]
      simp only [Prod.mk.injEq, Dat.agg.injEq, List.cons.injEq, Dat.s.injEq, Sc.str.injEq] at h2
      obtain ⟨er, her⟩ : ∃ e, e = ruleDs s.rules := ⟨_, rfl⟩
      have hg : F .getD es 0 = some (.agg [.s (.str a), .s (.str b), .s (.int .i64 s.rank), .s (.int .i64 s.by_), .view 5 er]) := by
        rw [hF]; exact fr_getD (i := 0) (by rw [hef, h1, h2.1.1, h2.1.2.1, her]; rfl) rfl
      conv => arg 8; cbv
      rw [hg]
      conv => arg 8; cbv
      rw [show F .eqS a a = true by rw [hF]; exact beq_self_eq_true _]
      conv => arg 8; cbv
      rw [hg]
      conv => arg 8; cbv
      rw [show F .eqS b b = true by rw [hF]; exact beq_self_eq_true _]
      conv => arg 8; cbv
      refine DK.fin (by kernel_rfl) (by decide) ?_
      refine AK.run hF tabOK hnt ?_
      conv => arg 4; cbv
      exact AKp.doneE tabOK hfr (by rfl) (by rfl)
end Go.Proofs.Ytbcpmkonajomcaa
