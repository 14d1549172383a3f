/- The library of this claim and its walks, part 38, joined out of smaller texts. No statement stands in it. -/
import Derived.Test.YtpmpajodihpkaaaDoorUaM35
import Derived.Test.YtpmpajodihpkaaaDoorUaM37
/- What is let pass: what that means, and what follows. -/
namespace Go.Proofs.YtpmpajodihpkaaaDoor
open Go Go.Proofs Go.Ua Go.Extern
set_option linter.unusedVariables false
set_option linter.unusedSimpArgs false
/-- What is let pass. -/
structure Pass (c : Cf) : Prop where
  form : formC c = true
  tt : c.tt ≠ 0
  pe : c.pe ≠ 0
  pr : c.pr ≠ 0
  lv : ∀ l, l ∈ c.ls → rlvE l = 0
  sm : ∀ s, s ∈ c.ss → rsmE s c.ls = 0
  e1 : haveL wEx c.ls = true
  e2 : haveL wCa c.ls = true
  e3 : haveS wEx c.ss = true
  e4 : haveS wCa c.ss = true
theorem lack_zero {ls : List Lv} {ss : List Sm} : (lackF ls ss).1 = 0 ↔ haveL wEx ls = true ∧ haveL wCa ls = true ∧ haveS wEx ss = true ∧ haveS wCa ss = true := by
  unfold lackF
  repeat' split
  all_goals simp_all
theorem rchS_zero {ls : List Lv} {all : List Sm} : ∀ {l : List Sm}, (rchS ls all l).1 = 0 ↔ (∀ s, s ∈ l → rsmE s ls = 0) ∧ (lackF ls all).1 = 0
  | [] => by simp [rchS]
  | s :: r => by
    rw [rchS]
    by_cases h : rsmE s ls = 0
    · rw [if_neg (fun g => g h), rchS_zero (l := r)]
      simp [h]
    · rw [if_pos h]
      simp [h]
theorem rchL_zero {all : List Lv} {ss : List Sm} : ∀ {l : List Lv}, (rchL all ss l).1 = 0 ↔ (∀ x, x ∈ l → rlvE x = 0) ∧ (rchS all ss ss).1 = 0
  | [] => by simp [rchL]
  | x :: r => by
    rw [rchL]
    by_cases h : rlvE x = 0
    · rw [if_neg (fun g => g h), rchL_zero (l := r)]
      simp [h]
    · rw [if_pos h]
      simp [h]
theorem pass_iff {c : Cf} : (rchF c).1 = 0 ↔ Pass c := by
  unfold rchF
  constructor
  · intro h
    repeat' split at h
    all_goals try (cases h; done)
    rename_i h1 h2 h3 h4
    rw [rchL_zero, rchS_zero, lack_zero] at h
    obtain ⟨g1, g2, g3, g4, g5, g6⟩ := h
    exact ⟨by simpa using h1, h2, h3, h4, g1, g2, g3, g4, g5, g6⟩
  · intro h
    rw [if_neg (fun g => Bool.noConfusion (h.form.symm.trans g)), if_neg h.tt, if_neg h.pe, if_neg h.pr, rchL_zero, rchS_zero, lack_zero]
    exact ⟨h.lv, h.sm, h.e1, h.e2, h.e3, h.e4⟩
/-- How many have a name. -/
def cntN (w : Wd) (l : List Lv) : Nat := l.countP fun x => eqW x.nm w
theorem allL_nodup : ∀ {l p : List Lv}, allL p l = true → (l.map (·.nm)).Nodup ∧ ∀ x, x ∈ l → hasL p x.nm = false
  | [], p, _ => ⟨by simp, by simp⟩
  | x :: r, p, h => by
    simp only [allL, Bool.and_eq_true, Bool.not_eq_true'] at h
    obtain ⟨h1, h2, h3⟩ := h
    obtain ⟨g1, g2⟩ := allL_nodup h3
    have key : ∀ y, y ∈ r → hasL p y.nm = false ∧ y.nm ≠ x.nm := by
      intro y hy
      have := g2 y hy
      unfold hasL at this ⊢
      rw [List.any_append, Bool.or_eq_false_iff] at this
      refine ⟨this.1, fun e => ?_⟩
      have h9 := this.2
      simp [e] at h9
    refine ⟨?_, ?_⟩
    · rw [List.map_cons, List.nodup_cons]
      refine ⟨fun hm => ?_, g1⟩
      obtain ⟨y, hy, e⟩ := List.mem_map.1 hm
      exact (key y hy).2 e
    · intro y hy
      rcases List.mem_cons.1 hy with rfl | hy
      · exact h2
      · exact (key y hy).1
theorem cntN_one {l : List Lv} {w : Wd} (hn : (l.map (·.nm)).Nodup) (h : haveL w l = true) : cntN w l = 1 := by
  have e : cntN w l = (l.map (·.nm)).count w := by
    unfold cntN List.count
    rw [List.countP_map]
    refine List.countP_congr fun x _ => ?_
    simp [eqW]
  rw [e]
  have h1 : (l.map (·.nm)).count w ≤ 1 := List.nodup_iff_count.1 hn w
  have h2 : 0 < (l.map (·.nm)).count w := by
    rw [List.count_pos_iff]
    unfold haveL at h
    obtain ⟨x, hx, hw⟩ := List.any_eq_true.1 h
    exact List.mem_map.2 ⟨x, hx, of_decide_eq_true hw⟩
  omega
def sumSh : List Lv → Int
  | [] => 0
  | x :: r => x.sh + sumSh r
theorem sumSh_app (a b : List Lv) : sumSh (a ++ b) = sumSh a + sumSh b := by
  induction a with
  | nil => simp [sumSh]
  | cons x r ih => simp only [List.cons_append, sumSh, ih]; omega
theorem sumSh_bd : ∀ {l : List Lv}, (∀ x, x ∈ l → 0 ≤ x.sh ∧ x.sh ≤ 10000) → 0 ≤ sumSh l ∧ sumSh l ≤ 10000 * l.length
  | [], _ => by simp [sumSh]
  | x :: r, h => by
    obtain ⟨g1, g2⟩ := sumSh_bd (l := r) fun y hy => h y (List.mem_cons_of_mem _ hy)
    obtain ⟨g3, g4⟩ := h x (by simp)
    simp only [sumSh, List.length_cons]
    omega
theorem sumSh_pos : ∀ {l : List Lv}, (∀ x, x ∈ l → 0 ≤ x.sh ∧ x.sh ≤ 10000) → (∃ x, x ∈ l ∧ x.sh ≠ 0) → 0 < sumSh l
  | [], _, ⟨x, hx, _⟩ => by simp at hx
  | x :: r, h, ⟨y, hy, hne⟩ => by
    have g := (sumSh_bd (l := r) fun y hy => h y (List.mem_cons_of_mem _ hy)).1
    have g3 := (h x (by simp)).1
    simp only [sumSh]
    rcases List.mem_cons.1 hy with rfl | hy
    · omega
    · have := sumSh_pos (l := r) (fun y hy => h y (List.mem_cons_of_mem _ hy)) ⟨y, hy, hne⟩
      omega
theorem lev_sh {l : Lv} (h : levOK l = true) : 0 ≤ l.sh ∧ l.sh ≤ 10000 := by
  simp only [levOK, Bool.and_eq_true] at h
  obtain ⟨_, h⟩ := h
  repeat' split at h
  all_goals first | (cases h; done) | (simp only [inB, Bool.and_eq_true, decide_eq_true_eq] at h; omega)
theorem pass_ex {c : Cf} (h : Pass c) : 0 < c.ls.countP fun x => decide (x.kd = 1) := by
  rw [List.countP_pos_iff]
  obtain ⟨x, hx, hw⟩ := List.any_eq_true.1 h.e1
  refine ⟨x, hx, ?_⟩
  have := h.lv x hx
  have hn : x.nm = wEx := of_decide_eq_true hw
  unfold rlvE rlvF at this
  repeat' split at this
  all_goals first | omega | simp_all
theorem pass_sh {c : Cf} (h : Pass c) : ∃ x, x ∈ c.ls ∧ x.sh ≠ 0 := by
  obtain ⟨x, hx, hw⟩ := List.any_eq_true.1 h.e2
  refine ⟨x, hx, ?_⟩
  have := h.lv x hx
  have hn : x.nm = wCa := of_decide_eq_true hw
  have hne : ¬ wCa = wEx := by decide
  unfold rlvE rlvF at this
  repeat' split at this
  all_goals first | omega | simp_all
theorem pass_hand {c : Cf} (h : Pass c) {l : Lv} (hl : l ∈ c.ls) (hk : l.kd = 3) : handsE l.qu l.ha = 0 := by
  have := h.lv l hl
  unfold rlvE rlvF at this
  by_cases e : handsE l.qu l.ha = 0
  · exact e
  · rw [if_pos ⟨hk, e⟩] at this
    exact absurd this e
theorem hands_pos {d n : Int} (h : handsE d n = 0) : 1 ≤ handsV d n := by
  have h0 := h
  unfold handsE at h
  repeat' split at h
  all_goals try (cases h; done)
  rename_i h1 h2 h3
  rw [handsV, if_pos h0]
  exact (hprod_lt (by omega) (by omega) n.toNat (by omega) (by omega)).1
theorem pass_has {c : Cf} (h : Pass c) {s : Sm} (hs : s ∈ c.ss) : haveL s.lv c.ls = true := by
  have := h.sm s hs
  unfold rsmE rsmF at this
  cases e : haveL s.lv c.ls
  · rw [if_pos e] at this
    cases this
  · rfl
def chkOk (a b c d : Int) (ls ss : List Dat) : Bool := isCf0 ls ss && decide ((rchF ⟨a, b, c, d, unLv ls, unSm ss⟩).1 = 0)
def chkBad (a b c d : Int) (ls ss : List Dat) : Bool := isCf0 ls ss && decide (¬ (rchF ⟨a, b, c, d, unLv ls, unSm ss⟩).1 = 0)
theorem checkOk_spec (a b c d : Int) (ls ss : List Dat) (hb : chkOk a b c d ls ss = true) : ESpec Tryd.prog 8 [.d (.agg [.s (.int .i64 a), .s (.int .i64 b), .s (.int .i64 c), .s (.int .i64 d), .view 10 ls, .view 5 ss])] (fun x => x = .d (.s .if0)) := by
  rw [chkOk, Bool.and_eq_true, decide_eq_true_eq] at hb
  have h := rcheck_spec a b c d ls ss hb.1
  rw [rchD, errW, if_pos hb.2] at h
  exact h
theorem checkBad_spec (a b c d : Int) (ls ss : List Dat) (hb : chkBad a b c d ls ss = true) : ESpec Tryd.prog 8 [.d (.agg [.s (.int .i64 a), .s (.int .i64 b), .s (.int .i64 c), .s (.int .i64 d), .view 10 ls, .view 5 ss])] (fun x => x = .d (.iface 62 (.agg [.s (.int .i64 0), .s (.str (rchF ⟨a, b, c, d, unLv ls, unSm ss⟩).2), .iface 35 (.s (.int .i64 (rchF ⟨a, b, c, d, unLv ls, unSm ss⟩).1))]))) := by
  rw [chkBad, Bool.and_eq_true, decide_eq_true_eq] at hb
  have h := rcheck_spec a b c d ls ss hb.1
  rw [rchD, errW_no hb.2] at h
  exact h
def φCheckOk (p : Int → Int → Int → Int → List Dat → List Dat → Bool) : List AV → Option (Bool × AV)
  | [.d (.agg [.s (.int .i64 a), .s (.int .i64 b), .s (.int .i64 c), .s (.int .i64 d), .view 10 ls, .view 5 ss])] => some (p a b c d ls ss, .d (.s .if0))
  | _ => none
theorem φCheckOk_ok : SpOK Tryd.prog 8 (φCheckOk (chkOk)) := by
  intro xs b x h hb
  unfold φCheckOk at h
  split at h
  · simp only [Option.some.injEq, Prod.mk.injEq] at h
    obtain ⟨rfl, rfl⟩ := h
    exact checkOk_spec _ _ _ _ _ _ hb
  · cases h
def φCheckBad (p : Int → Int → Int → Int → List Dat → List Dat → Bool) (w : Int → Int → Int → Int → List Dat → List Dat → Wd) (n : Int → Int → Int → Int → List Dat → List Dat → Int) : List AV → Option (Bool × AV)
  | [.d (.agg [.s (.int .i64 a), .s (.int .i64 b), .s (.int .i64 c), .s (.int .i64 d), .view 10 ls, .view 5 ss])] => some (p a b c d ls ss, .d (.iface 62 (.agg [.s (.int .i64 0), .s (.str (w a b c d ls ss)), .iface 35 (.s (.int .i64 (n a b c d ls ss)))])))
  | _ => none
theorem φCheckBad_ok : SpOK Tryd.prog 8 (φCheckBad (chkBad) (fun a b c d ls ss => (rchF ⟨a, b, c, d, unLv ls, unSm ss⟩).2) (fun a b c d ls ss => (rchF ⟨a, b, c, d, unLv ls, unSm ss⟩).1)) := by
  intro xs b x h hb
  unfold φCheckBad at h
  split at h
  · simp only [Option.some.injEq, Prod.mk.injEq] at h
    obtain ⟨rfl, rfl⟩ := h
    exact checkBad_spec _ _ _ _ _ _ hb
  · cases h
end Go.Proofs.YtpmpajodihpkaaaDoor

/- Chapter 13: RulesSound. -/
namespace Go.Proofs.YtpmpajodihpkaaaDoor
open Go Go.Proofs Go.Ua Go.Extern
set_option linter.unusedVariables false
set_option linter.unusedSimpArgs false
set_option maxRecDepth 10000
set_option maxHeartbeats 8000000 in
set_option cbv.maxSteps 10000000 in
set_option maxRecDepth 100000 in
theorem rulesSound_spec (a b c d : Int) (ls ss : List Dat) (hb : isCf0 ls ss = true) : ESpec Tryd.prog 3 [.d (.agg [.s (.int .i64 a), .s (.int .i64 b), .s (.int .i64 c), .s (.int .i64 d), .view 10 ls, .view 5 ss])] (fun x => x = .d (.s (.bool true))) := by
  obtain ⟨uSmallC, huSmallC⟩ : ∃ u : List Dat → List Dat → Bool, u = isCf0 := ⟨_, rfl⟩
  obtain ⟨uSmallC1, huSmallC1⟩ : ∃ u : Int → Int → Int → Int → List Dat → List Dat → Bool, u = fun a b c d ls ss => smallF ⟨a, b, c, d, unLv ls, unSm ss⟩ := ⟨_, rfl⟩
  obtain ⟨uFill, huFill⟩ : ∃ u : Int → Int → Int → Int → List Dat → List Dat → Bool, u = fun a b c d ls ss => isCf0 ls ss && cpC ⟨a, b, c, d, unLv ls, unSm ss⟩ := ⟨_, rfl⟩
  obtain ⟨uFill1, huFill1⟩ : ∃ u : Int → Int → Int, u = orF := ⟨_, rfl⟩
  obtain ⟨uFill2, huFill2⟩ : ∃ u : List Dat → List Dat, u = filL := ⟨_, rfl⟩
  obtain ⟨uFill3, huFill3⟩ : ∃ u : List Dat → List Dat, u = filS := ⟨_, rfl⟩
  obtain ⟨uHands, huHands⟩ : ∃ u : Int → Int → Int, u = handsV := ⟨_, rfl⟩
  obtain ⟨uHands1, huHands1⟩ : ∃ u : Int → Int → Int, u = handsE := ⟨_, rfl⟩
  have hG : TblOK Tryd.prog [(5, .p (φAwake13 )), (6, .p (φSmallC uSmallC uSmallC1)), (7, .m (φFill uFill uFill1 uFill2 uFill3)), (9, .p (φHands uHands uHands1))] := ⟨φAwake13_ok, (by rw [huSmallC, huSmallC1]; exact φSmallC_ok), (by rw [huFill, huFill1, huFill2, huFill3]; exact φFill_ok), (by rw [huHands, huHands1]; exact φHands_ok), trivial⟩
  have hb0 := hb
  simp only [isCf0, Bool.and_eq_true] at hb
  have qs : uSmallC ls ss = true := by rw [huSmallC]; exact hb0
  have vs1 : uSmallC1 a b c d ls ss = smallF ⟨a, b, c, d, unLv ls, unSm ss⟩ := by rw [huSmallC1]
  refine ESpec.enter Tryd.func3 (by kernel_rfl) rfl (Nat.le_of_ble_eq_true rfl) fun hok cx hnt hfr => ?_
  obtain ⟨F, hF⟩ := real_ex
  refine AK.runTs hF tabOK hmix hnt hfr [6] true _ hG ?_
  conv => arg 4; cbv
  refine AKt.need rfl fun _ => AKt.no (by rw [hF]; rfl) ?_
  refine AKt.need qs fun _ => ?_
  refine AKt.node (fun t => ?_) (fun t => ?_)
  · repeat' (first | with_reducible (first | refine AKt.have ?_ | refine AKt.tt ?_ | refine AKt.ff ?_ | refine AKt.yes (by assumption) ?_ | refine AKt.no (by assumption) ?_ | refine AKt.node (fun hb => ?_) (fun hb => ?_) | refine AKt.need ?_ (fun hb => ?_) | refine AKt.leaf ?_) | ((with_reducible show _ = true); assumption))
    refine AKp.doneE tabOK hfr (by rfl) ?_
    show _ = _
    simp only [tupAV]
  simp only [not_iff hF] at t
  rw [vs1] at t
  have hcp := cp_small t
  have qf : uFill a b c d ls ss = true := by rw [huFill]; show (isCf0 ls ss && cpC _) = true; rw [hb0, hcp]; rfl
  refine AKt.need qf fun _ => AKt.leaf ?_
  refine AKp.freeze 1 rfl ?_
  conv => arg 4; arg 2; cbv
  refine AKp.freeze 2 rfl ?_
  conv => arg 4; arg 2; cbv
  obtain ⟨C, hC⟩ : ∃ z, z = fillF ⟨a, b, c, d, unLv ls, unSm ss⟩ := ⟨_, rfl⟩
  obtain ⟨ct, hct⟩ : ∃ z, z = C.tt := ⟨_, rfl⟩
  obtain ⟨cp, hcpe⟩ : ∃ z, z = C.pe := ⟨_, rfl⟩
  obtain ⟨cr, hcr⟩ : ∃ z, z = C.pr := ⟨_, rfl⟩
  obtain ⟨cm, hcm⟩ : ∃ z, z = C.mo := ⟨_, rfl⟩
  obtain ⟨L, hL⟩ : ∃ z, z = lvDs C.ls := ⟨_, rfl⟩
  obtain ⟨S, hS⟩ : ∃ z, z = smDs C.ss := ⟨_, rfl⟩
  have w1 : uFill1 a 100 = ct := by rw [huFill1, hct, hC]; rfl
  have w2 : uFill1 b 10 = cp := by rw [huFill1, hcpe, hC]; rfl
  have w3 : uFill1 c 100 = cr := by rw [huFill1, hcr, hC]; rfl
  have w4 : uFill1 d 10 = cm := by rw [huFill1, hcm, hC]; rfl
  have w5 : uFill2 ls = L := by rw [huFill2, hL, hC]; rfl
  have w6 : uFill3 ss = S := by rw [huFill3, hS, hC]; rfl
  rw [w1, w2, w3, w4, w5, w6]
  have hcf : isCf0 L S = true := by rw [hL, hS, isCf0, is_lv, is_sm]; rfl
  have hll : L.length = C.ls.length := by rw [hL, lvDs_len]
  have hsl : S.length = C.ss.length := by rw [hS, smDs_len]
  have eC : (⟨ct, cp, cr, cm, unLv L, unSm S⟩ : Cf) = C := by rw [hct, hcpe, hcr, hcm, hL, hS, un_lv, un_sm]
  by_cases hp : (rchF C).1 = 0
  rotate_left
  · have _ := hp
    obtain ⟨uCheckBad, huCheckBad⟩ : ∃ u : Int → Int → Int → Int → List Dat → List Dat → Bool, u = chkBad := ⟨_, rfl⟩
    obtain ⟨uCheckBad1, huCheckBad1⟩ : ∃ u : Int → Int → Int → Int → List Dat → List Dat → Wd, u = fun a b c d ls ss => (rchF ⟨a, b, c, d, unLv ls, unSm ss⟩).2 := ⟨_, rfl⟩
    obtain ⟨uCheckBad2, huCheckBad2⟩ : ∃ u : Int → Int → Int → Int → List Dat → List Dat → Int, u = fun a b c d ls ss => (rchF ⟨a, b, c, d, unLv ls, unSm ss⟩).1 := ⟨_, rfl⟩
    have hG : TblOK Tryd.prog [(8, .p (φCheckBad uCheckBad uCheckBad1 uCheckBad2))] := ⟨(by rw [huCheckBad, huCheckBad1, huCheckBad2]; exact φCheckBad_ok), trivial⟩
    have qc : uCheckBad ct cp cr cm L S = true := by rw [huCheckBad]; show chkBad _ _ _ _ _ _ = true; rw [chkBad, hcf, eC, decide_eq_true hp]; rfl
    have f0 : F .not false = true := by rw [hF]; rfl
    refine AK.runTs hF tabOK hmix hnt hfr [8] true _ hG ?_
    conv => arg 4; cbv
    repeat' (first | with_reducible (first | refine AKt.have ?_ | refine AKt.tt ?_ | refine AKt.ff ?_ | refine AKt.yes (by assumption) ?_ | refine AKt.no (by assumption) ?_ | refine AKt.node (fun hb => ?_) (fun hb => ?_) | refine AKt.need ?_ (fun hb => ?_) | refine AKt.leaf ?_) | ((with_reducible show _ = true); assumption))
    refine AKp.doneE tabOK hfr (by rfl) ?_
    show _ = _
    simp only [tupAV]
  have P := pass_iff.1 hp
  obtain ⟨uCheckOk, huCheckOk⟩ : ∃ u : Int → Int → Int → Int → List Dat → List Dat → Bool, u = chkOk := ⟨_, rfl⟩
  obtain ⟨uHands, huHands⟩ : ∃ u : Int → Int → Int, u = handsV := ⟨_, rfl⟩
  obtain ⟨uHands1, huHands1⟩ : ∃ u : Int → Int → Int, u = handsE := ⟨_, rfl⟩
  have hG : TblOK Tryd.prog [(8, .p (φCheckOk uCheckOk)), (9, .p (φHands uHands uHands1))] := ⟨(by rw [huCheckOk]; exact φCheckOk_ok), (by rw [huHands, huHands1]; exact φHands_ok), trivial⟩
  have qc : uCheckOk ct cp cr cm L S = true := by rw [huCheckOk]; show chkOk _ _ _ _ _ _ = true; rw [chkOk, hcf, eC, decide_eq_true hp]; rfl
  have f0 : F .not true = false := by rw [hF]; rfl
  refine AK.runTs hF tabOK hmix hnt hfr [27] true _ hG ?_
  conv => arg 4; cbv
  refine AKt.need qc fun _ => AKt.no f0 ?_
  repeat' (first | with_reducible (first | refine AKt.have ?_ | refine AKt.tt ?_ | refine AKt.ff ?_ | refine AKt.yes (by assumption) ?_ | refine AKt.no (by assumption) ?_ | refine AKt.node (fun hb => ?_) (fun hb => ?_) | refine AKt.need ?_ (fun hb => ?_) | refine AKt.leaf ?_) | ((with_reducible show _ = true); assumption))
  have zform := P.form
  simp only [formC, Bool.and_eq_true, decide_eq_true_eq] at zform
  obtain ⟨f1, f2, f3, f4, f5, z6, z7, z8, z9⟩ := zform
  have wadd : ∀ x y : Int, 0 ≤ x + y → x + y ≤ 9223372036854775807 → F .wrap .i64 (F .add x y) = x + y := fun x y h1 h2 => by
    rw [hF]
    show IntKind.i64.wrap (x + y) = _
    exact w_i64 (by omega) (by omega)
  have hsh : ∀ x, x ∈ C.ls → 0 ≤ x.sh ∧ x.sh ≤ 10000 := fun x hx => lev_sh (allL_ok z8 x hx)
  refine AKp.enterLoop 7 ?_
  conv => arg 7; cbv
  refine AKl.invT hF tabOK hmix hnt hfr true _ hG (fun n vs hs => ∃ (i : Nat) (iv ev sv : Int), i + n = C.ls.length ∧ iv = i ∧ ev = ((C.ls.take i).countP fun x => decide (x.kd = 1) : Nat) ∧ sv = sumSh (C.ls.take i) ∧ vs = [(6, .d (.s (.int .i64 iv))), (5, .d (.s (.int .i64 sv))), (4, .d (.s (.int .i64 ev)))] ∧ hs = [(3, .cs 25 [.d (.s (.int .i64 ct)), .d (.s (.int .i64 cp)), .d (.s (.int .i64 cr)), .d (.s (.int .i64 cm)), .d (.view 10 L), .d (.view 5 S)])]) C.ls.length ⟨0, _, _, _, by omega, rfl, rfl, rfl, rfl, rfl⟩ (by repeat (first | exact True.intro | refine ⟨⟨rfl, rfl⟩, ?_⟩)) (by repeat (first | exact True.intro | refine ⟨⟨rfl, rfl, rfl⟩, ?_⟩)) ?_
  rintro J n vs hs hJ ⟨i, iv, ev, sv, hi, hiv, hev, hsv, rfl, rfl⟩
  conv => arg 4; cbv
  refine AKt.node (fun hbb => ?_) (fun hbb => ?_)
  · have hlt : i < C.ls.length := by rw [hF, f_ltI, f_lenD, hll, hiv] at hbb; have := of_decide_eq_true hbb; omega
    obtain ⟨x, hx⟩ : ∃ x, C.ls[i]? = some x := ⟨_, List.getElem?_eq_getElem hlt⟩
    have hxm := List.mem_of_getElem? hx
    have hd : L[i]? = some x.dat := by rw [hL]; exact lvDs_get hx
    have hx_ : F .hasD L iv [.str, .int .i64, .int .i64, .int .i64, .int .i64, .int .i64, .int .i64, .int .i64, .int .i64, .int .i64] = true := t_hasD hF hd hiv rfl
    obtain ⟨x0, hx0⟩ : ∃ z, z = x.nm := ⟨_, rfl⟩
    try rw [show F .strA L iv 0 = x0 by rw [hx0]; exact t_strA hF hd hiv rfl]
    obtain ⟨x1, hx1⟩ : ∃ z, z = x.kd := ⟨_, rfl⟩
    try rw [show F .intA L iv 1 = x1 by rw [hx1]; exact t_intA hF hd hiv rfl]
    obtain ⟨x2, hx2⟩ : ∃ z, z = x.sh := ⟨_, rfl⟩
    try rw [show F .intA L iv 2 = x2 by rw [hx2]; exact t_intA hF hd hiv rfl]
    obtain ⟨x3, hx3⟩ : ∃ z, z = x.ld := ⟨_, rfl⟩
    try rw [show F .intA L iv 3 = x3 by rw [hx3]; exact t_intA hF hd hiv rfl]
    obtain ⟨x4, hx4⟩ : ∃ z, z = x.bo := ⟨_, rfl⟩
    try rw [show F .intA L iv 4 = x4 by rw [hx4]; exact t_intA hF hd hiv rfl]
    obtain ⟨x5, hx5⟩ : ∃ z, z = x.qu := ⟨_, rfl⟩
    try rw [show F .intA L iv 5 = x5 by rw [hx5]; exact t_intA hF hd hiv rfl]
    obtain ⟨x6, hx6⟩ : ∃ z, z = x.ha := ⟨_, rfl⟩
    try rw [show F .intA L iv 6 = x6 by rw [hx6]; exact t_intA hF hd hiv rfl]
    obtain ⟨x7, hx7⟩ : ∃ z, z = x.le := ⟨_, rfl⟩
    try rw [show F .intA L iv 7 = x7 by rw [hx7]; exact t_intA hF hd hiv rfl]
    obtain ⟨x8, hx8⟩ : ∃ z, z = x.wa := ⟨_, rfl⟩
    try rw [show F .intA L iv 8 = x8 by rw [hx8]; exact t_intA hF hd hiv rfl]
    obtain ⟨x9, hx9⟩ : ∃ z, z = x.gu := ⟨_, rfl⟩
    try rw [show F .intA L iv 9 = x9 by rw [hx9]; exact t_intA hF hd hiv rfl]
    have hht := hsh x hxm
    have htk : C.ls.take (i + 1) = C.ls.take i ++ [x] := by rw [List.take_add_one, hx]; rfl
    have hbs := sumSh_bd (l := C.ls.take i) fun y hy => hsh y (List.mem_of_mem_take hy)
    have hlen : (C.ls.take i).length = i := by rw [List.length_take]; omega
    have hce : (C.ls.take i).countP (fun x => decide (x.kd = 1)) ≤ i := by have := List.countP_le_length (p := fun x : Lv => decide (x.kd = 1)) (l := C.ls.take i); omega
    have ns : F .wrap .i64 (F .add sv x2) = sumSh (C.ls.take (i + 1)) := by
      rw [wadd _ _ (by rw [hsv, hx2]; omega) (by rw [hsv, hx2]; omega), htk, sumSh_app, hsv, hx2]
      simp [sumSh]
    have ne1 : x.kd = 1 → F .wrap .i64 (F .add ev 1) = (((C.ls.take (i + 1)).countP fun x => decide (x.kd = 1) : Nat) : Int) := fun h => by
      rw [wadd _ _ (by omega) (by omega), htk, List.countP_append, hev]
      simp [h]
    have ne0 : ¬ x.kd = 1 → ev = (((C.ls.take (i + 1)).countP fun x => decide (x.kd = 1) : Nat) : Int) := fun h => by
      rw [htk, List.countP_append, hev]
      simp [h]
    have hh : x.kd = 3 → F .not (F .eqI (uHands1 x5 x6) 0) = false ∧ F .ltI (uHands x5 x6) 1 = false := fun h => by
      have g := pass_hand P hxm h
      have g2 := hands_pos g
      rw [huHands1, huHands, hx5, hx6]
      refine ⟨?_, ?_⟩
      · exact (not_iff hF).2.2 ((eqI_iff hF).1.2 g)
      · rw [hF, f_ltI]; exact decide_eq_false (by omega)
    refine AKt.need hx_ fun _ => ?_
    refine AKt.node (fun hk3 => ?_) (fun hk3 => ?_)
    · rw [(eqI_iff hF).1, hx1] at hk3
      have hh2 := hh hk3
      have g1 := hh2.1
      have g2 := hh2.2
      have g3 : F .eqI x1 1 = false := by rw [(eqI_iff hF).2, hx1]; omega
      refine AKt.need rfl fun _ => ?_
      repeat' (first | with_reducible (first | refine AKt.have ?_ | refine AKt.tt ?_ | refine AKt.ff ?_ | refine AKt.yes (by assumption) ?_ | refine AKt.no (by assumption) ?_ | refine AKt.node (fun hb => ?_) (fun hb => ?_) | refine AKt.need ?_ (fun hb => ?_) | refine AKt.leaf ?_) | ((with_reducible show _ = true); assumption))
      refine AKp.again _ hfr (by repeat (first | exact True.intro | refine ⟨⟨rfl, rfl⟩, ?_⟩)) (by repeat (first | exact True.intro | refine ⟨⟨rfl, rfl, rfl⟩, ?_⟩)) (hJ (n - 1) _ _ (by omega) ⟨i + 1, _, _, _, by omega, inc_i hF hiv (by omega), ne0 (by omega), ns, rfl, rfl⟩)
    · refine AKt.node (fun hk1 => ?_) (fun hk1 => ?_)
      · rw [(eqI_iff hF).1, hx1] at hk1
        repeat' (first | with_reducible (first | refine AKt.have ?_ | refine AKt.tt ?_ | refine AKt.ff ?_ | refine AKt.yes (by assumption) ?_ | refine AKt.no (by assumption) ?_ | refine AKt.node (fun hb => ?_) (fun hb => ?_) | refine AKt.need ?_ (fun hb => ?_) | refine AKt.leaf ?_) | ((with_reducible show _ = true); assumption))
        refine AKp.again _ hfr (by repeat (first | exact True.intro | refine ⟨⟨rfl, rfl⟩, ?_⟩)) (by repeat (first | exact True.intro | refine ⟨⟨rfl, rfl, rfl⟩, ?_⟩)) (hJ (n - 1) _ _ (by omega) ⟨i + 1, _, _, _, by omega, inc_i hF hiv (by omega), ne1 hk1, ns, rfl, rfl⟩)
      · rw [(eqI_iff hF).2, hx1] at hk1
        repeat' (first | with_reducible (first | refine AKt.have ?_ | refine AKt.tt ?_ | refine AKt.ff ?_ | refine AKt.yes (by assumption) ?_ | refine AKt.no (by assumption) ?_ | refine AKt.node (fun hb => ?_) (fun hb => ?_) | refine AKt.need ?_ (fun hb => ?_) | refine AKt.leaf ?_) | ((with_reducible show _ = true); assumption))
        refine AKp.again _ hfr (by repeat (first | exact True.intro | refine ⟨⟨rfl, rfl⟩, ?_⟩)) (by repeat (first | exact True.intro | refine ⟨⟨rfl, rfl, rfl⟩, ?_⟩)) (hJ (n - 1) _ _ (by omega) ⟨i + 1, _, _, _, by omega, inc_i hF hiv (by omega), ne0 hk1, ns, rfl, rfl⟩)
  have hge : ¬ i < C.ls.length := by rw [hF, f_ltI, f_lenD, hll, hiv] at hbb; have := of_decide_eq_false hbb; omega
  rw [List.take_of_length_le (by omega)] at hev hsv
  have hpe := pass_ex P
  have hps := sumSh_pos hsh (pass_sh P)
  clear hJ hbb
  repeat' (first | with_reducible (first | refine AKt.have ?_ | refine AKt.tt ?_ | refine AKt.ff ?_ | refine AKt.yes (by assumption) ?_ | refine AKt.no (by assumption) ?_ | refine AKt.node (fun hb => ?_) (fun hb => ?_) | refine AKt.need ?_ (fun hb => ?_) | refine AKt.leaf ?_) | ((with_reducible show _ = true); assumption))
  have hnd := (allL_nodup z8).1
  refine AKp.enterLoop 11 ?_
  conv => arg 7; cbv
  refine AKl.invT hF tabOK hmix hnt hfr true _ hG (fun n vs hs => ∃ (i : Nat) (iv : Int), i + n = C.ss.length ∧ iv = i ∧ vs = [(10, .d (.s (.int .i64 iv)))] ∧ hs = [(3, .cs 25 [.d (.s (.int .i64 ct)), .d (.s (.int .i64 cp)), .d (.s (.int .i64 cr)), .d (.s (.int .i64 cm)), .d (.view 10 L), .d (.view 5 S)])]) C.ss.length ⟨0, _, by omega, rfl, rfl, rfl⟩ (by repeat (first | exact True.intro | refine ⟨⟨rfl, rfl⟩, ?_⟩)) (by repeat (first | exact True.intro | refine ⟨⟨rfl, rfl, rfl⟩, ?_⟩)) ?_
  rintro J n vs hs hJ ⟨i, iv, hi, hiv, rfl, rfl⟩
  conv => arg 4; cbv
  refine AKt.node (fun hbb => ?_) (fun hbb => ?_)
  · have hlt : i < C.ss.length := by rw [hF, f_ltI, f_lenD, hsl, hiv] at hbb; have := of_decide_eq_true hbb; omega
    obtain ⟨y, hy⟩ : ∃ y, C.ss[i]? = some y := ⟨_, List.getElem?_eq_getElem hlt⟩
    have hym := List.mem_of_getElem? hy
    have hdy : S[i]? = some y.dat := by rw [hS]; exact smDs_get hy
    have hone := cntN_one hnd (pass_has P hym)
    have hlen : C.ls.length ≤ 16 := z6
    repeat' (first | with_reducible (first | refine AKt.have ?_ | refine AKt.tt ?_ | refine AKt.ff ?_ | refine AKt.yes (by assumption) ?_ | refine AKt.no (by assumption) ?_ | refine AKt.node (fun hb => ?_) (fun hb => ?_) | refine AKt.need ?_ (fun hb => ?_) | refine AKt.leaf ?_) | ((with_reducible show _ = true); assumption))
    refine AKp.enterLoop 13 ?_
    conv => arg 7; cbv
    refine AKl.invT hF tabOK hmix hnt hfr true _ hG (fun n vs hs => ∃ (k : Nat) (kv cv : Int), k + n = C.ls.length ∧ kv = k ∧ cv = (cntN y.lv (C.ls.take k) : Nat) ∧ vs = [(12, .d (.s (.int .i64 kv))), (11, .d (.s (.int .i64 cv)))] ∧ hs = [(3, .cs 25 [.d (.s (.int .i64 ct)), .d (.s (.int .i64 cp)), .d (.s (.int .i64 cr)), .d (.s (.int .i64 cm)), .d (.view 10 L), .d (.view 5 S)])]) C.ls.length ⟨0, _, _, by omega, rfl, rfl, rfl, rfl⟩ (by repeat (first | exact True.intro | refine ⟨⟨rfl, rfl⟩, ?_⟩)) (by repeat (first | exact True.intro | refine ⟨⟨rfl, rfl, rfl⟩, ?_⟩)) ?_
    rintro J2 n2 vs hs hJ2 ⟨k, kv, cv, hk, hkv, hcv, rfl, rfl⟩
    conv => arg 4; cbv
    have hck : cntN y.lv (C.ls.take k) ≤ k := by
      have := List.countP_le_length (p := fun x : Lv => eqW x.nm y.lv) (l := C.ls.take k)
      rw [List.length_take] at this
      unfold cntN
      omega
    refine AKt.node (fun hb2 => ?_) (fun hb2 => ?_)
    · have hlt2 : k < C.ls.length := by rw [hF, f_ltI, f_lenD, hll, hkv] at hb2; have := of_decide_eq_true hb2; omega
      obtain ⟨x, hx⟩ : ∃ x, C.ls[k]? = some x := ⟨_, List.getElem?_eq_getElem hlt2⟩
      have hd : L[k]? = some x.dat := by rw [hL]; exact lvDs_get hx
      have hx_ : F .hasD L kv [.str, .int .i64, .int .i64, .int .i64, .int .i64, .int .i64, .int .i64, .int .i64, .int .i64, .int .i64] = true := t_hasD hF hd hkv rfl
      obtain ⟨x0, hx0⟩ : ∃ z, z = x.nm := ⟨_, rfl⟩
      try rw [show F .strA L kv 0 = x0 by rw [hx0]; exact t_strA hF hd hkv rfl]
      obtain ⟨x1, hx1⟩ : ∃ z, z = x.kd := ⟨_, rfl⟩
      try rw [show F .intA L kv 1 = x1 by rw [hx1]; exact t_intA hF hd hkv rfl]
      obtain ⟨x2, hx2⟩ : ∃ z, z = x.sh := ⟨_, rfl⟩
      try rw [show F .intA L kv 2 = x2 by rw [hx2]; exact t_intA hF hd hkv rfl]
      obtain ⟨x3, hx3⟩ : ∃ z, z = x.ld := ⟨_, rfl⟩
      try rw [show F .intA L kv 3 = x3 by rw [hx3]; exact t_intA hF hd hkv rfl]
      obtain ⟨x4, hx4⟩ : ∃ z, z = x.bo := ⟨_, rfl⟩
      try rw [show F .intA L kv 4 = x4 by rw [hx4]; exact t_intA hF hd hkv rfl]
      obtain ⟨x5, hx5⟩ : ∃ z, z = x.qu := ⟨_, rfl⟩
      try rw [show F .intA L kv 5 = x5 by rw [hx5]; exact t_intA hF hd hkv rfl]
      obtain ⟨x6, hx6⟩ : ∃ z, z = x.ha := ⟨_, rfl⟩
      try rw [show F .intA L kv 6 = x6 by rw [hx6]; exact t_intA hF hd hkv rfl]
      obtain ⟨x7, hx7⟩ : ∃ z, z = x.le := ⟨_, rfl⟩
      try rw [show F .intA L kv 7 = x7 by rw [hx7]; exact t_intA hF hd hkv rfl]
      obtain ⟨x8, hx8⟩ : ∃ z, z = x.wa := ⟨_, rfl⟩
      try rw [show F .intA L kv 8 = x8 by rw [hx8]; exact t_intA hF hd hkv rfl]
      obtain ⟨x9, hx9⟩ : ∃ z, z = x.gu := ⟨_, rfl⟩
      try rw [show F .intA L kv 9 = x9 by rw [hx9]; exact t_intA hF hd hkv rfl]
      have hz_ : F .hasD S iv [.str, .str, .int .i64, .int .i64, .view 5] = true := t_hasD hF hdy hiv rfl
      obtain ⟨z0, hz0⟩ : ∃ z, z = y.nm := ⟨_, rfl⟩
      try rw [show F .strA S iv 0 = z0 by rw [hz0]; exact t_strA hF hdy hiv rfl]
      obtain ⟨z1, hz1⟩ : ∃ z, z = y.lv := ⟨_, rfl⟩
      try rw [show F .strA S iv 1 = z1 by rw [hz1]; exact t_strA hF hdy hiv rfl]
      obtain ⟨z2, hz2⟩ : ∃ z, z = y.rk := ⟨_, rfl⟩
      try rw [show F .intA S iv 2 = z2 by rw [hz2]; exact t_intA hF hdy hiv rfl]
      obtain ⟨z3, hz3⟩ : ∃ z, z = y.bb := ⟨_, rfl⟩
      try rw [show F .intA S iv 3 = z3 by rw [hz3]; exact t_intA hF hdy hiv rfl]
      obtain ⟨z4, hz4⟩ : ∃ z, z = rlDs y.rl := ⟨_, rfl⟩
      try rw [show F .viewA S iv 4 = z4 by rw [hz4]; exact t_viewA hF hdy hiv rfl]
      have htk : C.ls.take (k + 1) = C.ls.take k ++ [x] := by rw [List.take_add_one, hx]; rfl
      have e1 : x.nm = y.lv → F .wrap .i64 (F .add cv 1) = (cntN y.lv (C.ls.take (k + 1)) : Nat) := fun h => by
        rw [wadd _ _ (by omega) (by omega), htk, hcv]
        unfold cntN
        rw [List.countP_append]
        simp [eqW, h]
      have e0 : ¬ x.nm = y.lv → cv = (cntN y.lv (C.ls.take (k + 1)) : Nat) := fun h => by
        rw [htk, hcv]
        unfold cntN
        rw [List.countP_append]
        simp [eqW, h]
      refine AKt.need hx_ fun _ => AKt.need hz_ fun _ => ?_
      refine AKt.node (fun hq => ?_) (fun hq => ?_)
      · rw [(eqS_iff hF).1, hx0, hz1] at hq
        repeat' (first | with_reducible (first | refine AKt.have ?_ | refine AKt.tt ?_ | refine AKt.ff ?_ | refine AKt.yes (by assumption) ?_ | refine AKt.no (by assumption) ?_ | refine AKt.node (fun hb => ?_) (fun hb => ?_) | refine AKt.need ?_ (fun hb => ?_) | refine AKt.leaf ?_) | ((with_reducible show _ = true); assumption))
        refine AKp.again _ hfr (by repeat (first | exact True.intro | refine ⟨⟨rfl, rfl⟩, ?_⟩)) (by repeat (first | exact True.intro | refine ⟨⟨rfl, rfl, rfl⟩, ?_⟩)) (hJ2 (n2 - 1) _ _ (by omega) ⟨k + 1, _, _, by omega, inc_i hF hkv (by omega), e1 hq, rfl, rfl⟩)
      · rw [(eqS_iff hF).2, hx0, hz1] at hq
        repeat' (first | with_reducible (first | refine AKt.have ?_ | refine AKt.tt ?_ | refine AKt.ff ?_ | refine AKt.yes (by assumption) ?_ | refine AKt.no (by assumption) ?_ | refine AKt.node (fun hb => ?_) (fun hb => ?_) | refine AKt.need ?_ (fun hb => ?_) | refine AKt.leaf ?_) | ((with_reducible show _ = true); assumption))
        refine AKp.again _ hfr (by repeat (first | exact True.intro | refine ⟨⟨rfl, rfl⟩, ?_⟩)) (by repeat (first | exact True.intro | refine ⟨⟨rfl, rfl, rfl⟩, ?_⟩)) (hJ2 (n2 - 1) _ _ (by omega) ⟨k + 1, _, _, by omega, inc_i hF hkv (by omega), e0 hq, rfl, rfl⟩)
    have hge2 : ¬ k < C.ls.length := by rw [hF, f_ltI, f_lenD, hll, hkv] at hb2; have := of_decide_eq_false hb2; omega
    rw [List.take_of_length_le (by omega), hone] at hcv
    have g1 : F .not (F .eqI cv 1) = false := (not_iff hF).2.2 ((eqI_iff hF).1.2 (by omega))
    repeat' (first | with_reducible (first | refine AKt.have ?_ | refine AKt.tt ?_ | refine AKt.ff ?_ | refine AKt.yes (by assumption) ?_ | refine AKt.no (by assumption) ?_ | refine AKt.node (fun hb => ?_) (fun hb => ?_) | refine AKt.need ?_ (fun hb => ?_) | refine AKt.leaf ?_) | ((with_reducible show _ = true); assumption))
    refine AKp.again _ hfr (by repeat (first | exact True.intro | refine ⟨⟨rfl, rfl⟩, ?_⟩)) (by repeat (first | exact True.intro | refine ⟨⟨rfl, rfl, rfl⟩, ?_⟩)) (hJ (n - 1) _ _ (by omega) ⟨i + 1, _, by omega, inc_i hF hiv (by omega), rfl, rfl⟩)
  have gl : ∀ z : Int, 0 < z → F .ltI 0 z = true := fun z h => by rw [hF, f_ltI]; exact decide_eq_true h
  simp only [inB, Bool.and_eq_true, decide_eq_true_eq] at f1 f2 f3 f4
  have P2 := P.tt
  have P3 := P.pe
  have P4 := P.pr
  have g1 := gl ev (by omega)
  have g2 := gl sv (by omega)
  have g3 := gl ct (by omega)
  have g4 := gl cp (by omega)
  have g5 := gl cr (by omega)
  have g6 := gl cm (by omega)
  repeat' (first | with_reducible (first | refine AKt.have ?_ | refine AKt.tt ?_ | refine AKt.ff ?_ | refine AKt.yes (by assumption) ?_ | refine AKt.no (by assumption) ?_ | refine AKt.node (fun hb => ?_) (fun hb => ?_) | refine AKt.need ?_ (fun hb => ?_) | refine AKt.leaf ?_) | ((with_reducible show _ = true); assumption))
  refine AKp.doneE tabOK hfr (by rfl) ?_
  show _ = _
  simp only [tupAV]
  rw [g6]
theorem RulesSoundT_spec (c : Cf) : ESpec Tryd.prog 3 [.d (.agg c.cells)] (fun x => x = .d (.s (.bool true))) := rulesSound_spec _ _ _ _ _ _ (by rw [isCf0, is_lv, is_sm]; rfl)
end Go.Proofs.YtpmpajodihpkaaaDoor

