/- The library of this claim and its walks, part 38, joined out of smaller texts. No statement stands in it. -/
import Derived.Test.YtpmpajodihpkaaaDoorUaM28
import Derived.Test.YtpmpajodihpkaaaDoorUaM35
import Derived.Test.YtpmpajodihpkaaaDoorUaM37
/- What is let pass: what that means, and what follows. -/
namespace Go.Proofs.YtpmpajodihpkaaaDoor
open Go Go.Proofs Go.Ua Go.Extern
set_option linter.unusedVariables false
set_option linter.unusedSimpArgs false
/-- What is let pass. -/
structure Pass (c : Cf) : Prop where
  form : formC c = true
  tt : c.tt ≠ 0
  pe : c.pe ≠ 0
  pr : c.pr ≠ 0
  lv : ∀ l, l ∈ c.ls → rlvE l = 0
  sm : ∀ s, s ∈ c.ss → rsmE s c.ls = 0
  e1 : haveL wEx c.ls = true
  e2 : haveL wCa c.ls = true
  e3 : haveS wEx c.ss = true
  e4 : haveS wCa c.ss = true
theorem lack_zero {ls : List Lv} {ss : List Sm} : (lackF ls ss).1 = 0 ↔ haveL wEx ls = true ∧ haveL wCa ls = true ∧ haveS wEx ss = true ∧ haveS wCa ss = true := by
  unfold lackF
  repeat' split
  all_goals simp_all
theorem rchS_zero {ls : List Lv} {all : List Sm} : ∀ {l : List Sm}, (rchS ls all l).1 = 0 ↔ (∀ s, s ∈ l → rsmE s ls = 0) ∧ (lackF ls all).1 = 0
  | [] => by simp [rchS]
  | s :: r => by
    rw [rchS]
    by_cases h : rsmE s ls = 0
    · rw [if_neg (fun g => g h), rchS_zero (l := r)]
      simp [h]
    · rw [if_pos h]
      simp [h]
theorem rchL_zero {all : List Lv} {ss : List Sm} : ∀ {l : List Lv}, (rchL all ss l).1 = 0 ↔ (∀ x, x ∈ l → rlvE x = 0) ∧ (rchS all ss ss).1 = 0
  | [] => by simp [rchL]
  | x :: r => by
    rw [rchL]
    by_cases h : rlvE x = 0
    · rw [if_neg (fun g => g h), rchL_zero (l := r)]
      simp [h]
    · rw [if_pos h]
      simp [h]
theorem pass_iff {c : Cf} : (rchF c).1 = 0 ↔ Pass c := by
  unfold rchF
  constructor
  · intro h
    repeat' split at h
    all_goals try (cases h; done)
    rename_i h1 h2 h3 h4
    rw [rchL_zero, rchS_zero, lack_zero] at h
    obtain ⟨g1, g2, g3, g4, g5, g6⟩ := h
    exact ⟨by simpa using h1, h2, h3, h4, g1, g2, g3, g4, g5, g6⟩
  · intro h
    rw [if_neg (fun g => Bool.noConfusion (h.form.symm.trans g)), if_neg h.tt, if_neg h.pe, if_neg h.pr, rchL_zero, rchS_zero, lack_zero]
    exact ⟨h.lv, h.sm, h.e1, h.e2, h.e3, h.e4⟩
def chkOk (a b c d : Int) (ls ss : List Dat) : Bool := isCf0 ls ss && decide ((rchF ⟨a, b, c, d, unLv ls, unSm ss⟩).1 = 0)
def chkBad (a b c d : Int) (ls ss : List Dat) : Bool := isCf0 ls ss && decide (¬ (rchF ⟨a, b, c, d, unLv ls, unSm ss⟩).1 = 0)
theorem checkOk_spec (a b c d : Int) (ls ss : List Dat) (hb : chkOk a b c d ls ss = true) : ESpec Tryd.prog 8 [.d (.agg [.s (.int .i64 a), .s (.int .i64 b), .s (.int .i64 c), .s (.int .i64 d), .view 10 ls, .view 5 ss])] (fun x => x = .d (.s .if0)) := by
  rw [chkOk, Bool.and_eq_true, decide_eq_true_eq] at hb
  have h := rcheck_spec a b c d ls ss hb.1
  rw [rchD, errW, if_pos hb.2] at h
  exact h
theorem checkBad_spec (a b c d : Int) (ls ss : List Dat) (hb : chkBad a b c d ls ss = true) : ESpec Tryd.prog 8 [.d (.agg [.s (.int .i64 a), .s (.int .i64 b), .s (.int .i64 c), .s (.int .i64 d), .view 10 ls, .view 5 ss])] (fun x => x = .d (.iface 62 (.agg [.s (.int .i64 0), .s (.str (rchF ⟨a, b, c, d, unLv ls, unSm ss⟩).2), .iface 35 (.s (.int .i64 (rchF ⟨a, b, c, d, unLv ls, unSm ss⟩).1))]))) := by
  rw [chkBad, Bool.and_eq_true, decide_eq_true_eq] at hb
  have h := rcheck_spec a b c d ls ss hb.1
  rw [rchD, errW_no hb.2] at h
  exact h
def φCheckOk (p : Int → Int → Int → Int → List Dat → List Dat → Bool) : List AV → Option (Bool × AV)
  | [.d (.agg [.s (.int .i64 a), .s (.int .i64 b), .s (.int .i64 c), .s (.int .i64 d), .view 10 ls, .view 5 ss])] => some (p a b c d ls ss, .d (.s .if0))
  | _ => none
theorem φCheckOk_ok : SpOK Tryd.prog 8 (φCheckOk (chkOk)) := by
  intro xs b x h hb
  unfold φCheckOk at h
  split at h
  · simp only [Option.some.injEq, Prod.mk.injEq] at h
    obtain ⟨rfl, rfl⟩ := h
    exact checkOk_spec _ _ _ _ _ _ hb
  · cases h
def φCheckBad (p : Int → Int → Int → Int → List Dat → List Dat → Bool) (w : Int → Int → Int → Int → List Dat → List Dat → Wd) (n : Int → Int → Int → Int → List Dat → List Dat → Int) : List AV → Option (Bool × AV)
  | [.d (.agg [.s (.int .i64 a), .s (.int .i64 b), .s (.int .i64 c), .s (.int .i64 d), .view 10 ls, .view 5 ss])] => some (p a b c d ls ss, .d (.iface 62 (.agg [.s (.int .i64 0), .s (.str (w a b c d ls ss)), .iface 35 (.s (.int .i64 (n a b c d ls ss)))])))
  | _ => none
theorem φCheckBad_ok : SpOK Tryd.prog 8 (φCheckBad (chkBad) (fun a b c d ls ss => (rchF ⟨a, b, c, d, unLv ls, unSm ss⟩).2) (fun a b c d ls ss => (rchF ⟨a, b, c, d, unLv ls, unSm ss⟩).1)) := by
  intro xs b x h hb
  unfold φCheckBad at h
  split at h
  · simp only [Option.some.injEq, Prod.mk.injEq] at h
    obtain ⟨rfl, rfl⟩ := h
    exact checkBad_spec _ _ _ _ _ _ hb
  · cases h
end Go.Proofs.YtpmpajodihpkaaaDoor

/- Chapter 13: RulesSound. -/
namespace Go.Proofs.YtpmpajodihpkaaaDoor
open Go Go.Proofs Go.Ua Go.Extern
set_option linter.unusedVariables false
set_option linter.unusedSimpArgs false
set_option maxRecDepth 10000
end Go.Proofs.YtpmpajodihpkaaaDoor

/- A configuration copied, its levels and schemas in rows that may be written. -/
namespace Go.Proofs.YtpmpajodihpkaaaDoor
open Go Go.Proofs Go.Ua Go.Extern
set_option linter.unusedVariables false
set_option linter.unusedSimpArgs false
set_option maxRecDepth 10000
def copyQ (c : Cf) (x : AV) (h' : List (Nat × Blk)) (fr' : Nat) : Prop := x = .agg [.d (.s (.int .i64 c.tt)), .d (.s (.int .i64 c.pe)), .d (.s (.int .i64 c.pr)), .d (.s (.int .i64 c.mo)), .row 0 10, .row 1 5] ∧ h' = [(0, .ds 33 10 (lvDs c.ls)), (1, .ds 40 5 (smDs c.ss))] ∧ fr' = 2
set_option maxHeartbeats 2000000 in
theorem CopyR_spec (c : Cf) (hc : cpC c = true) : ASpec Tryd.prog 10 [.d (.agg [.s (.int .i64 c.tt), .s (.int .i64 c.pe), .s (.int .i64 c.pr), .s (.int .i64 c.mo), .view 10 (lvDs c.ls), .view 5 (smDs c.ss)])] [] 0 (copyQ c) := by
  obtain ⟨uRWords, huRWords⟩ : ∃ u : List Dat → Bool, u = lsB := ⟨_, rfl⟩
  have hG : TblOK Tryd.prog [(21, .p (φRWords uRWords))] := ⟨(by rw [huRWords]; exact φRWords_ok), trivial⟩
  obtain ⟨tt, pe, pr, mo, ls, ss⟩ := c
  simp only [cpC, Bool.and_eq_true, decide_eq_true_eq] at hc ⊢
  obtain ⟨hc1, hc2, hc3⟩ := hc
  obtain ⟨ld, hld⟩ : ∃ z, z = lvDs ls := ⟨_, rfl⟩
  obtain ⟨sd, hsd⟩ : ∃ z, z = smDs ss := ⟨_, rfl⟩
  rw [← hld, ← hsd]
  have hll : ld.length = ls.length := by rw [hld, lvDs_len]
  have hsl : sd.length = ss.length := by rw [hsd, smDs_len]
  refine ASpec.enterK Tryd.func10 (by kernel_rfl) rfl (Nat.le_of_ble_eq_true rfl) fun hok cx hnt hfr => ?_
  obtain ⟨F, hF⟩ := real_ex
  refine AK.runTn hF tabOK hmix hnt [] false _ hG (Nat.le_of_eq hfr) ?_
  conv => arg 4; cbv
  rw [appE hF]
  have hf0 : F .fits 88 ld = true := t_fits hF (by omega)
  repeat' (first | with_reducible (first | refine AKt.have ?_ | refine AKt.tt ?_ | refine AKt.ff ?_ | refine AKt.yes (by assumption) ?_ | refine AKt.no (by assumption) ?_ | refine AKt.node (fun hb => ?_) (fun hb => ?_) | refine AKt.need ?_ (fun hb => ?_) | refine AKt.leaf ?_) | ((with_reducible show _ = true); assumption))
  refine AKp.asRow 3 40 5 (by decide) rfl ?_
  conv => arg 4; arg 2; cbv
  have two : (∀ i ad, i ≤ ss.length → ad = smDs (ss.take i) → F .fits 72 ad = true) := fun i ad hi h => t_fits hF (by rw [h, smDs_len]; simp; omega)
  refine AKp.enterLoop 14 ?_
  conv => arg 7; cbv
  refine AKl.invT hF tabOK hmix hnt hfr false _ hG (fun n vs hs => ∃ (i : Nat) (iv : Int) (ad : List Dat), i + n = ss.length ∧ iv = i ∧ ad = smDs (ss.take i) ∧ vs = [(4, .d (.s (.int .i64 iv))), (3, .row 4 5)] ∧ hs = [(4, .ds 40 5 ad), (3, .ds 33 10 ld), (0, .cs 25 [.d (.s (.int .i64 tt)), .d (.s (.int .i64 pe)), .d (.s (.int .i64 pr)), .d (.s (.int .i64 mo)), .row 3 10, .d (.view 5 sd)]), (1, .cs 25 [.d (.s (.int .i64 0)), .d (.s (.int .i64 0)), .d (.s (.int .i64 0)), .d (.s (.int .i64 0)), .d (.s .sl0), .d (.s .sl0)])]) ss.length ⟨0, _, [], by omega, rfl, by rfl, rfl, rfl⟩ (by repeat (first | exact True.intro | refine ⟨⟨rfl, rfl⟩, ?_⟩)) (by repeat (first | exact True.intro | refine ⟨⟨rfl, rfl, rfl⟩, ?_⟩)) ?_
  rintro J n vs hs hJ ⟨i, iv, ad, hi, hiv, had, rfl, rfl⟩
  conv => arg 4; cbv
  refine AKt.node (fun hb => ?_) (fun hb => ?_)
  rotate_left
  · have hge : ¬ i < ss.length := by rw [hF, f_ltI, f_lenD, hsl, hiv] at hb; have := of_decide_eq_false hb; omega
    rw [List.take_of_length_le (by omega), ← hsd] at had
    rw [had]
    repeat' (first | with_reducible (first | refine AKt.have ?_ | refine AKt.tt ?_ | refine AKt.ff ?_ | refine AKt.yes (by assumption) ?_ | refine AKt.no (by assumption) ?_ | refine AKt.node (fun hb => ?_) (fun hb => ?_) | refine AKt.need ?_ (fun hb => ?_) | refine AKt.leaf ?_) | ((with_reducible show _ = true); assumption))
    trace_state
    refine AKp.doneG (x := .agg [.d (.s (.int .i64 tt)), .d (.s (.int .i64 pe)), .d (.s (.int .i64 pr)), .d (.s (.int .i64 mo)), .row 0 10, .row 1 5]) (h' := [(0, .ds 33 10 ld), (1, .ds 40 5 sd)]) tabOK [3, 4] hfr rfl ?_ ?_ ?_ rfl ?_
    · rfl
    · rfl
    · exact (by repeat (first | exact True.intro | refine ⟨⟨Nat.le_of_ble_eq_true rfl, rfl, rfl⟩, ?_⟩))
    · rw [hld, hsd]
      exact ⟨rfl, rfl, rfl⟩
  have hlt : i < ss.length := by rw [hF, f_ltI, f_lenD, hsl, hiv] at hb; have := of_decide_eq_true hb; omega
  obtain ⟨x, hx⟩ : ∃ x, ss[i]? = some x := ⟨_, List.getElem?_eq_getElem hlt⟩
  have hd : sd[i]? = some x.dat := by rw [hsd]; exact smDs_get hx
  have hx_ : F .hasD sd iv [.str, .str, .int .i64, .int .i64, .view 5] = true := t_hasD hF hd hiv rfl
  obtain ⟨x0, hx0⟩ : ∃ z, z = x.nm := ⟨_, rfl⟩
  try rw [show F .strA sd iv 0 = x0 by rw [hx0]; exact t_strA hF hd hiv rfl]
  obtain ⟨x1, hx1⟩ : ∃ z, z = x.lv := ⟨_, rfl⟩
  try rw [show F .strA sd iv 1 = x1 by rw [hx1]; exact t_strA hF hd hiv rfl]
  obtain ⟨x2, hx2⟩ : ∃ z, z = x.rk := ⟨_, rfl⟩
  try rw [show F .intA sd iv 2 = x2 by rw [hx2]; exact t_intA hF hd hiv rfl]
  obtain ⟨x3, hx3⟩ : ∃ z, z = x.bb := ⟨_, rfl⟩
  try rw [show F .intA sd iv 3 = x3 by rw [hx3]; exact t_intA hF hd hiv rfl]
  obtain ⟨x4, hx4⟩ : ∃ z, z = rlDs x.rl := ⟨_, rfl⟩
  try rw [show F .viewA sd iv 4 = x4 by rw [hx4]; exact t_viewA hF hd hiv rfl]
  have hcx := List.all_eq_true.1 hc3 x (List.mem_of_getElem? hx)
  simp only [cpS, Bool.and_eq_true, decide_eq_true_eq] at hcx
  have hrl : x4.length = x.rl.length := by rw [hx4, rlDs_len]
  refine AKt.need hx_ fun _ => ?_
  repeat' (first | with_reducible (first | refine AKt.have ?_ | refine AKt.tt ?_ | refine AKt.ff ?_ | refine AKt.yes (by assumption) ?_ | refine AKt.no (by assumption) ?_ | refine AKt.node (fun hb => ?_) (fun hb => ?_) | refine AKt.need ?_ (fun hb => ?_) | refine AKt.leaf ?_) | ((with_reducible show _ = true); assumption))
  refine AKp.asRow 6 47 5 (by decide) rfl ?_
  conv => arg 4; arg 2; cbv
  refine AKp.enterLoop 26 ?_
  conv => arg 7; cbv
  refine AKl.invTs hF tabOK hmix hnt (Nat.le_trans (Nat.le_of_eq hfr) (Nat.le_of_ble_eq_true rfl)) [13] false _ hG (fun m vs hs => ∃ (k : Nat) (kv : Int) (bd : List Dat), k + m = x.rl.length ∧ kv = k ∧ bd = rlDs (x.rl.take k) ∧ vs = [(7, .d (.s (.int .i64 kv))), (6, .row 6 5)] ∧ hs = [(6, .ds 47 5 bd), (5, .cs 40 [.d (.s (.str x0)), .d (.s (.str x1)), .d (.s (.int .i64 x2)), .d (.s (.int .i64 x3)), .d (.view 5 x4)]), (4, .ds 40 5 ad), (3, .ds 33 10 ld), (0, .cs 25 [.d (.s (.int .i64 tt)), .d (.s (.int .i64 pe)), .d (.s (.int .i64 pr)), .d (.s (.int .i64 mo)), .row 3 10, .d (.view 5 sd)]), (1, .cs 25 [.d (.s (.int .i64 0)), .d (.s (.int .i64 0)), .d (.s (.int .i64 0)), .d (.s (.int .i64 0)), .d (.s .sl0), .d (.s .sl0)])]) x.rl.length ⟨0, _, [], by omega, rfl, by rfl, rfl, rfl⟩ (by repeat (first | exact True.intro | refine ⟨⟨rfl, rfl⟩, ?_⟩)) (by repeat (first | exact True.intro | refine ⟨⟨rfl, rfl, rfl⟩, ?_⟩)) ?_
  rintro J2 m vs hs hJ2 ⟨k, kv, bd, hk, hkv, hbd, rfl, rfl⟩
  conv => arg 4; cbv
  refine AKt.node (fun hb2 => ?_) (fun hb2 => ?_)
  · have hlt2 : k < x.rl.length := by rw [hF, f_ltI, f_lenD, hrl, hkv] at hb2; have := of_decide_eq_true hb2; omega
    obtain ⟨r, hr⟩ : ∃ r, x.rl[k]? = some r := ⟨_, List.getElem?_eq_getElem hlt2⟩
    have hdr : x4[k]? = some r.dat := by rw [hx4]; exact rlDs_get hr
    have hr_ : F .hasD x4 kv [.view 1, .view 1, .view 1, .view 1, .view 1] = true := t_hasD hF hdr hkv rfl
    obtain ⟨r0, hr0⟩ : ∃ z, z = strDs r.us := ⟨_, rfl⟩
    try rw [show F .viewA x4 kv 0 = r0 by rw [hr0]; exact t_viewA hF hdr hkv rfl]
    obtain ⟨r1, hr1⟩ : ∃ z, z = strDs r.gs := ⟨_, rfl⟩
    try rw [show F .viewA x4 kv 1 = r1 by rw [hr1]; exact t_viewA hF hdr hkv rfl]
    obtain ⟨r2, hr2⟩ : ∃ z, z = strDs r.vs := ⟨_, rfl⟩
    try rw [show F .viewA x4 kv 2 = r2 by rw [hr2]; exact t_viewA hF hdr hkv rfl]
    obtain ⟨r3, hr3⟩ : ∃ z, z = strDs r.rs := ⟨_, rfl⟩
    try rw [show F .viewA x4 kv 3 = r3 by rw [hr3]; exact t_viewA hF hdr hkv rfl]
    obtain ⟨r4, hr4⟩ : ∃ z, z = strDs r.ps := ⟨_, rfl⟩
    try rw [show F .viewA x4 kv 4 = r4 by rw [hr4]; exact t_viewA hF hdr hkv rfl]
    have hcr := List.all_eq_true.1 hcx.2 r (List.mem_of_getElem? hr)
    have qw : ∀ l, l ∈ rlLs r → uRWords (strDs l) = true := fun l hl => by
      have := of_decide_eq_true (List.all_eq_true.1 hcr l hl)
      subst huRWords
      exact decide_eq_true (by rw [strDs_length]; omega)
    have q0 : uRWords r0 = true := by rw [hr0]; exact qw _ (by simp [rlLs])
    have q1 : uRWords r1 = true := by rw [hr1]; exact qw _ (by simp [rlLs])
    have q2 : uRWords r2 = true := by rw [hr2]; exact qw _ (by simp [rlLs])
    have q3 : uRWords r3 = true := by rw [hr3]; exact qw _ (by simp [rlLs])
    have q4 : uRWords r4 = true := by rw [hr4]; exact qw _ (by simp [rlLs])
    obtain ⟨nd, hnd⟩ : ∃ z, z = F .appD bd [.agg [.view 1 r0, .view 1 r1, .view 1 r2, .view 1 r3, .view 1 r4]] := ⟨_, rfl⟩
    have hnd2 : nd = rlDs (x.rl.take (k + 1)) := by
      rw [hnd, hF, f_appD, hbd, List.take_add_one, hr, hr0, hr1, hr2, hr3, hr4]
      simp [rlDs, Rl.dat]
    have hfn : F .fits 120 nd = true := t_fits hF (by rw [hnd2, rlDs_len]; simp; omega)
    rw [← hnd]
    repeat' (first | with_reducible (first | refine AKt.have ?_ | refine AKt.tt ?_ | refine AKt.ff ?_ | refine AKt.yes (by assumption) ?_ | refine AKt.no (by assumption) ?_ | refine AKt.node (fun hb => ?_) (fun hb => ?_) | refine AKt.need ?_ (fun hb => ?_) | refine AKt.leaf ?_) | ((with_reducible show _ = true); assumption))
    refine AKp.againR [(6, 8)] _ hfr (by repeat (first | exact True.intro | refine ⟨⟨rfl, rfl⟩, ?_⟩)) (by repeat (first | exact True.intro | refine ⟨⟨Nat.le_of_ble_eq_true rfl, rfl, rfl⟩, ?_⟩)) rfl (hJ2 (m - 1) _ _ (by omega) ⟨k + 1, _, _, by omega, inc_i hF hkv (by omega), hnd2, rfl, rfl⟩)
  have hge2 : ¬ k < x.rl.length := by rw [hF, f_ltI, f_lenD, hrl, hkv] at hb2; have := of_decide_eq_false hb2; omega
  rw [List.take_of_length_le (by omega)] at hbd
  repeat' (first | with_reducible (first | refine AKt.have ?_ | refine AKt.tt ?_ | refine AKt.ff ?_ | refine AKt.yes (by assumption) ?_ | refine AKt.no (by assumption) ?_ | refine AKt.node (fun hb => ?_) (fun hb => ?_) | refine AKt.need ?_ (fun hb => ?_) | refine AKt.leaf ?_) | ((with_reducible show _ = true); assumption))
  refine AKp.freeze 6 rfl ?_
  conv => arg 4; arg 2; cbv
  refine AK.runT hF tabOK hmix hnt hfr false _ hG ?_
  conv => arg 4; cbv
  obtain ⟨nd, hnd⟩ : ∃ z, z = F .appD ad [.agg [.s (.str x0), .s (.str x1), .s (.int .i64 x2), .s (.int .i64 x3), .view 5 bd]] := ⟨_, rfl⟩
  have hnd2 : nd = smDs (ss.take (i + 1)) := by
    rw [hnd, hF, f_appD, had, List.take_add_one, hx, hx0, hx1, hx2, hx3, hbd]
    simp [smDs, Sm.dat]
  have hfn : F .fits 72 nd = true := two (i + 1) nd (by omega) hnd2
  rw [← hnd]
  repeat' (first | with_reducible (first | refine AKt.have ?_ | refine AKt.tt ?_ | refine AKt.ff ?_ | refine AKt.yes (by assumption) ?_ | refine AKt.no (by assumption) ?_ | refine AKt.node (fun hb => ?_) (fun hb => ?_) | refine AKt.need ?_ (fun hb => ?_) | refine AKt.leaf ?_) | ((with_reducible show _ = true); assumption))
  refine AKp.againR [(4, 8)] _ hfr (by repeat (first | exact True.intro | refine ⟨⟨rfl, rfl⟩, ?_⟩)) (by repeat (first | exact True.intro | refine ⟨⟨Nat.le_of_ble_eq_true rfl, rfl, rfl⟩, ?_⟩)) rfl (hJ (n - 1) _ _ (by omega) ⟨i + 1, _, _, by omega, inc_i hF hiv (by omega), hnd2, rfl, rfl⟩)
theorem CopyRD_spec (a b c d : Int) (ls ss : List Dat) (hb : (isCf0 ls ss && cpC ⟨a, b, c, d, unLv ls, unSm ss⟩) = true) : ASpec Tryd.prog 10 [.d (.agg [.s (.int .i64 a), .s (.int .i64 b), .s (.int .i64 c), .s (.int .i64 d), .view 10 ls, .view 5 ss])] [] 0 (copyQ ⟨a, b, c, d, unLv ls, unSm ss⟩) := by
  obtain ⟨h1, h2⟩ := cp_un hb
  simp only [isCf0, Bool.and_eq_true] at h1
  have h := CopyR_spec ⟨a, b, c, d, unLv ls, unSm ss⟩ h2
  simp only [lv_un h1.1, sm_un h1.2] at h
  exact h
def idLv (ls : List Dat) : List Dat := lvDs (unLv ls)
def idSm (ss : List Dat) : List Dat := smDs (unSm ss)
def φCopyR (p : Int → Int → Int → Int → List Dat → List Dat → Bool) (u v : List Dat → List Dat) : Nat → List AV → List (Nat × Blk) → Option (Bool × AV × List (Nat × Blk) × Nat)
  | 0, [.d (.agg [.s (.int .i64 a), .s (.int .i64 b), .s (.int .i64 c), .s (.int .i64 d), .view 10 ls, .view 5 ss])], [] => some (p a b c d ls ss, .agg [.d (.s (.int .i64 a)), .d (.s (.int .i64 b)), .d (.s (.int .i64 c)), .d (.s (.int .i64 d)), .row 0 10, .row 1 5], [(0, .ds 33 10 (u ls)), (1, .ds 40 5 (v ss))], 2)
  | _, _, _ => none
theorem φCopyR_ok : MSpOK Tryd.prog 10 (φCopyR (fun a b c d ls ss => isCf0 ls ss && cpC ⟨a, b, c, d, unLv ls, unSm ss⟩) (idLv) (idSm)) := by
  intro fr xs h b x h1 fr1 h hb
  unfold φCopyR at h
  split at h
  · simp only [Option.some.injEq, Prod.mk.injEq] at h
    obtain ⟨rfl, rfl, rfl, rfl⟩ := h
    exact CopyRD_spec _ _ _ _ _ _ hb
  · cases h
end Go.Proofs.YtpmpajodihpkaaaDoor

/- What is let pass does not hang on the order of levels and schemas. -/
namespace Go.Proofs.YtpmpajodihpkaaaDoor
open Go Go.Proofs Go.Ua Go.Extern
set_option linter.unusedVariables false
set_option linter.unusedSimpArgs false
theorem hasL_iff {p : List Lv} {w : Wd} : hasL p w = false ↔ ∀ x, x ∈ p → x.nm ≠ w := by
  unfold hasL
  rw [List.any_eq_false]
  simp
theorem hasM_iff {p : List Sm} {w : Wd} : hasM p w = false ↔ ∀ x, x ∈ p → x.nm ≠ w := by
  unfold hasM
  rw [List.any_eq_false]
  simp
theorem allL_iff : ∀ {l p : List Lv}, allL p l = true ↔ (∀ x, x ∈ l → levOK x = true) ∧ (l.map (·.nm)).Nodup ∧ ∀ x, x ∈ l → hasL p x.nm = false
  | [], p => by simp [allL]
  | x :: r, p => by
    have ih := allL_iff (l := r) (p := p ++ [x])
    simp only [allL, Bool.and_eq_true, Bool.not_eq_true', ih, List.map_cons, List.nodup_cons, List.mem_cons, forall_eq_or_imp, hasL_iff, List.mem_append, List.mem_map]
    constructor
    · rintro ⟨h1, h2, h3, h4, h5⟩
      refine ⟨⟨h1, h3⟩, ⟨?_, h4⟩, h2, fun y hy z hz => h5 y hy z (.inl hz)⟩
      rintro ⟨y, hy, e⟩
      exact h5 y hy x (.inr (by simp)) e.symm
    · rintro ⟨⟨h1, h3⟩, ⟨h6, h4⟩, h2, h5⟩
      refine ⟨h1, h2, h3, h4, fun y hy z hz => ?_⟩
      rcases hz with hz | hz
      · exact h5 y hy z hz
      · have hz : z = x := by simpa using hz
        rw [hz]
        exact fun e => h6 ⟨y, hy, e.symm⟩
theorem allM_iff : ∀ {l p : List Sm}, allM p l = true ↔ (∀ x, x ∈ l → smOK x = true) ∧ (l.map (·.nm)).Nodup ∧ ∀ x, x ∈ l → hasM p x.nm = false
  | [], p => by simp [allM]
  | x :: r, p => by
    have ih := allM_iff (l := r) (p := p ++ [x])
    simp only [allM, Bool.and_eq_true, Bool.not_eq_true', ih, List.map_cons, List.nodup_cons, List.mem_cons, forall_eq_or_imp, hasM_iff, List.mem_append, List.mem_map]
    constructor
    · rintro ⟨h1, h2, h3, h4, h5⟩
      refine ⟨⟨h1, h3⟩, ⟨?_, h4⟩, h2, fun y hy z hz => h5 y hy z (.inl hz)⟩
      rintro ⟨y, hy, e⟩
      exact h5 y hy x (.inr (by simp)) e.symm
    · rintro ⟨⟨h1, h3⟩, ⟨h6, h4⟩, h2, h5⟩
      refine ⟨h1, h2, h3, h4, fun y hy z hz => ?_⟩
      rcases hz with hz | hz
      · exact h5 y hy z hz
      · have hz : z = x := by simpa using hz
        rw [hz]
        exact fun e => h6 ⟨y, hy, e.symm⟩
theorem allL_perm {l m : List Lv} (h : l.Perm m) : allL [] l = allL [] m := by
  rw [Bool.eq_iff_iff, allL_iff, allL_iff]
  have hm := fun x => h.mem_iff (a := x)
  rw [(h.map (·.nm)).nodup_iff]
  simp only [hm]
theorem allM_perm {l m : List Sm} (h : l.Perm m) : allM [] l = allM [] m := by
  rw [Bool.eq_iff_iff, allM_iff, allM_iff]
  have hm := fun x => h.mem_iff (a := x)
  rw [(h.map (·.nm)).nodup_iff]
  simp only [hm]
theorem formC_perm {a b c d : Int} {l m : List Lv} {s t : List Sm} (h1 : l.Perm m) (h2 : s.Perm t) : formC ⟨a, b, c, d, l, s⟩ = formC ⟨a, b, c, d, m, t⟩ := by
  simp only [formC, allL_perm h1, allM_perm h2, h1.length_eq, h2.length_eq]
theorem haveL_perm {w : Wd} {l m : List Lv} (h : l.Perm m) : haveL w l = haveL w m := by
  unfold haveL
  rw [Bool.eq_iff_iff, List.any_eq_true, List.any_eq_true]
  simp only [h.mem_iff]
theorem haveS_perm {w : Wd} {l m : List Sm} (h : l.Perm m) : haveS w l = haveS w m := by
  unfold haveS
  rw [Bool.eq_iff_iff, List.any_eq_true, List.any_eq_true]
  simp only [h.mem_iff]
theorem pass_perm1 {a b c d : Int} {l m : List Lv} {s t : List Sm} (h1 : l.Perm m) (h2 : s.Perm t) (h : Pass ⟨a, b, c, d, l, s⟩) : Pass ⟨a, b, c, d, m, t⟩ := by
  obtain ⟨g1, g2, g3, g4, g5, g6, g7, g8, g9, g10⟩ := h
  refine ⟨(formC_perm h1 h2).symm.trans g1, g2, g3, g4, fun x hx => g5 x (h1.mem_iff.2 hx), fun x hx => ?_, (haveL_perm h1).symm.trans g7, (haveL_perm h1).symm.trans g8, (haveS_perm h2).symm.trans g9, (haveS_perm h2).symm.trans g10⟩
  have := g6 x (h2.mem_iff.2 hx)
  unfold rsmE at this ⊢
  rw [← haveL_perm h1]
  exact this
theorem pass_perm {a b c d : Int} {l m : List Lv} {s t : List Sm} (h1 : l.Perm m) (h2 : s.Perm t) : (rchF ⟨a, b, c, d, l, s⟩).1 = 0 ↔ (rchF ⟨a, b, c, d, m, t⟩).1 = 0 := by
  rw [pass_iff, pass_iff]
  exact ⟨pass_perm1 h1 h2, pass_perm1 h1.symm h2.symm⟩
theorem rot_perm {α : Type} (l : List α) (k : Nat) : (l.drop k ++ l.take k).Perm l := by
  have h := List.perm_append_comm (l₁ := l.drop k) (l₂ := l.take k)
  rw [List.take_append_drop] at h
  exact h
theorem addL_bd {w : Wd} {x : Lv} {ls l : List Lv} : (addL w x ls l).length ≤ l.length + 1 := by
  unfold addL
  split
  · omega
  · simp
theorem addS_bd {w : Wd} {x : Sm} {ls l : List Sm} : (addS w x ls l).length ≤ l.length + 1 := by
  unfold addS
  split
  · omega
  · simp
theorem fill_cp {c : Cf} (h : smallF c = true) : cpC (fillF c) = true := by
  have h0 := cp_small h
  simp only [smallF, Bool.and_eq_true, decide_eq_true_eq] at h
  obtain ⟨h1, h2, h3, h4, h5⟩ := h
  simp only [cpC, Bool.and_eq_true, decide_eq_true_eq] at h0 ⊢
  obtain ⟨g1, g2, g3⟩ := h0
  have a1 := addL_bd (w := wEx) (x := lEx) (ls := c.ls) (l := c.ls)
  have a2 := addL_bd (w := wCa) (x := lCa) (ls := c.ls) (l := addL wEx lEx c.ls c.ls)
  have b1 := addS_bd (w := wEx) (x := sEx) (ls := c.ss) (l := c.ss)
  have b2 := addS_bd (w := wCa) (x := sCa) (ls := c.ss) (l := addS wEx sEx c.ss c.ss)
  refine ⟨?_, ?_, ?_⟩
  · show (addL wCa lCa c.ls (addL wEx lEx c.ls c.ls)).length ≤ 1000
    omega
  · show (addS wCa sCa c.ss (addS wEx sEx c.ss c.ss)).length ≤ 1000
    omega
  · show (addS wCa sCa c.ss (addS wEx sEx c.ss c.ss)).all cpS = true
    have k : ∀ {w x} {l : List Sm}, cpS x = true → l.all cpS = true → (addS w x c.ss l).all cpS = true := fun hx hl => by
      unfold addS
      split
      · exact hl
      · rw [List.all_append, hl]
        simp [hx]
    exact k (by decide) (k (by decide) g3)
theorem t_toN {F : Fam} (hF : F = Fam.real) {iv : Int} {i : Nat} (h : iv = i) : F .toN iv = i := by rw [hF, h]; rfl
theorem t_natI {F : Fam} (hF : F = Fam.real) (i : Nat) : F .natI i = (i : Int) := by rw [hF]; rfl
theorem t_hasN {F : Fam} (hF : F = Fam.real) {es : List Dat} {iv : Int} {i : Nat} (h : iv = i) (hl : i < es.length) : F .hasN es iv = true := by
  rw [hF, h]
  show (decide (0 ≤ (i : Int)) && decide ((i : Int) < (es.length : Int))) = true
  rw [decide_eq_true (by omega), decide_eq_true (by omega)]
  rfl
theorem t_setD {F : Fam} (hF : F = Fam.real) (es : List Dat) (i : Nat) (d : Dat) : F .setD es i d = es.set i d := by rw [hF]; rfl
/-- One list laid over another, as far as it has gone. -/
theorem over_set {α : Type} {a b : List α} {i : Nat} {x : α} (hl : a.length = b.length) (hx : a[i]? = some x) : (a.take i ++ b.drop i).set i x = a.take (i + 1) ++ b.drop (i + 1) := by
  obtain ⟨h1, h2⟩ := List.getElem?_eq_some_iff.1 hx
  have e1 : (a.take i).length = i := by rw [List.length_take]; omega
  rw [List.set_append_right _ _ (by omega), e1, Nat.sub_self, List.take_add_one, hx]
  have e2 : (List.drop i b).set 0 x = x :: List.drop (i + 1) b := by
    rw [List.drop_eq_getElem_cons (by omega : i < b.length), List.set_cons_zero]
  rw [e2]
  simp
end Go.Proofs.YtpmpajodihpkaaaDoor

