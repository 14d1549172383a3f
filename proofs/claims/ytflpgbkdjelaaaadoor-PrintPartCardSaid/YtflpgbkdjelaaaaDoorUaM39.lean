/- The library of this claim and its walks, part 39, joined out of smaller texts. No statement stands in it. -/
import Derived.Test.YtflpgbkdjelaaaaDoorUaM29
import Derived.Test.YtflpgbkdjelaaaaDoorUaM31
/- Configurations copied. -/
namespace Go.Proofs.YtflpgbkdjelaaaaDoor
open Go Go.Proofs Go.Ua Go.Extern
set_option linter.unusedVariables false
set_option linter.unusedSimpArgs false
set_option maxRecDepth 10000

def lsB (es : List Dat) : Bool := decide (es.length ≤ 1000000000)
theorem rwords_spec (es : List Dat) (h : lsB es = true) : ESpec Tryd.prog 16 [.d (.view 1 es)] (fun x => x = .d (.view 1 es)) := by
  have h := of_decide_eq_true h
  have hG : TblOK Tryd.prog [] := trivial
  refine ESpec.enter Tryd.func16 (by kernel_rfl) rfl (Nat.le_of_ble_eq_true rfl) fun hok cx hnt hfr => ?_
  obtain ⟨F, hF⟩ := real_ex
  refine AK.runT hF tabOK hmix hnt hfr false _ hG ?_
  conv => arg 4; cbv
  have ha : F .appD [] es = es := by rw [hF]; rfl
  have hf : F .fits 16 es = true := by rw [hF]; exact decide_eq_true (by omega)
  rw [ha]
  repeat' (first | with_reducible (first | refine AKt.have ?_ | refine AKt.tt ?_ | refine AKt.ff ?_ | refine AKt.yes (by assumption) ?_ | refine AKt.no (by assumption) ?_ | refine AKt.node (fun hb => ?_) (fun hb => ?_) | refine AKt.need ?_ (fun hb => ?_) | refine AKt.leaf ?_) | ((with_reducible show _ = true); assumption))
  refine AKp.freeze 1 rfl ?_
  conv => arg 4; arg 2; cbv
  refine AKp.doneE tabOK hfr (by rfl) ?_
  show _ = _
  simp only [tupAV]
def φRWords (p : List Dat → Bool) : List AV → Option (Bool × AV)
  | [.d (.view 1 es)] => some (p es, .d (.view 1 es))
  | _ => none
theorem φRWords_ok : SpOK Tryd.prog 16 (φRWords (lsB)) := by
  intro xs b x h hb
  unfold φRWords at h
  split at h
  · simp only [Option.some.injEq, Prod.mk.injEq] at h
    obtain ⟨rfl, rfl⟩ := h
    exact rwords_spec _ hb
  · cases h

/-- What a copy may be made of. -/
def cpR (r : Rl) : Bool := (rlLs r).all fun l => decide (l.length ≤ 1000)
def cpS (s : Sm) : Bool := decide (s.rl.length ≤ 1000) && s.rl.all cpR
def cpC (c : Cf) : Bool := decide (c.ls.length ≤ 1000) && (decide (c.ss.length ≤ 1000) && c.ss.all cpS)
theorem cp_small {c : Cf} (h : smallF c = true) : cpC c = true := by
  simp only [smallF, Bool.and_eq_true, decide_eq_true_eq] at h
  obtain ⟨h1, h2, h3, h4, h5⟩ := h
  simp only [cpC, Bool.and_eq_true, decide_eq_true_eq]
  refine ⟨by omega, by omega, ?_⟩
  rw [List.all_eq_true] at h4 ⊢
  intro s hs
  have := h4 s hs
  simp only [smB, Bool.and_eq_true, decide_eq_true_eq] at this
  simp only [cpS, Bool.and_eq_true, decide_eq_true_eq]
  refine ⟨by omega, ?_⟩
  have h6 := this.2.2.2
  rw [List.all_eq_true] at h6 ⊢
  intro r hr
  have := h6 r hr
  unfold rlB at this
  unfold cpR
  rw [List.all_eq_true] at this ⊢
  intro l hl
  have := this l hl
  simp only [lstB, Bool.and_eq_true, decide_eq_true_eq] at this
  exact decide_eq_true (by omega)

theorem appE {F : Fam} (hF : F = Fam.real) (es : List Dat) : F .appD [] es = es := by rw [hF]; rfl
set_option maxHeartbeats 2000000 in
theorem Copy_spec (c : Cf) (hc : cpC c = true) : ESpec Tryd.prog 9 [.d (.agg [.s (.int .i64 c.tt), .s (.int .i64 c.pe), .s (.int .i64 c.pr), .s (.int .i64 c.mo), .view 10 (lvDs c.ls), .view 5 (smDs c.ss)])] (fun x => x = .d (.agg [.s (.int .i64 c.tt), .s (.int .i64 c.pe), .s (.int .i64 c.pr), .s (.int .i64 c.mo), .view 10 (lvDs c.ls), .view 5 (smDs c.ss)])) := by
  obtain ⟨uRWords, huRWords⟩ : ∃ u : List Dat → Bool, u = lsB := ⟨_, rfl⟩
  have hG : TblOK Tryd.prog [(16, .p (φRWords uRWords))] := ⟨(by rw [huRWords]; exact φRWords_ok), trivial⟩
  obtain ⟨tt, pe, pr, mo, ls, ss⟩ := c
  simp only [cpC, Bool.and_eq_true, decide_eq_true_eq] at hc ⊢
  obtain ⟨hc1, hc2, hc3⟩ := hc
  obtain ⟨ld, hld⟩ : ∃ z, z = lvDs ls := ⟨_, rfl⟩
  obtain ⟨sd, hsd⟩ : ∃ z, z = smDs ss := ⟨_, rfl⟩
  rw [← hld, ← hsd]
  have hll : ld.length = ls.length := by rw [hld, lvDs_len]
  have hsl : sd.length = ss.length := by rw [hsd, smDs_len]
  refine ESpec.enter Tryd.func9 (by kernel_rfl) rfl (Nat.le_of_ble_eq_true rfl) fun hok cx hnt hfr => ?_
  obtain ⟨F, hF⟩ := real_ex
  refine AK.runT hF tabOK hmix hnt hfr false _ hG ?_
  conv => arg 4; cbv
  rw [appE hF]
  have hf0 : F .fits 88 ld = true := t_fits hF (by omega)
  repeat' (first | with_reducible (first | refine AKt.have ?_ | refine AKt.tt ?_ | refine AKt.ff ?_ | refine AKt.yes (by assumption) ?_ | refine AKt.no (by assumption) ?_ | refine AKt.node (fun hb => ?_) (fun hb => ?_) | refine AKt.need ?_ (fun hb => ?_) | refine AKt.leaf ?_) | ((with_reducible show _ = true); assumption))
  refine AKp.freeze 3 rfl ?_
  conv => arg 4; arg 2; cbv
  refine AKp.asRow 3 45 5 (by decide) rfl ?_
  conv => arg 4; arg 2; cbv
  have two : (∀ i ad, i ≤ ss.length → ad = smDs (ss.take i) → F .fits 72 ad = true) := fun i ad hi h => t_fits hF (by rw [h, smDs_len]; simp; omega)
  refine AKp.enterLoop 14 ?_
  conv => arg 7; cbv
  refine AKl.invT hF tabOK hmix hnt hfr false _ hG (fun n vs hs => ∃ (i : Nat) (iv : Int) (ad : List Dat), i + n = ss.length ∧ iv = i ∧ ad = smDs (ss.take i) ∧ vs = [(4, .d (.s (.int .i64 iv))), (3, .row 4 5)] ∧ hs = [(4, .ds 45 5 ad), (0, .cs 25 [.d (.s (.int .i64 tt)), .d (.s (.int .i64 pe)), .d (.s (.int .i64 pr)), .d (.s (.int .i64 mo)), .d (.view 10 ld), .d (.view 5 sd)]), (1, .cs 25 [.d (.s (.int .i64 0)), .d (.s (.int .i64 0)), .d (.s (.int .i64 0)), .d (.s (.int .i64 0)), .d (.s .sl0), .d (.s .sl0)])]) ss.length ⟨0, _, [], by omega, rfl, by rfl, rfl, rfl⟩ (by repeat (first | exact True.intro | refine ⟨⟨rfl, rfl⟩, ?_⟩)) (by repeat (first | exact True.intro | refine ⟨⟨rfl, rfl, rfl⟩, ?_⟩)) ?_
  rintro J n vs hs hJ ⟨i, iv, ad, hi, hiv, had, rfl, rfl⟩
  conv => arg 4; cbv
  refine AKt.node (fun hb => ?_) (fun hb => ?_)
  rotate_left
  · have hge : ¬ i < ss.length := by rw [hF, f_ltI, f_lenD, hsl, hiv] at hb; have := of_decide_eq_false hb; omega
    rw [List.take_of_length_le (by omega), ← hsd] at had
    rw [had]
    repeat' (first | with_reducible (first | refine AKt.have ?_ | refine AKt.tt ?_ | refine AKt.ff ?_ | refine AKt.yes (by assumption) ?_ | refine AKt.no (by assumption) ?_ | refine AKt.node (fun hb => ?_) (fun hb => ?_) | refine AKt.need ?_ (fun hb => ?_) | refine AKt.leaf ?_) | ((with_reducible show _ = true); assumption))
    refine AKp.freeze 4 rfl ?_
    conv => arg 4; arg 2; cbv
    refine AKp.doneE tabOK hfr (by rfl) ?_
    show _ = _
    simp only [tupAV]
    rfl
  have hlt : i < ss.length := by rw [hF, f_ltI, f_lenD, hsl, hiv] at hb; have := of_decide_eq_true hb; omega
  obtain ⟨x, hx⟩ : ∃ x, ss[i]? = some x := ⟨_, List.getElem?_eq_getElem hlt⟩
  have hd : sd[i]? = some x.dat := by rw [hsd]; exact smDs_get hx
  have hx_ : F .hasD sd iv [.str, .str, .int .i64, .int .i64, .view 5] = true := t_hasD hF hd hiv rfl
  obtain ⟨x0, hx0⟩ : ∃ z, z = x.nm := ⟨_, rfl⟩
  try rw [show F .strA sd iv 0 = x0 by rw [hx0]; exact t_strA hF hd hiv rfl]
  obtain ⟨x1, hx1⟩ : ∃ z, z = x.lv := ⟨_, rfl⟩
  try rw [show F .strA sd iv 1 = x1 by rw [hx1]; exact t_strA hF hd hiv rfl]
  obtain ⟨x2, hx2⟩ : ∃ z, z = x.rk := ⟨_, rfl⟩
  try rw [show F .intA sd iv 2 = x2 by rw [hx2]; exact t_intA hF hd hiv rfl]
  obtain ⟨x3, hx3⟩ : ∃ z, z = x.bb := ⟨_, rfl⟩
  try rw [show F .intA sd iv 3 = x3 by rw [hx3]; exact t_intA hF hd hiv rfl]
  obtain ⟨x4, hx4⟩ : ∃ z, z = rlDs x.rl := ⟨_, rfl⟩
  try rw [show F .viewA sd iv 4 = x4 by rw [hx4]; exact t_viewA hF hd hiv rfl]
  have hcx := List.all_eq_true.1 hc3 x (List.mem_of_getElem? hx)
  simp only [cpS, Bool.and_eq_true, decide_eq_true_eq] at hcx
  have hrl : x4.length = x.rl.length := by rw [hx4, rlDs_len]
  refine AKt.need hx_ fun _ => ?_
  repeat' (first | with_reducible (first | refine AKt.have ?_ | refine AKt.tt ?_ | refine AKt.ff ?_ | refine AKt.yes (by assumption) ?_ | refine AKt.no (by assumption) ?_ | refine AKt.node (fun hb => ?_) (fun hb => ?_) | refine AKt.need ?_ (fun hb => ?_) | refine AKt.leaf ?_) | ((with_reducible show _ = true); assumption))
  refine AKp.asRow 6 48 5 (by decide) rfl ?_
  conv => arg 4; arg 2; cbv
  refine AKp.enterLoop 26 ?_
  conv => arg 7; cbv
  refine AKl.invTs hF tabOK hmix hnt (Nat.le_trans (Nat.le_of_eq hfr) (Nat.le_of_ble_eq_true rfl)) [13] false _ hG (fun m vs hs => ∃ (k : Nat) (kv : Int) (bd : List Dat), k + m = x.rl.length ∧ kv = k ∧ bd = rlDs (x.rl.take k) ∧ vs = [(7, .d (.s (.int .i64 kv))), (6, .row 6 5)] ∧ hs = [(6, .ds 48 5 bd), (5, .cs 45 [.d (.s (.str x0)), .d (.s (.str x1)), .d (.s (.int .i64 x2)), .d (.s (.int .i64 x3)), .d (.view 5 x4)]), (4, .ds 45 5 ad), (0, .cs 25 [.d (.s (.int .i64 tt)), .d (.s (.int .i64 pe)), .d (.s (.int .i64 pr)), .d (.s (.int .i64 mo)), .d (.view 10 ld), .d (.view 5 sd)]), (1, .cs 25 [.d (.s (.int .i64 0)), .d (.s (.int .i64 0)), .d (.s (.int .i64 0)), .d (.s (.int .i64 0)), .d (.s .sl0), .d (.s .sl0)])]) x.rl.length ⟨0, _, [], by omega, rfl, by rfl, rfl, rfl⟩ (by repeat (first | exact True.intro | refine ⟨⟨rfl, rfl⟩, ?_⟩)) (by repeat (first | exact True.intro | refine ⟨⟨rfl, rfl, rfl⟩, ?_⟩)) ?_
  rintro J2 m vs hs hJ2 ⟨k, kv, bd, hk, hkv, hbd, rfl, rfl⟩
  conv => arg 4; cbv
  refine AKt.node (fun hb2 => ?_) (fun hb2 => ?_)
  · have hlt2 : k < x.rl.length := by rw [hF, f_ltI, f_lenD, hrl, hkv] at hb2; have := of_decide_eq_true hb2; omega
    obtain ⟨r, hr⟩ : ∃ r, x.rl[k]? = some r := ⟨_, List.getElem?_eq_getElem hlt2⟩
    have hdr : x4[k]? = some r.dat := by rw [hx4]; exact rlDs_get hr
    have hr_ : F .hasD x4 kv [.view 1, .view 1, .view 1, .view 1, .view 1] = true := t_hasD hF hdr hkv rfl
    obtain ⟨r0, hr0⟩ : ∃ z, z = strDs r.us := ⟨_, rfl⟩
    try rw [show F .viewA x4 kv 0 = r0 by rw [hr0]; exact t_viewA hF hdr hkv rfl]
    obtain ⟨r1, hr1⟩ : ∃ z, z = strDs r.gs := ⟨_, rfl⟩
    try rw [show F .viewA x4 kv 1 = r1 by rw [hr1]; exact t_viewA hF hdr hkv rfl]
    obtain ⟨r2, hr2⟩ : ∃ z, z = strDs r.vs := ⟨_, rfl⟩
    try rw [show F .viewA x4 kv 2 = r2 by rw [hr2]; exact t_viewA hF hdr hkv rfl]
    obtain ⟨r3, hr3⟩ : ∃ z, z = strDs r.rs := ⟨_, rfl⟩
    try rw [show F .viewA x4 kv 3 = r3 by rw [hr3]; exact t_viewA hF hdr hkv rfl]
    obtain ⟨r4, hr4⟩ : ∃ z, z = strDs r.ps := ⟨_, rfl⟩
    try rw [show F .viewA x4 kv 4 = r4 by rw [hr4]; exact t_viewA hF hdr hkv rfl]
    have hcr := List.all_eq_true.1 hcx.2 r (List.mem_of_getElem? hr)
    have qw : ∀ l, l ∈ rlLs r → uRWords (strDs l) = true := fun l hl => by
      have := of_decide_eq_true (List.all_eq_true.1 hcr l hl)
      subst huRWords
      exact decide_eq_true (by rw [strDs_length]; omega)
    have q0 : uRWords r0 = true := by rw [hr0]; exact qw _ (by simp [rlLs])
    have q1 : uRWords r1 = true := by rw [hr1]; exact qw _ (by simp [rlLs])
    have q2 : uRWords r2 = true := by rw [hr2]; exact qw _ (by simp [rlLs])
    have q3 : uRWords r3 = true := by rw [hr3]; exact qw _ (by simp [rlLs])
    have q4 : uRWords r4 = true := by rw [hr4]; exact qw _ (by simp [rlLs])
    obtain ⟨nd, hnd⟩ : ∃ z, z = F .appD bd [.agg [.view 1 r0, .view 1 r1, .view 1 r2, .view 1 r3, .view 1 r4]] := ⟨_, rfl⟩
    have hnd2 : nd = rlDs (x.rl.take (k + 1)) := by
      rw [hnd, hF, f_appD, hbd, List.take_add_one, hr, hr0, hr1, hr2, hr3, hr4]
      simp [rlDs, Rl.dat]
    have hfn : F .fits 120 nd = true := t_fits hF (by rw [hnd2, rlDs_len]; simp; omega)
    rw [← hnd]
    repeat' (first | with_reducible (first | refine AKt.have ?_ | refine AKt.tt ?_ | refine AKt.ff ?_ | refine AKt.yes (by assumption) ?_ | refine AKt.no (by assumption) ?_ | refine AKt.node (fun hb => ?_) (fun hb => ?_) | refine AKt.need ?_ (fun hb => ?_) | refine AKt.leaf ?_) | ((with_reducible show _ = true); assumption))
    refine AKp.againR [(6, 8)] _ hfr (by repeat (first | exact True.intro | refine ⟨⟨rfl, rfl⟩, ?_⟩)) (by repeat (first | exact True.intro | refine ⟨⟨Nat.le_of_ble_eq_true rfl, rfl, rfl⟩, ?_⟩)) rfl (hJ2 (m - 1) _ _ (by omega) ⟨k + 1, _, _, by omega, inc_i hF hkv (by omega), hnd2, rfl, rfl⟩)
  have hge2 : ¬ k < x.rl.length := by rw [hF, f_ltI, f_lenD, hrl, hkv] at hb2; have := of_decide_eq_false hb2; omega
  rw [List.take_of_length_le (by omega)] at hbd
  repeat' (first | with_reducible (first | refine AKt.have ?_ | refine AKt.tt ?_ | refine AKt.ff ?_ | refine AKt.yes (by assumption) ?_ | refine AKt.no (by assumption) ?_ | refine AKt.node (fun hb => ?_) (fun hb => ?_) | refine AKt.need ?_ (fun hb => ?_) | refine AKt.leaf ?_) | ((with_reducible show _ = true); assumption))
  refine AKp.freeze 6 rfl ?_
  conv => arg 4; arg 2; cbv
  refine AK.runT hF tabOK hmix hnt hfr false _ hG ?_
  conv => arg 4; cbv
  obtain ⟨nd, hnd⟩ : ∃ z, z = F .appD ad [.agg [.s (.str x0), .s (.str x1), .s (.int .i64 x2), .s (.int .i64 x3), .view 5 bd]] := ⟨_, rfl⟩
  have hnd2 : nd = smDs (ss.take (i + 1)) := by
    rw [hnd, hF, f_appD, had, List.take_add_one, hx, hx0, hx1, hx2, hx3, hbd]
    simp [smDs, Sm.dat]
  have hfn : F .fits 72 nd = true := two (i + 1) nd (by omega) hnd2
  rw [← hnd]
  repeat' (first | with_reducible (first | refine AKt.have ?_ | refine AKt.tt ?_ | refine AKt.ff ?_ | refine AKt.yes (by assumption) ?_ | refine AKt.no (by assumption) ?_ | refine AKt.node (fun hb => ?_) (fun hb => ?_) | refine AKt.need ?_ (fun hb => ?_) | refine AKt.leaf ?_) | ((with_reducible show _ = true); assumption))
  refine AKp.againR [(4, 8)] _ hfr (by repeat (first | exact True.intro | refine ⟨⟨rfl, rfl⟩, ?_⟩)) (by repeat (first | exact True.intro | refine ⟨⟨Nat.le_of_ble_eq_true rfl, rfl, rfl⟩, ?_⟩)) rfl (hJ (n - 1) _ _ (by omega) ⟨i + 1, _, _, by omega, inc_i hF hiv (by omega), hnd2, rfl, rfl⟩)
theorem cp_un {a b c d : Int} {ls ss : List Dat} (h : (isCf0 ls ss && cpC ⟨a, b, c, d, unLv ls, unSm ss⟩) = true) : isCf0 ls ss = true ∧ cpC ⟨a, b, c, d, unLv ls, unSm ss⟩ = true := by
  simpa using h
theorem CopyD_spec (a b c d : Int) (ls ss : List Dat) (hb : (isCf0 ls ss && cpC ⟨a, b, c, d, unLv ls, unSm ss⟩) = true) : ESpec Tryd.prog 9 [.d (.agg [.s (.int .i64 a), .s (.int .i64 b), .s (.int .i64 c), .s (.int .i64 d), .view 10 ls, .view 5 ss])] (fun x => x = .d (.agg [.s (.int .i64 a), .s (.int .i64 b), .s (.int .i64 c), .s (.int .i64 d), .view 10 ls, .view 5 ss])) := by
  obtain ⟨h1, h2⟩ := cp_un hb
  simp only [isCf0, Bool.and_eq_true] at h1
  have h := Copy_spec ⟨a, b, c, d, unLv ls, unSm ss⟩ h2
  simp only [lv_un h1.1, sm_un h1.2] at h
  exact h
def φCopyC (p : Int → Int → Int → Int → List Dat → List Dat → Bool) : List AV → Option (Bool × AV)
  | [.d (.agg [.s (.int .i64 a), .s (.int .i64 b), .s (.int .i64 c), .s (.int .i64 d), .view 10 ls, .view 5 ss])] => some (p a b c d ls ss, .d (.agg [.s (.int .i64 a), .s (.int .i64 b), .s (.int .i64 c), .s (.int .i64 d), .view 10 ls, .view 5 ss]))
  | _ => none
theorem φCopyC_ok : SpOK Tryd.prog 9 (φCopyC (fun a b c d ls ss => isCf0 ls ss && cpC ⟨a, b, c, d, unLv ls, unSm ss⟩)) := by
  intro xs b x h hb
  unfold φCopyC at h
  split at h
  · simp only [Option.some.injEq, Prod.mk.injEq] at h
    obtain ⟨rfl, rfl⟩ := h
    exact CopyD_spec _ _ _ _ _ _ hb
  · cases h
end Go.Proofs.YtflpgbkdjelaaaaDoor

/- Are two configurations the same? -/
namespace Go.Proofs.YtflpgbkdjelaaaaDoor
open Go Go.Proofs Go.Ua Go.Extern
set_option linter.unusedVariables false
set_option linter.unusedSimpArgs false
set_option maxRecDepth 10000

theorem take_eq_succ {α : Type} {p q : List α} {i : Nat} {x y : α} (h : p.take i = q.take i) (hx : p[i]? = some x) (hy : q[i]? = some y) (e : x = y) : p.take (i + 1) = q.take (i + 1) := by
  rw [List.take_add_one, List.take_add_one, h, hx, hy, e]
theorem ne_at {α : Type} {p q : List α} {i : Nat} {x y : α} (hx : p[i]? = some x) (hy : q[i]? = some y) (e : x ≠ y) : p ≠ q := fun h => by
  rw [h, hy] at hx
  exact e (Option.some.inj hx).symm

set_option maxHeartbeats 4000000 in
set_option cbv.maxSteps 10000000 in
theorem SameRules_spec (p q : List Rl) : ESpec Tryd.prog 31 [.d (.view 5 (rlDs p)), .d (.view 5 (rlDs q))] (fun x => x = .d (.s (.bool (decide (p = q))))) := by
  obtain ⟨uSame, huSame⟩ : ∃ u : List Dat → List Dat → Bool, u = fun l m => isStrs l && isStrs m := ⟨_, rfl⟩
  obtain ⟨uSame1, huSame1⟩ : ∃ u : List Dat → List Dat → Bool, u = fun l m => decide (unStr l = unStr m) := ⟨_, rfl⟩
  have hG : TblOK Tryd.prog [(50, .p (φSame uSame uSame1))] := ⟨(by rw [huSame, huSame1]; exact φSame_ok), trivial⟩
  obtain ⟨Z, hZ⟩ : ∃ z, z = decide (p = q) := ⟨_, rfl⟩
  rw [← hZ]
  obtain ⟨pd, hpd⟩ : ∃ z, z = rlDs p := ⟨_, rfl⟩
  obtain ⟨qd, hqd⟩ : ∃ z, z = rlDs q := ⟨_, rfl⟩
  rw [← hpd, ← hqd]
  have hpl : pd.length = p.length := by rw [hpd, rlDs_len]
  have hql : qd.length = q.length := by rw [hqd, rlDs_len]
  refine ESpec.enter Tryd.func31 (by kernel_rfl) rfl (Nat.le_of_ble_eq_true rfl) fun hok cx hnt hfr => ?_
  obtain ⟨F, hF⟩ := real_ex
  refine AK.runT hF tabOK hmix hnt hfr true _ hG ?_
  conv => arg 4; cbv
  refine AKt.node (fun hb => ?_) (fun hb => ?_)
  · have : p ≠ q := fun e => by
      rw [hF, f_not, f_eqI, f_lenD, f_lenD, hpl, hql, e] at hb
      simp at hb
    repeat' (first | with_reducible (first | refine AKt.have ?_ | refine AKt.tt ?_ | refine AKt.ff ?_ | refine AKt.yes (by assumption) ?_ | refine AKt.no (by assumption) ?_ | refine AKt.node (fun hb => ?_) (fun hb => ?_) | refine AKt.need ?_ (fun hb => ?_) | refine AKt.leaf ?_) | ((with_reducible show _ = true); assumption))
    refine AKp.doneE tabOK hfr (by rfl) ?_
    show _ = _
    simp only [tupAV]
    rw [hZ, decide_eq_false this]
  have hlen : p.length = q.length := by
    rw [hF, f_not, f_eqI, f_lenD, f_lenD, hpl, hql] at hb
    simp at hb
    omega
  repeat' (first | with_reducible (first | refine AKt.have ?_ | refine AKt.tt ?_ | refine AKt.ff ?_ | refine AKt.yes (by assumption) ?_ | refine AKt.no (by assumption) ?_ | refine AKt.node (fun hb => ?_) (fun hb => ?_) | refine AKt.need ?_ (fun hb => ?_) | refine AKt.leaf ?_) | ((with_reducible show _ = true); assumption))
  refine AKp.enterLoop 11 ?_
  conv => arg 7; cbv
  refine AKl.invT hF tabOK hmix hnt hfr true _ hG (fun n vs hs => ∃ (i : Nat) (iv : Int), i + n = p.length ∧ iv = i ∧ p.take i = q.take i ∧ vs = [(5, .d (.s (.int .i64 iv)))] ∧ hs = []) p.length ⟨0, _, by omega, rfl, by rfl, rfl, rfl⟩ (by repeat (first | exact True.intro | refine ⟨⟨rfl, rfl⟩, ?_⟩)) (by repeat (first | exact True.intro | refine ⟨⟨rfl, rfl, rfl⟩, ?_⟩)) ?_
  rintro J n vs hs hJ ⟨i, iv, hi, hiv, hall, rfl, rfl⟩
  conv => arg 4; cbv
  refine AKt.node (fun hb => ?_) (fun hb => ?_)
  rotate_left
  · have hge : ¬ i < p.length := by rw [hF, f_ltI, f_lenD, hpl, hiv] at hb; have := of_decide_eq_false hb; omega
    rw [List.take_of_length_le (by omega), List.take_of_length_le (by omega)] at hall
    repeat' (first | with_reducible (first | refine AKt.have ?_ | refine AKt.tt ?_ | refine AKt.ff ?_ | refine AKt.yes (by assumption) ?_ | refine AKt.no (by assumption) ?_ | refine AKt.node (fun hb => ?_) (fun hb => ?_) | refine AKt.need ?_ (fun hb => ?_) | refine AKt.leaf ?_) | ((with_reducible show _ = true); assumption))
    refine AKp.doneE tabOK hfr (by rfl) ?_
    show _ = _
    simp only [tupAV]
    rw [hZ, decide_eq_true hall]
  have hlt : i < p.length := by rw [hF, f_ltI, f_lenD, hpl, hiv] at hb; have := of_decide_eq_true hb; omega
  have hn := hok.1
  have hbig : p.length ≤ 9223372036854775807 := by
    have : pd.length ≤ maxLen := hok.1.1
    have e : maxLen = 9223372036854775807 := rfl
    omega
  obtain ⟨r, hr⟩ : ∃ r, p[i]? = some r := ⟨_, List.getElem?_eq_getElem hlt⟩
  obtain ⟨s, hs⟩ : ∃ s, q[i]? = some s := ⟨_, List.getElem?_eq_getElem (by omega)⟩
  have hdr : pd[i]? = some r.dat := by rw [hpd]; exact rlDs_get hr
  have hds : qd[i]? = some s.dat := by rw [hqd]; exact rlDs_get hs
  have hr_ : F .hasD pd iv [.view 1, .view 1, .view 1, .view 1, .view 1] = true := t_hasD hF hdr hiv rfl
  obtain ⟨r0, hr0⟩ : ∃ z, z = strDs r.us := ⟨_, rfl⟩
  try rw [show F .viewA pd iv 0 = r0 by rw [hr0]; exact t_viewA hF hdr hiv rfl]
  obtain ⟨r1, hr1⟩ : ∃ z, z = strDs r.gs := ⟨_, rfl⟩
  try rw [show F .viewA pd iv 1 = r1 by rw [hr1]; exact t_viewA hF hdr hiv rfl]
  obtain ⟨r2, hr2⟩ : ∃ z, z = strDs r.vs := ⟨_, rfl⟩
  try rw [show F .viewA pd iv 2 = r2 by rw [hr2]; exact t_viewA hF hdr hiv rfl]
  obtain ⟨r3, hr3⟩ : ∃ z, z = strDs r.rs := ⟨_, rfl⟩
  try rw [show F .viewA pd iv 3 = r3 by rw [hr3]; exact t_viewA hF hdr hiv rfl]
  obtain ⟨r4, hr4⟩ : ∃ z, z = strDs r.ps := ⟨_, rfl⟩
  try rw [show F .viewA pd iv 4 = r4 by rw [hr4]; exact t_viewA hF hdr hiv rfl]
  have hs_ : F .hasD qd iv [.view 1, .view 1, .view 1, .view 1, .view 1] = true := t_hasD hF hds hiv rfl
  obtain ⟨s0, hs0⟩ : ∃ z, z = strDs s.us := ⟨_, rfl⟩
  try rw [show F .viewA qd iv 0 = s0 by rw [hs0]; exact t_viewA hF hds hiv rfl]
  obtain ⟨s1, hs1⟩ : ∃ z, z = strDs s.gs := ⟨_, rfl⟩
  try rw [show F .viewA qd iv 1 = s1 by rw [hs1]; exact t_viewA hF hds hiv rfl]
  obtain ⟨s2, hs2⟩ : ∃ z, z = strDs s.vs := ⟨_, rfl⟩
  try rw [show F .viewA qd iv 2 = s2 by rw [hs2]; exact t_viewA hF hds hiv rfl]
  obtain ⟨s3, hs3⟩ : ∃ z, z = strDs s.rs := ⟨_, rfl⟩
  try rw [show F .viewA qd iv 3 = s3 by rw [hs3]; exact t_viewA hF hds hiv rfl]
  obtain ⟨s4, hs4⟩ : ∃ z, z = strDs s.ps := ⟨_, rfl⟩
  try rw [show F .viewA qd iv 4 = s4 by rw [hs4]; exact t_viewA hF hds hiv rfl]
  have qj : ∀ l m, uSame (strDs l) (strDs m) = true := fun l m => by
    subst huSame huSame1
    show (isStrs (strDs l) && isStrs (strDs m)) = true
    rw [isStrs_strDs, isStrs_strDs]; rfl
  have ej : ∀ l m, uSame1 (strDs l) (strDs m) = decide (l = m) := fun l m => by
    subst huSame huSame1
    show decide (unStr (strDs l) = unStr (strDs m)) = _
    rw [unStr_strDs, unStr_strDs]
  have q0 : uSame r0 s0 = true := by rw [hr0, hs0]; exact qj _ _
  have q1 : uSame r1 s1 = true := by rw [hr1, hs1]; exact qj _ _
  have q2 : uSame r2 s2 = true := by rw [hr2, hs2]; exact qj _ _
  have q3 : uSame r3 s3 = true := by rw [hr3, hs3]; exact qj _ _
  have q4 : uSame r4 s4 = true := by rw [hr4, hs4]; exact qj _ _
  have bad : r ≠ s → Z = false := fun h => by rw [hZ, decide_eq_false (ne_at hr hs h)]
  refine AKt.need hr_ fun _ => AKt.need hs_ fun _ => ?_
  refine AKt.need q0 fun _ => ?_
  refine AKt.node (fun c0 => ?_) (fun c0 => ?_)
  · have : r ≠ s := fun e => by
      rw [hF, f_not, hr0, hs0, ej, e] at c0
      simp at c0
    repeat' (first | with_reducible (first | refine AKt.have ?_ | refine AKt.tt ?_ | refine AKt.ff ?_ | refine AKt.yes (by assumption) ?_ | refine AKt.no (by assumption) ?_ | refine AKt.node (fun hb => ?_) (fun hb => ?_) | refine AKt.need ?_ (fun hb => ?_) | refine AKt.leaf ?_) | ((with_reducible show _ = true); assumption))
    refine AKp.doneE tabOK hfr (by rfl) ?_
    show _ = _
    simp only [tupAV]
    rw [bad this]
  try refine AKt.need hr_ fun _ => AKt.need hs_ fun _ => ?_
  refine AKt.need q1 fun _ => ?_
  refine AKt.node (fun c1 => ?_) (fun c1 => ?_)
  · have : r ≠ s := fun e => by
      rw [hF, f_not, hr1, hs1, ej, e] at c1
      simp at c1
    repeat' (first | with_reducible (first | refine AKt.have ?_ | refine AKt.tt ?_ | refine AKt.ff ?_ | refine AKt.yes (by assumption) ?_ | refine AKt.no (by assumption) ?_ | refine AKt.node (fun hb => ?_) (fun hb => ?_) | refine AKt.need ?_ (fun hb => ?_) | refine AKt.leaf ?_) | ((with_reducible show _ = true); assumption))
    refine AKp.doneE tabOK hfr (by rfl) ?_
    show _ = _
    simp only [tupAV]
    rw [bad this]
  try refine AKt.need hr_ fun _ => AKt.need hs_ fun _ => ?_
  refine AKt.need q2 fun _ => ?_
  refine AKt.node (fun c2 => ?_) (fun c2 => ?_)
  · have : r ≠ s := fun e => by
      rw [hF, f_not, hr2, hs2, ej, e] at c2
      simp at c2
    repeat' (first | with_reducible (first | refine AKt.have ?_ | refine AKt.tt ?_ | refine AKt.ff ?_ | refine AKt.yes (by assumption) ?_ | refine AKt.no (by assumption) ?_ | refine AKt.node (fun hb => ?_) (fun hb => ?_) | refine AKt.need ?_ (fun hb => ?_) | refine AKt.leaf ?_) | ((with_reducible show _ = true); assumption))
    refine AKp.doneE tabOK hfr (by rfl) ?_
    show _ = _
    simp only [tupAV]
    rw [bad this]
  try refine AKt.need hr_ fun _ => AKt.need hs_ fun _ => ?_
  refine AKt.need q3 fun _ => ?_
  refine AKt.node (fun c3 => ?_) (fun c3 => ?_)
  · have : r ≠ s := fun e => by
      rw [hF, f_not, hr3, hs3, ej, e] at c3
      simp at c3
    repeat' (first | with_reducible (first | refine AKt.have ?_ | refine AKt.tt ?_ | refine AKt.ff ?_ | refine AKt.yes (by assumption) ?_ | refine AKt.no (by assumption) ?_ | refine AKt.node (fun hb => ?_) (fun hb => ?_) | refine AKt.need ?_ (fun hb => ?_) | refine AKt.leaf ?_) | ((with_reducible show _ = true); assumption))
    refine AKp.doneE tabOK hfr (by rfl) ?_
    show _ = _
    simp only [tupAV]
    rw [bad this]
  try refine AKt.need hr_ fun _ => AKt.need hs_ fun _ => ?_
  refine AKt.need q4 fun _ => ?_
  refine AKt.node (fun c4 => ?_) (fun c4 => ?_)
  · have : r ≠ s := fun e => by
      rw [hF, f_not, hr4, hs4, ej, e] at c4
      simp at c4
    repeat' (first | with_reducible (first | refine AKt.have ?_ | refine AKt.tt ?_ | refine AKt.ff ?_ | refine AKt.yes (by assumption) ?_ | refine AKt.no (by assumption) ?_ | refine AKt.node (fun hb => ?_) (fun hb => ?_) | refine AKt.need ?_ (fun hb => ?_) | refine AKt.leaf ?_) | ((with_reducible show _ = true); assumption))
    refine AKp.doneE tabOK hfr (by rfl) ?_
    show _ = _
    simp only [tupAV]
    rw [bad this]
  try refine AKt.need hr_ fun _ => AKt.need hs_ fun _ => ?_
  have heq : r = s := by
    have gd : ∀ l m, F .not (uSame1 (strDs l) (strDs m)) = false → l = m := fun l m h => by
      rw [hF, f_not, ej] at h
      simpa using h
    rw [hr0, hs0] at c0
    rw [hr1, hs1] at c1
    rw [hr2, hs2] at c2
    rw [hr3, hs3] at c3
    rw [hr4, hs4] at c4
    obtain ⟨x1, x2, x3, x4, x5⟩ := r
    obtain ⟨y1, y2, y3, y4, y5⟩ := s
    rw [Rl.mk.injEq]
    exact ⟨gd _ _ c0, gd _ _ c1, gd _ _ c2, gd _ _ c3, gd _ _ c4⟩
  repeat' (first | with_reducible (first | refine AKt.have ?_ | refine AKt.tt ?_ | refine AKt.ff ?_ | refine AKt.yes (by assumption) ?_ | refine AKt.no (by assumption) ?_ | refine AKt.node (fun hb => ?_) (fun hb => ?_) | refine AKt.need ?_ (fun hb => ?_) | refine AKt.leaf ?_) | ((with_reducible show _ = true); assumption))
  refine AKp.again _ hfr (by repeat (first | exact True.intro | refine ⟨⟨rfl, rfl⟩, ?_⟩)) (by repeat (first | exact True.intro | refine ⟨⟨rfl, rfl, rfl⟩, ?_⟩)) (hJ (n - 1) _ _ (by omega) ⟨i + 1, _, by omega, inc_i hF hiv (by omega), take_eq_succ hall hr hs heq, rfl, rfl⟩)
theorem SameRulesD_spec (a b : List Dat) (h : (isRl a && isRl b) = true) : ESpec Tryd.prog 31 [.d (.view 5 a), .d (.view 5 b)] (fun x => x = .d (.s (.bool (decide (unRl a = unRl b))))) := by
  simp only [Bool.and_eq_true] at h
  have := SameRules_spec (unRl a) (unRl b)
  rwa [rl_un h.1, rl_un h.2] at this
def φSameRules (p q : List Dat → List Dat → Bool) : List AV → Option (Bool × AV)
  | [.d (.view 5 a), .d (.view 5 b)] => some (p a b, .d (.s (.bool (q a b))))
  | _ => none
theorem φSameRules_ok : SpOK Tryd.prog 31 (φSameRules (fun a b => isRl a && isRl b) (fun a b => decide (unRl a = unRl b))) := by
  intro xs b x h hb
  unfold φSameRules at h
  split at h
  · simp only [Option.some.injEq, Prod.mk.injEq] at h
    obtain ⟨rfl, rfl⟩ := h
    exact SameRulesD_spec _ _ hb
  · cases h
end Go.Proofs.YtflpgbkdjelaaaaDoor

