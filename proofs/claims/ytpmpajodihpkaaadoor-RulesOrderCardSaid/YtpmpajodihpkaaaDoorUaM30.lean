/- The library of this claim and its walks, part 30, joined out of smaller texts. No statement stands in it. -/
import Derived.Test.YtpmpajodihpkaaaDoorUaM28
import Derived.Test.YtpmpajodihpkaaaDoorUaM29
/- fill: the parts. -/
namespace Go.Proofs.YtpmpajodihpkaaaDoor
open Go Go.Proofs Go.Ua Go.Extern
set_option linter.unusedVariables false
set_option linter.unusedSimpArgs false
set_option maxRecDepth 10000

def orF (n o : Int) : Int := if n = 0 then o else n
theorem for_spec (n o : Int) : ESpec Tryd.prog 13 [.d (.s (.int .i64 n)), .d (.s (.int .i64 o))] (fun x => x = .d (.s (.int .i64 (orF n o)))) := by
  have hG : TblOK Tryd.prog [] := trivial
  refine ESpec.enter Tryd.func13 (by kernel_rfl) rfl (Nat.le_of_ble_eq_true rfl) fun hok cx hnt hfr => ?_
  obtain ⟨F, hF⟩ := real_ex
  refine AK.runT hF tabOK hmix hnt hfr true _ hG ?_
  conv => arg 4; cbv
  repeat' (first | with_reducible (first | refine AKt.have ?_ | refine AKt.tt ?_ | refine AKt.ff ?_ | refine AKt.yes (by assumption) ?_ | refine AKt.no (by assumption) ?_ | refine AKt.node (fun hb => ?_) (fun hb => ?_) | refine AKt.need ?_ (fun hb => ?_) | refine AKt.leaf ?_) | ((with_reducible show _ = true); assumption))
  · refine AKp.doneE tabOK hfr (by rfl) ?_
    show _ = _
    simp only [tupAV]
    have h : n = 0 := by rw [hF, f_eqI] at hb; exact eq_of_beq hb
    rw [orF, if_pos h]
  · refine AKp.doneE tabOK hfr (by rfl) ?_
    show _ = _
    simp only [tupAV]
    have h : ¬ n = 0 := by rw [hF, f_eqI] at hb; exact ne_of_beq_false hb
    rw [orF, if_neg h]
def φFOr (u : Int → Int → Int) : List AV → Option (Bool × AV)
  | [.d (.s (.int .i64 n)), .d (.s (.int .i64 o))] => some (true, .d (.s (.int .i64 (u n o))))
  | _ => none
theorem φFOr_ok : SpOK Tryd.prog 13 (φFOr (orF)) := by
  intro xs b x h hb
  unfold φFOr at h
  split at h
  · simp only [Option.some.injEq, Prod.mk.injEq] at h
    obtain ⟨rfl, rfl⟩ := h
    exact for_spec _ _
  · cases h
theorem fall_spec : ESpec Tryd.prog 15 [] (fun x => x = .d (.view 1 [.s (.str [42])])) := by
  have hG : TblOK Tryd.prog [] := trivial
  refine ESpec.enter Tryd.func15 (by kernel_rfl) rfl (Nat.le_of_ble_eq_true rfl) fun hok cx hnt hfr => ?_
  obtain ⟨F, hF⟩ := real_ex
  refine AK.runT hF tabOK hmix hnt hfr false _ hG ?_
  conv => arg 4; cbv
  repeat' (first | with_reducible (first | refine AKt.have ?_ | refine AKt.tt ?_ | refine AKt.ff ?_ | refine AKt.yes (by assumption) ?_ | refine AKt.no (by assumption) ?_ | refine AKt.node (fun hb => ?_) (fun hb => ?_) | refine AKt.need ?_ (fun hb => ?_) | refine AKt.leaf ?_) | ((with_reducible show _ = true); assumption))
  refine AKp.freeze 0 rfl ?_
  conv => arg 4; arg 2; cbv
  refine AKp.doneE tabOK hfr (by rfl) ?_
  show _ = _
  simp only [tupAV]
def φFAll  : List AV → Option (Bool × AV)
  | [] => some (true, .d (.view 1 [.s (.str [42])]))
  | _ => none
theorem φFAll_ok : SpOK Tryd.prog 15 (φFAll ) := by
  intro xs b x h hb
  unfold φFAll at h
  split at h
  · simp only [Option.some.injEq, Prod.mk.injEq] at h
    obtain ⟨rfl, rfl⟩ := h
    exact fall_spec
  · cases h
theorem fwords_spec (es : List Dat) (h : lsB es = true) : ESpec Tryd.prog 23 [.d (.view 1 es)] (fun x => x = .d (.view 1 es)) := by
  have h := of_decide_eq_true h
  have hG : TblOK Tryd.prog [] := trivial
  refine ESpec.enter Tryd.func23 (by kernel_rfl) rfl (Nat.le_of_ble_eq_true rfl) fun hok cx hnt hfr => ?_
  obtain ⟨F, hF⟩ := real_ex
  refine AK.runT hF tabOK hmix hnt hfr false _ hG ?_
  conv => arg 4; cbv
  have hf : F .fits 16 es = true := by rw [hF]; exact decide_eq_true (by omega)
  repeat' (first | with_reducible (first | refine AKt.have ?_ | refine AKt.tt ?_ | refine AKt.ff ?_ | refine AKt.yes (by assumption) ?_ | refine AKt.no (by assumption) ?_ | refine AKt.node (fun hb => ?_) (fun hb => ?_) | refine AKt.need ?_ (fun hb => ?_) | refine AKt.leaf ?_) | ((with_reducible show _ = true); assumption))
  refine AKp.freeze 0 rfl ?_
  conv => arg 4; arg 2; cbv
  refine AKp.doneE tabOK hfr (by rfl) ?_
  show _ = _
  simp only [tupAV]
def φFWords (p : List Dat → Bool) : List AV → Option (Bool × AV)
  | [.d (.view 1 es)] => some (p es, .d (.view 1 es))
  | _ => none
theorem φFWords_ok : SpOK Tryd.prog 23 (φFWords (lsB)) := by
  intro xs b x h hb
  unfold φFWords at h
  split at h
  · simp only [Option.some.injEq, Prod.mk.injEq] at h
    obtain ⟨rfl, rfl⟩ := h
    exact fwords_spec _ hb
  · cases h
set_option maxHeartbeats 2000000 in
theorem fschema_spec (x : Sm) (hc : cpS x = true) : ESpec Tryd.prog 14 [.d x.dat] (fun y => y = .d x.dat) := by
  obtain ⟨uFWords, huFWords⟩ : ∃ u : List Dat → Bool, u = lsB := ⟨_, rfl⟩
  have hG : TblOK Tryd.prog [(23, .p (φFWords uFWords))] := ⟨(by rw [huFWords]; exact φFWords_ok), trivial⟩
  simp only [cpS, Bool.and_eq_true, decide_eq_true_eq] at hc
  obtain ⟨hc1, hc2⟩ := hc
  obtain ⟨x0, x1, x2, x3, xr⟩ := x
  simp only [Sm.dat] at hc1 hc2 ⊢
  obtain ⟨x4, hx4⟩ : ∃ z, z = rlDs xr := ⟨_, rfl⟩
  rw [← hx4]
  have hrl : x4.length = xr.length := by rw [hx4, rlDs_len]
  refine ESpec.enter Tryd.func14 (by kernel_rfl) rfl (Nat.le_of_ble_eq_true rfl) fun hok cx hnt hfr => ?_
  obtain ⟨F, hF⟩ := real_ex
  refine AK.runT hF tabOK hmix hnt hfr false _ hG ?_
  conv => arg 4; cbv
  repeat' (first | with_reducible (first | refine AKt.have ?_ | refine AKt.tt ?_ | refine AKt.ff ?_ | refine AKt.yes (by assumption) ?_ | refine AKt.no (by assumption) ?_ | refine AKt.node (fun hb => ?_) (fun hb => ?_) | refine AKt.need ?_ (fun hb => ?_) | refine AKt.leaf ?_) | ((with_reducible show _ = true); assumption))
  refine AKp.asRow 3 47 5 (by decide) rfl ?_
  conv => arg 4; arg 2; cbv
  refine AKp.enterLoop 10 ?_
  conv => arg 7; cbv
  refine AKl.invTs hF tabOK hmix hnt (Nat.le_trans (Nat.le_of_eq hfr) (Nat.le_of_ble_eq_true rfl)) [5] false _ hG (fun n vs hs => ∃ (k : Nat) (kv : Int) (bd : List Dat), k + n = xr.length ∧ kv = k ∧ bd = rlDs (xr.take k) ∧ vs = [(9, .d (.s (.int .i64 kv))), (3, .row 2 5)] ∧ hs = [(2, .ds 47 5 bd), (1, .cs 40 [.d (.s (.str [])), .d (.s (.str [])), .d (.s (.int .i64 0)), .d (.s (.int .i64 0)), .d (.s .sl0)]), (0, .cs 40 [.d (.s (.str x0)), .d (.s (.str x1)), .d (.s (.int .i64 x2)), .d (.s (.int .i64 x3)), .d (.view 5 x4)])]) xr.length ⟨0, _, [], by omega, rfl, by rfl, rfl, rfl⟩ (by repeat (first | exact True.intro | refine ⟨⟨rfl, rfl⟩, ?_⟩)) (by repeat (first | exact True.intro | refine ⟨⟨rfl, rfl, rfl⟩, ?_⟩)) ?_
  rintro J n vs hs hJ ⟨k, kv, bd, hk, hkv, hbd, rfl, rfl⟩
  conv => arg 4; cbv
  refine AKt.node (fun hb => ?_) (fun hb => ?_)
  · have hlt2 : k < xr.length := by rw [hF, f_ltI, f_lenD, hrl, hkv] at hb; have := of_decide_eq_true hb; omega
    obtain ⟨r, hr⟩ : ∃ r, xr[k]? = some r := ⟨_, List.getElem?_eq_getElem hlt2⟩
    have hdr : x4[k]? = some r.dat := by rw [hx4]; exact rlDs_get hr
    have hr_ : F .hasD x4 kv [.view 1, .view 1, .view 1, .view 1, .view 1] = true := t_hasD hF hdr hkv rfl
    obtain ⟨r0, hr0⟩ : ∃ z, z = strDs r.us := ⟨_, rfl⟩
    try rw [show F .viewA x4 kv 0 = r0 by rw [hr0]; exact t_viewA hF hdr hkv rfl]
    obtain ⟨r1, hr1⟩ : ∃ z, z = strDs r.gs := ⟨_, rfl⟩
    try rw [show F .viewA x4 kv 1 = r1 by rw [hr1]; exact t_viewA hF hdr hkv rfl]
    obtain ⟨r2, hr2⟩ : ∃ z, z = strDs r.vs := ⟨_, rfl⟩
    try rw [show F .viewA x4 kv 2 = r2 by rw [hr2]; exact t_viewA hF hdr hkv rfl]
    obtain ⟨r3, hr3⟩ : ∃ z, z = strDs r.rs := ⟨_, rfl⟩
    try rw [show F .viewA x4 kv 3 = r3 by rw [hr3]; exact t_viewA hF hdr hkv rfl]
    obtain ⟨r4, hr4⟩ : ∃ z, z = strDs r.ps := ⟨_, rfl⟩
    try rw [show F .viewA x4 kv 4 = r4 by rw [hr4]; exact t_viewA hF hdr hkv rfl]
    have hcr := List.all_eq_true.1 hc2 r (List.mem_of_getElem? hr)
    have qw : ∀ l, l ∈ rlLs r → uFWords (strDs l) = true := fun l hl => by
      have := of_decide_eq_true (List.all_eq_true.1 hcr l hl)
      subst huFWords
      exact decide_eq_true (by rw [strDs_length]; omega)
    have q0 : uFWords r0 = true := by rw [hr0]; exact qw _ (by simp [rlLs])
    have q1 : uFWords r1 = true := by rw [hr1]; exact qw _ (by simp [rlLs])
    have q2 : uFWords r2 = true := by rw [hr2]; exact qw _ (by simp [rlLs])
    have q3 : uFWords r3 = true := by rw [hr3]; exact qw _ (by simp [rlLs])
    have q4 : uFWords r4 = true := by rw [hr4]; exact qw _ (by simp [rlLs])
    obtain ⟨nd, hnd⟩ : ∃ z, z = F .appD bd [.agg [.view 1 r0, .view 1 r1, .view 1 r2, .view 1 r3, .view 1 r4]] := ⟨_, rfl⟩
    have hnd2 : nd = rlDs (xr.take (k + 1)) := by
      rw [hnd, hF, f_appD, hbd, List.take_add_one, hr, hr0, hr1, hr2, hr3, hr4]
      simp [rlDs, Rl.dat]
    have hfn : F .fits 120 nd = true := t_fits hF (by rw [hnd2, rlDs_len]; simp; omega)
    refine AKt.need hr_ fun _ => AKt.leaf ?_
    refine AKp.runD2 hF tabOK hmix hnt false _ hG (Nat.le_trans (Nat.le_of_eq hfr) (Nat.le_of_ble_eq_true rfl)) ?_
    conv => arg 4; cbv
    rw [← hnd]
    repeat' (first | with_reducible (first | refine AKt.have ?_ | refine AKt.tt ?_ | refine AKt.ff ?_ | refine AKt.yes (by assumption) ?_ | refine AKt.no (by assumption) ?_ | refine AKt.node (fun hb => ?_) (fun hb => ?_) | refine AKt.need ?_ (fun hb => ?_) | refine AKt.leaf ?_) | ((with_reducible show _ = true); assumption))
    refine AKp.againR [(2, 4)] _ hfr (by repeat (first | exact True.intro | refine ⟨⟨rfl, rfl⟩, ?_⟩)) (by repeat (first | exact True.intro | refine ⟨⟨Nat.le_of_ble_eq_true rfl, rfl, rfl⟩, ?_⟩)) rfl (hJ (n - 1) _ _ (by omega) ⟨k + 1, _, _, by omega, inc_i hF hkv (by omega), hnd2, rfl, rfl⟩)
  have hge2 : ¬ k < xr.length := by rw [hF, f_ltI, f_lenD, hrl, hkv] at hb; have := of_decide_eq_false hb; omega
  rw [List.take_of_length_le (by omega), ← hx4] at hbd
  rw [hbd]
  repeat' (first | with_reducible (first | refine AKt.have ?_ | refine AKt.tt ?_ | refine AKt.ff ?_ | refine AKt.yes (by assumption) ?_ | refine AKt.no (by assumption) ?_ | refine AKt.node (fun hb => ?_) (fun hb => ?_) | refine AKt.need ?_ (fun hb => ?_) | refine AKt.leaf ?_) | ((with_reducible show _ = true); assumption))
  refine AKp.freeze 2 rfl ?_
  conv => arg 4; arg 2; cbv
  refine AKp.doneE tabOK hfr (by rfl) ?_
  show _ = _
  simp only [tupAV]
  rfl
end Go.Proofs.YtpmpajodihpkaaaDoor

