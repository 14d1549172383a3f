/- The library of this claim and its walks, part 29, joined out of smaller texts. No statement stands in it. -/
import Derived.Test.YtpmpajodihpkaaaGreatDoorUaM28
set_option linter.unusedSectionVars false
set_option linter.unusedSimpArgs false
set_option linter.unusedVariables false
namespace Go.Proofs.YtpmpajodihpkaaaGreatDoor
open Go Go.Proofs Go.Ua Go.Extern
set_option maxRecDepth 10000
def lsB (es : List Dat) : Bool := decide (es.length ≤ 1000000000)
theorem rwords_spec (es : List Dat) (h : lsB es = true) : ESpec Tryz.prog 16 [.d (.view 1 es)] (fun x => x = .d (.view 1 es)) := by
 have h := of_decide_eq_true h
 have hG : TblOK Tryz.prog [] := trivial
 refine ESpec.enter Tryz.func16 (by kernel_rfl) rfl (Nat.le_of_ble_eq_true rfl) fun hok cx hnt hfr => ?_
 obtain ⟨F, hF⟩ := real_ex
 refine AK.runT hF tabOK hmix hnt hfr false _ hG ?_
 conv => arg 4; cbv
 have ha : F .appD [] es = es := by rw [hF]; rfl
 have hf : F .fits 16 es = true := by rw [hF]; exact decide_eq_true (by omega)
 rw [ha]
 repeat' (first|with_reducible (first|refine qAh ?_|refine qAt ?_|refine qAf ?_|refine qAy (by assumption) ?_|refine qAn (by assumption) ?_|refine qAd (fun hb => ?_) (fun hb => ?_)|refine qAe ?_ (fun hb => ?_)|refine qAl ?_)|((with_reducible show _=true); assumption))
 refine AKp.freeze 1 rfl ?_
 conv => arg 4; arg 2; cbv
 refine AKp.doneE tabOK hfr (by rfl) ?_
 show _ = _
 simp only [tupAV]
def φRWords (p : List Dat → Bool) : List AV → Option (Bool × AV)
 | [.d (.view 1 es)] => some (p es, .d (.view 1 es))
 | _ => none
theorem φRWords_ok : SpOK Tryz.prog 16 (φRWords (lsB)) := by
 intro xs b x h hb
 unfold φRWords at h
 split at h
 · simp only [Option.some.injEq, Prod.mk.injEq] at h
   obtain ⟨rfl, rfl⟩ := h
   exact rwords_spec _ hb
 · cases h
def cpR (r : Rl) : Bool := (rlLs r).all fun l => decide (l.length ≤ 1000)
def cpS (s : Sm) : Bool := decide (s.rl.length ≤ 1000) && s.rl.all cpR
def cpC (c : Cf) : Bool := decide (c.ls.length ≤ 1000) && (decide (c.ss.length ≤ 1000) && c.ss.all cpS)
theorem cp_small {c : Cf} (h : smallF c = true) : cpC c = true := by
 simp only [smallF, Bool.and_eq_true, decide_eq_true_eq] at h
 obtain ⟨h1, h2, h3, h4, h5⟩ := h
 simp only [cpC, Bool.and_eq_true, decide_eq_true_eq]
 refine ⟨by omega, by omega, ?_⟩
 rw [List.all_eq_true] at h4 ⊢
 intro s hs
 have := h4 s hs
 simp only [smB, Bool.and_eq_true, decide_eq_true_eq] at this
 simp only [cpS, Bool.and_eq_true, decide_eq_true_eq]
 refine ⟨by omega, ?_⟩
 have h6 := this.2.2.2
 rw [List.all_eq_true] at h6 ⊢
 intro r hr
 have := h6 r hr
 unfold rlB at this
 unfold cpR
 rw [List.all_eq_true] at this ⊢
 intro l hl
 have := this l hl
 simp only [lstB, Bool.and_eq_true, decide_eq_true_eq] at this
 exact decide_eq_true (by omega)
theorem appE {F : Fam} (hF : F = Fam.real) (es : List Dat) : F .appD [] es = es := by rw [hF]; rfl
set_option maxHeartbeats 2000000 in
theorem Copy_spec (c : Cf) (hc : cpC c = true) : ESpec Tryz.prog 7 [.d (.agg [.s (.int .i64 c.tt), .s (.int .i64 c.pe), .s (.int .i64 c.pr), .s (.int .i64 c.mo), .view 10 (lvDs c.ls), .view 5 (smDs c.ss)])] (fun x => x = .d (.agg [.s (.int .i64 c.tt), .s (.int .i64 c.pe), .s (.int .i64 c.pr), .s (.int .i64 c.mo), .view 10 (lvDs c.ls), .view 5 (smDs c.ss)])) := by
 obtain ⟨uRWords, huRWords⟩ : ∃ u : List Dat → Bool, u = lsB := ⟨_, rfl⟩
 have hG : TblOK Tryz.prog [(16, .p (φRWords uRWords))] := ⟨(by rw [huRWords]; exact φRWords_ok), trivial⟩
 obtain ⟨tt, pe, pr, mo, ls, ss⟩ := c
 simp only [cpC, Bool.and_eq_true, decide_eq_true_eq] at hc ⊢
 obtain ⟨hc1, hc2, hc3⟩ := hc
 obtain ⟨ld, hld⟩ : ∃ z, z = lvDs ls := ⟨_, rfl⟩
 obtain ⟨sd, hsd⟩ : ∃ z, z = smDs ss := ⟨_, rfl⟩
 rw [← hld, ← hsd]
 have hll : ld.length = ls.length := by rw [hld, lvDs_len]
 have hsl : sd.length = ss.length := by rw [hsd, smDs_len]
 refine ESpec.enter Tryz.func7 (by kernel_rfl) rfl (Nat.le_of_ble_eq_true rfl) fun hok cx hnt hfr => ?_
 obtain ⟨F, hF⟩ := real_ex
 refine AK.runT hF tabOK hmix hnt hfr false _ hG ?_
 conv => arg 4; cbv
 rw [appE hF]
 have hf0 : F .fits 88 ld = true := t_fits hF (by omega)
 repeat' (first|with_reducible (first|refine qAh ?_|refine qAt ?_|refine qAf ?_|refine qAy (by assumption) ?_|refine qAn (by assumption) ?_|refine qAd (fun hb => ?_) (fun hb => ?_)|refine qAe ?_ (fun hb => ?_)|refine qAl ?_)|((with_reducible show _=true); assumption))
 refine AKp.freeze 3 rfl ?_
 conv => arg 4; arg 2; cbv
 refine AKp.asRow 3 43 5 (by decide) rfl ?_
 conv => arg 4; arg 2; cbv
 have two : (∀ i ad, i ≤ ss.length → ad = smDs (ss.take i) → F .fits 72 ad = true) := fun i ad hi h => t_fits hF (by rw [h, smDs_len]; simp; omega)
 refine AKp.enterLoop 14 ?_
 conv => arg 7; cbv
 refine AKl.invT hF tabOK hmix hnt hfr false _ hG (fun n vs hs => ∃ (i : Nat) (iv : Int) (ad : List Dat), i + n = ss.length ∧ iv = i ∧ ad = smDs (ss.take i) ∧ vs = [(4, .d (.s (.int .i64 iv))), (3, .row 4 5)] ∧ hs = [(4, .ds 43 5 ad), (0, .cs 25 [.d (.s (.int .i64 tt)), .d (.s (.int .i64 pe)), .d (.s (.int .i64 pr)), .d (.s (.int .i64 mo)), .d (.view 10 ld), .d (.view 5 sd)]), (1, .cs 25 [.d (.s (.int .i64 0)), .d (.s (.int .i64 0)), .d (.s (.int .i64 0)), .d (.s (.int .i64 0)), .d (.s .sl0), .d (.s .sl0)])]) ss.length ⟨0, _, [], by omega, rfl, by rfl, rfl, rfl⟩ (by repeat (first | exact True.intro | refine ⟨⟨rfl, rfl⟩, ?_⟩)) (by repeat (first | exact True.intro | refine ⟨⟨rfl, rfl, rfl⟩, ?_⟩)) ?_
 rintro J n vs hs hJ ⟨i, iv, ad, hi, hiv, had, rfl, rfl⟩
 conv => arg 4; cbv
 refine AKt.node (fun hb => ?_) (fun hb => ?_)
 rotate_left
 · have hge : ¬ i < ss.length := by rw [hF, f_ltI, f_lenD, hsl, hiv] at hb; have := of_decide_eq_false hb; omega
   rw [List.take_of_length_le (by omega), ← hsd] at had
   rw [had]
   repeat' (first|with_reducible (first|refine qAh ?_|refine qAt ?_|refine qAf ?_|refine qAy (by assumption) ?_|refine qAn (by assumption) ?_|refine qAd (fun hb => ?_) (fun hb => ?_)|refine qAe ?_ (fun hb => ?_)|refine qAl ?_)|((with_reducible show _=true); assumption))
   refine AKp.freeze 4 rfl ?_
   conv => arg 4; arg 2; cbv
   refine AKp.doneE tabOK hfr (by rfl) ?_
   show _ = _
   simp only [tupAV]
   rfl
 have hlt : i < ss.length := by rw [hF, f_ltI, f_lenD, hsl, hiv] at hb; have := of_decide_eq_true hb; omega
 obtain ⟨x, hx⟩ : ∃ x, ss[i]? = some x := ⟨_, List.getElem?_eq_getElem hlt⟩
 have hd : sd[i]? = some x.dat := by rw [hsd]; exact smDs_get hx
 have hx_ : F .hasD sd iv [.str, .str, .int .i64, .int .i64, .view 5] = true := t_hasD hF hd hiv rfl
 obtain ⟨x0, hx0⟩ : ∃ z, z = x.nm := ⟨_, rfl⟩
 try rw [show F .strA sd iv 0 = x0 by rw [hx0]; exact t_strA hF hd hiv rfl]
 obtain ⟨x1, hx1⟩ : ∃ z, z = x.lv := ⟨_, rfl⟩
 try rw [show F .strA sd iv 1 = x1 by rw [hx1]; exact t_strA hF hd hiv rfl]
 obtain ⟨x2, hx2⟩ : ∃ z, z = x.rk := ⟨_, rfl⟩
 try rw [show F .intA sd iv 2 = x2 by rw [hx2]; exact t_intA hF hd hiv rfl]
 obtain ⟨x3, hx3⟩ : ∃ z, z = x.bb := ⟨_, rfl⟩
 try rw [show F .intA sd iv 3 = x3 by rw [hx3]; exact t_intA hF hd hiv rfl]
 obtain ⟨x4, hx4⟩ : ∃ z, z = rlDs x.rl := ⟨_, rfl⟩
 try rw [show F .viewA sd iv 4 = x4 by rw [hx4]; exact t_viewA hF hd hiv rfl]
 have hcx := List.all_eq_true.1 hc3 x (List.mem_of_getElem? hx)
 simp only [cpS, Bool.and_eq_true, decide_eq_true_eq] at hcx
 have hrl : x4.length = x.rl.length := by rw [hx4, rlDs_len]
 refine AKt.need hx_ fun _ => ?_
 repeat' (first|with_reducible (first|refine qAh ?_|refine qAt ?_|refine qAf ?_|refine qAy (by assumption) ?_|refine qAn (by assumption) ?_|refine qAd (fun hb => ?_) (fun hb => ?_)|refine qAe ?_ (fun hb => ?_)|refine qAl ?_)|((with_reducible show _=true); assumption))
 refine AKp.asRow 6 46 5 (by decide) rfl ?_
 conv => arg 4; arg 2; cbv
 refine AKp.enterLoop 26 ?_
 conv => arg 7; cbv
 refine AKl.invTs hF tabOK hmix hnt (Nat.le_trans (Nat.le_of_eq hfr) (Nat.le_of_ble_eq_true rfl)) [13] false _ hG (fun m vs hs => ∃ (k : Nat) (kv : Int) (bd : List Dat), k + m = x.rl.length ∧ kv = k ∧ bd = rlDs (x.rl.take k) ∧ vs = [(7, .d (.s (.int .i64 kv))), (6, .row 6 5)] ∧ hs = [(6, .ds 46 5 bd), (5, .cs 43 [.d (.s (.str x0)), .d (.s (.str x1)), .d (.s (.int .i64 x2)), .d (.s (.int .i64 x3)), .d (.view 5 x4)]), (4, .ds 43 5 ad), (0, .cs 25 [.d (.s (.int .i64 tt)), .d (.s (.int .i64 pe)), .d (.s (.int .i64 pr)), .d (.s (.int .i64 mo)), .d (.view 10 ld), .d (.view 5 sd)]), (1, .cs 25 [.d (.s (.int .i64 0)), .d (.s (.int .i64 0)), .d (.s (.int .i64 0)), .d (.s (.int .i64 0)), .d (.s .sl0), .d (.s .sl0)])]) x.rl.length ⟨0, _, [], by omega, rfl, by rfl, rfl, rfl⟩ (by repeat (first | exact True.intro | refine ⟨⟨rfl, rfl⟩, ?_⟩)) (by repeat (first | exact True.intro | refine ⟨⟨rfl, rfl, rfl⟩, ?_⟩)) ?_
 rintro J2 m vs hs hJ2 ⟨k, kv, bd, hk, hkv, hbd, rfl, rfl⟩
 conv => arg 4; cbv
 refine AKt.node (fun hb2 => ?_) (fun hb2 => ?_)
 · have hlt2 : k < x.rl.length := by rw [hF, f_ltI, f_lenD, hrl, hkv] at hb2; have := of_decide_eq_true hb2; omega
   obtain ⟨r, hr⟩ : ∃ r, x.rl[k]? = some r := ⟨_, List.getElem?_eq_getElem hlt2⟩
   have hdr : x4[k]? = some r.dat := by rw [hx4]; exact rlDs_get hr
   have hr_ : F .hasD x4 kv [.view 1, .view 1, .view 1, .view 1, .view 1] = true := t_hasD hF hdr hkv rfl
   obtain ⟨r0, hr0⟩ : ∃ z, z = strDs r.us := ⟨_, rfl⟩
   try rw [show F .viewA x4 kv 0 = r0 by rw [hr0]; exact t_viewA hF hdr hkv rfl]
   obtain ⟨r1, hr1⟩ : ∃ z, z = strDs r.gs := ⟨_, rfl⟩
   try rw [show F .viewA x4 kv 1 = r1 by rw [hr1]; exact t_viewA hF hdr hkv rfl]
   obtain ⟨r2, hr2⟩ : ∃ z, z = strDs r.vs := ⟨_, rfl⟩
   try rw [show F .viewA x4 kv 2 = r2 by rw [hr2]; exact t_viewA hF hdr hkv rfl]
   obtain ⟨r3, hr3⟩ : ∃ z, z = strDs r.rs := ⟨_, rfl⟩
   try rw [show F .viewA x4 kv 3 = r3 by rw [hr3]; exact t_viewA hF hdr hkv rfl]
   obtain ⟨r4, hr4⟩ : ∃ z, z = strDs r.ps := ⟨_, rfl⟩
   try rw [show F .viewA x4 kv 4 = r4 by rw [hr4]; exact t_viewA hF hdr hkv rfl]
   have hcr := List.all_eq_true.1 hcx.2 r (List.mem_of_getElem? hr)
   have qw : ∀ l, l ∈ rlLs r → uRWords (strDs l) = true := fun l hl => by
     have := of_decide_eq_true (List.all_eq_true.1 hcr l hl)
     subst huRWords
     exact decide_eq_true (by rw [strDs_length]; omega)
   have q0 : uRWords r0 = true := by rw [hr0]; exact qw _ (by simp [rlLs])
   have q1 : uRWords r1 = true := by rw [hr1]; exact qw _ (by simp [rlLs])
   have q2 : uRWords r2 = true := by rw [hr2]; exact qw _ (by simp [rlLs])
   have q3 : uRWords r3 = true := by rw [hr3]; exact qw _ (by simp [rlLs])
   have q4 : uRWords r4 = true := by rw [hr4]; exact qw _ (by simp [rlLs])
   obtain ⟨nd, hnd⟩ : ∃ z, z = F .appD bd [.agg [.view 1 r0, .view 1 r1, .view 1 r2, .view 1 r3, .view 1 r4]] := ⟨_, rfl⟩
   have hnd2 : nd = rlDs (x.rl.take (k + 1)) := by
     rw [hnd, hF, f_appD, hbd, List.take_add_one, hr, hr0, hr1, hr2, hr3, hr4]
     simp [rlDs, Rl.dat]
   have hfn : F .fits 120 nd = true := t_fits hF (by rw [hnd2, rlDs_len]; simp; omega)
   rw [← hnd]
   repeat' (first|with_reducible (first|refine qAh ?_|refine qAt ?_|refine qAf ?_|refine qAy (by assumption) ?_|refine qAn (by assumption) ?_|refine qAd (fun hb => ?_) (fun hb => ?_)|refine qAe ?_ (fun hb => ?_)|refine qAl ?_)|((with_reducible show _=true); assumption))
   refine AKp.againR [(6, 8)] _ hfr (by repeat (first | exact True.intro | refine ⟨⟨rfl, rfl⟩, ?_⟩)) (by repeat (first | exact True.intro | refine ⟨⟨Nat.le_of_ble_eq_true rfl, rfl, rfl⟩, ?_⟩)) rfl (hJ2 (m - 1) _ _ (by omega) ⟨k + 1, _, _, by omega, inc_i hF hkv (by omega), hnd2, rfl, rfl⟩)
 have hge2 : ¬ k < x.rl.length := by rw [hF, f_ltI, f_lenD, hrl, hkv] at hb2; have := of_decide_eq_false hb2; omega
 rw [List.take_of_length_le (by omega)] at hbd
 repeat' (first|with_reducible (first|refine qAh ?_|refine qAt ?_|refine qAf ?_|refine qAy (by assumption) ?_|refine qAn (by assumption) ?_|refine qAd (fun hb => ?_) (fun hb => ?_)|refine qAe ?_ (fun hb => ?_)|refine qAl ?_)|((with_reducible show _=true); assumption))
 refine AKp.freeze 6 rfl ?_
 conv => arg 4; arg 2; cbv
 refine AK.runT hF tabOK hmix hnt hfr false _ hG ?_
 conv => arg 4; cbv
 obtain ⟨nd, hnd⟩ : ∃ z, z = F .appD ad [.agg [.s (.str x0), .s (.str x1), .s (.int .i64 x2), .s (.int .i64 x3), .view 5 bd]] := ⟨_, rfl⟩
 have hnd2 : nd = smDs (ss.take (i + 1)) := by
   rw [hnd, hF, f_appD, had, List.take_add_one, hx, hx0, hx1, hx2, hx3, hbd]
   simp [smDs, Sm.dat]
 have hfn : F .fits 72 nd = true := two (i + 1) nd (by omega) hnd2
 rw [← hnd]
 repeat' (first|with_reducible (first|refine qAh ?_|refine qAt ?_|refine qAf ?_|refine qAy (by assumption) ?_|refine qAn (by assumption) ?_|refine qAd (fun hb => ?_) (fun hb => ?_)|refine qAe ?_ (fun hb => ?_)|refine qAl ?_)|((with_reducible show _=true); assumption))
 refine AKp.againR [(4, 8)] _ hfr (by repeat (first | exact True.intro | refine ⟨⟨rfl, rfl⟩, ?_⟩)) (by repeat (first | exact True.intro | refine ⟨⟨Nat.le_of_ble_eq_true rfl, rfl, rfl⟩, ?_⟩)) rfl (hJ (n - 1) _ _ (by omega) ⟨i + 1, _, _, by omega, inc_i hF hiv (by omega), hnd2, rfl, rfl⟩)
theorem cp_un {a b c d : Int} {ls ss : List Dat} (h : (isCf0 ls ss && cpC ⟨a, b, c, d, unLv ls, unSm ss⟩) = true) : isCf0 ls ss = true ∧ cpC ⟨a, b, c, d, unLv ls, unSm ss⟩ = true := by
 simpa using h
theorem CopyD_spec (a b c d : Int) (ls ss : List Dat) (hb : (isCf0 ls ss && cpC ⟨a, b, c, d, unLv ls, unSm ss⟩) = true) : ESpec Tryz.prog 7 [.d (.agg [.s (.int .i64 a), .s (.int .i64 b), .s (.int .i64 c), .s (.int .i64 d), .view 10 ls, .view 5 ss])] (fun x => x = .d (.agg [.s (.int .i64 a), .s (.int .i64 b), .s (.int .i64 c), .s (.int .i64 d), .view 10 ls, .view 5 ss])) := by
 obtain ⟨h1, h2⟩ := cp_un hb
 simp only [isCf0, Bool.and_eq_true] at h1
 have h := Copy_spec ⟨a, b, c, d, unLv ls, unSm ss⟩ h2
 simp only [lv_un h1.1, sm_un h1.2] at h
 exact h
def φCopyC (p : Int → Int → Int → Int → List Dat → List Dat → Bool) : List AV → Option (Bool × AV)
 | [.d (.agg [.s (.int .i64 a), .s (.int .i64 b), .s (.int .i64 c), .s (.int .i64 d), .view 10 ls, .view 5 ss])] => some (p a b c d ls ss, .d (.agg [.s (.int .i64 a), .s (.int .i64 b), .s (.int .i64 c), .s (.int .i64 d), .view 10 ls, .view 5 ss]))
 | _ => none
theorem φCopyC_ok : SpOK Tryz.prog 7 (φCopyC (fun a b c d ls ss => isCf0 ls ss && cpC ⟨a, b, c, d, unLv ls, unSm ss⟩)) := by
 intro xs b x h hb
 unfold φCopyC at h
 split at h
 · simp only [Option.some.injEq, Prod.mk.injEq] at h
   obtain ⟨rfl, rfl⟩ := h
   exact CopyD_spec _ _ _ _ _ _ hb
 · cases h
end Go.Proofs.YtpmpajodihpkaaaGreatDoor
namespace Go.Ua
open Go Go.Proofs
section
variable {P : Program} [Globs P] {τ : Tab} {cx : Cx P} {Q : Exit → Act → World → Prop}
def bs0 (τ : Tab) : Op → Option (Nat × TypeId)
 | .buildSlice t 0 parts => (match parts.toList, bsView τ t 0 [] with
   | [], some (kk, e, []) => some (kk, e)
   | _, _ => none)
 | _ => none
def delH (ns : List Nat) (h : List (Nat × Blk)) : List (Nat × Blk) := match ns with
 | [] => h
 | n :: r => del n (delH r h)
def allLt (m : Nat) : List Nat → Bool
 | [] => true
 | n :: r => (match Nat.blt n m with
   | true => allLt m r
   | false => false)
def apDT (F : Fam) (S : St) (e : TypeId) (y : Ty) (es2 : List Dat) : AV → Option (Bool × List Nat × Nat × TypeId × List Dat)
 | .row n k0 => (match look n S.h with
   | some (.ds E k1 es) => (match Nat.beq E e, Nat.beq k1 y.size, Nat.beq k0 y.size with
     | true, true, true => some (F .fits y.bytes (F .appD es es2), [n], y.size, e, F .appD es es2)
     | _, _, _ => none)
   | _ => none)
 | .d (.s .sl0) => some (F .fits y.bytes es2, [], y.size, e, es2)
 | _ => none
def apD (F : Fam) (τ : Tab) (S : St) : Op → Option (Bool × List Nat × Nat × TypeId × List Dat)
 | .call c => (match c.callee, c.argTypes.toList, c.args.toList with
   | .builtin .append, [t1, t2], [s, x] => (match kindOf τ t1, evl S x with
     | .slice e, .d (.view k es2) => (match look e τ with
       | some y => (match okZero y && (y.size != 0 && y.bytes != 0), Nat.beq t1 t2, Nat.beq k y.size with
         | true, true, true => apDT F S e y es2 (evl S s)
         | _, _, _ => none)
       | none => none)
     | _, _ => none)
   | _, _, _ => none)
 | _ => none
theorem look_delH {q : Nat} {h : List (Nat × Blk)} : ∀ {ns : List Nat}, look q (delH ns h) = if q ∈ ns then none else look q h
 | [] => by simp [delH]
 | a :: r => by
   unfold delH
   rw [look_del, look_delH (ns := r)]
   by_cases e : q = a
   · simp [e]
   · rw [if_neg e]; simp [e]
theorem DE.eff1 (hτ : TabOK P τ) {all r : List Oper} {id : Nat} {k : List KI} {S0 S : St} {o : Oper} {E : TypeId} {kk : Nat} {es : List Dat} {ns : List Nat} {fps : List Fp} (hw0 : cx.w0.fr ≤ S0.fr) (hle : S0.fr ≤ S.fr) (hns : allLt S.fr ns = true)
   (hc : ∀ S1 : St, (∀ x, x ∈ o.op.operands.toList → evl S1 x = evl S x) → (∀ n, n ∈ ns → look n S1.h = look n S.h) → effOp Ar.real τ S1 o.op = some (.row S1.fr kk, ⟨S1.t, (S1.fr, .ds E kk es) :: delH ns S1.h, S1.fr + 1⟩))
   (hg : guardB all S o = some true) (hd : ∀ d, o.dst = some d → d < cx.nt)
   (next : DE P cx Q all id k S0 (fps ++ [(ns, ns ++ [S.fr])]) r (St.put ⟨S.t, (S.fr, .ds E kk es) :: delH ns S.h, S.fr + 1⟩ o.dst (.row S.fr kk))) : DE P cx Q all id k S0 fps (o :: r) S := by
 refine DE.snoc (.row S.fr kk) _ (ns, ns ++ [S.fr]) (fun j hj => ⟨by cases o.dst <;> rfl, fun q hq => ?_, by rw [put_fr]; exact Nat.le_succ _, ?_⟩) next
 · simp only [List.mem_append, List.mem_singleton, not_or] at hq
   rw [put_h]
   simp only [look_cons]
   rw [if_neg (fun e => hq.2 e.symm), look_delH, if_neg hq.1]
 intro Q' K ι S1 a w H hfr h1 h2 h3 hK
 rw [put_fr] at hfr h3
 simp only at hfr h3
 have hN : ι S.fr = none := h3 _ (Nat.le_refl _) (Nat.lt_succ_self _)
 have hlt : S.fr < S1.fr := hfr
 unfold wpOp
 rw [show all.toArray[j]? = some o by simpa using hj]
 simp only
 rw [guardB_spec H (by rw [guardB_congr h1]; exact hg), if_pos rfl]
 have heff := hc S1 (evl_looks h1) (fun n hn => h2 n (.inl hn))
 obtain ⟨v, w', ι', hrun, H1, hrep⟩ := effOp_run hτ H heff
 have H' := H1.put hd hrep
 refine .inl ?_
 have hne : K (a.put o.dst v) w' → o.wp P a w K Q' := by
   intro hk
   unfold Oper.wp
   rcases hrun with hrun | ⟨hrun, rfl⟩
   · rw [hrun]; exact hk
   · rw [hrun]; exact hk
 refine hne ?_
 let rr : Nat → Nat := fun n => if n = S.fr then S1.fr else if S0.fr ≤ n ∧ (ι n).isNone = true then S1.fr + 1 + n + 1 else n
 have rN : rr S.fr = S1.fr := by show (if S.fr = S.fr then _ else _) = _; rw [if_pos rfl]
 have rO : ∀ n p, ι n = some p → rr n = n := fun n p h => by
   show (if n = S.fr then _ else if S0.fr ≤ n ∧ (ι n).isNone = true then _ else n) = n
   rw [if_neg (fun e => by rw [e, hN] at h; cases h), h, if_neg (by simp)]
 have old : ∀ n B, look n S1.h = some B → n < S1.fr ∧ B.lt S1.fr = true ∧ rr n = n ∧ B.ren rr = B := fun n B hB => by
   have hb := H.hr.hp n B hB
   obtain ⟨g1, g2⟩ := hb.lt_of H.hr.fresh
   obtain ⟨g3, g4⟩ := RepB.fix rO hb
   exact ⟨g1, g2, g3, g4⟩
 obtain ⟨S2, hS2⟩ : ∃ S2, S2 = St.put ⟨S1.t, (S.fr, .ds E kk es) :: delH ns S1.h, S1.fr⟩ o.dst (.row S.fr kk) := ⟨_, rfl⟩
 have hle2 : St.le rr (St.put ⟨S1.t, (S1.fr, .ds E kk es) :: delH ns S1.h, S1.fr + 1⟩ o.dst (.row S1.fr kk)) S2 := by
   subst hS2
   refine ⟨fun t y h => ?_, fun n B hB => ?_, fun n m g1 g2 g3 => ?_⟩
   · rw [put_fr]
     have key : ∀ y, look t S1.t = some y → y.lt S1.fr = true ∧ y.ren rr = y := fun y h => by
       have hv := H.tm t y h
       exact ⟨hv.lt_of H.hr.fresh, RepV.fix rO _ _ hv⟩
     cases hdst : o.dst with
     | none =>
       rw [hdst] at h
       obtain ⟨g1, g2⟩ := key y h
       exact ⟨g1, .inl (by rw [g2]; exact h)⟩
     | some d =>
       rw [hdst] at h
       simp only [St.put, look_cons, look_del] at h ⊢
       split at h
       · rename_i e
         obtain rfl := Option.some.inj h
         exact ⟨by simpa [AV.lt, Nat.blt_eq] using hlt, .inl (by rw [if_pos e]; show some (AV.row S1.fr kk) = some (AV.row (rr S.fr) kk); rw [rN])⟩
       · rename_i e
         split at h
         · cases h
         · rename_i e2
           obtain ⟨g1, g2⟩ := key y h
           exact ⟨g1, .inl (by rw [if_neg e, if_neg e2, g2]; exact h)⟩
   · rw [put_h] at hB
     rw [put_fr, put_h]
     simp only [look_cons] at hB ⊢
     split at hB
     · rename_i e
       obtain rfl := Option.some.inj hB
       subst e
       refine ⟨hlt, rfl, ?_⟩
       rw [rN, if_pos rfl]
       rfl
     · rename_i hn
       rw [look_delH] at hB
       split at hB
       · cases hB
       rename_i hq
       obtain ⟨q1, q2, q3, q4⟩ := old n B hB
       refine ⟨q1, q2, ?_⟩
       rw [q3, q4, if_neg (by omega), look_delH, if_neg hq]
       exact hB
   · rw [put_h] at g1 g2
     have cl : ∀ n, (look n ((S.fr, Blk.ds E kk es) :: delH ns S1.h)).isSome = true → n = S.fr ∨ (rr n = n ∧ n < S1.fr) := fun n hn => by
       rw [look_cons] at hn
       split at hn
       · rename_i e
         exact .inl e.symm
       · rw [look_delH] at hn
         split at hn
         · cases hn
         · obtain ⟨B, hB⟩ := Option.isSome_iff_exists.1 hn
           obtain ⟨q1, q2, q3, q4⟩ := old n B hB
           exact .inr ⟨q3, q1⟩
     rcases cl n g1 with e1 | ⟨a1, a2⟩ <;> rcases cl m g2 with e2 | ⟨b1, b2⟩
     · rw [e1, e2]
     · rw [e1, rN, b1] at g3; omega
     · rw [e2, rN, a1] at g3; omega
     · rw [a1, b1] at g3; exact g3
 have hold : ∀ n, n < cx.w0.fr → n < S2.fr ∧ rr n = n := fun n hn => by
   subst hS2
   rw [put_fr]
   refine ⟨by show n < S1.fr; omega, ?_⟩
   show (if n = S.fr then _ else if S0.fr ≤ n ∧ (ι n).isNone = true then _ else n) = n
   rw [if_neg (by omega), if_neg (by omega)]
 obtain ⟨l1, l2, l3⟩ := hle2
 obtain ⟨g1, g2, g3⟩ := H'.hr.keep hold l2 l3
 have fin : Rel cx.X cx.L cx.w0 cx.nt (fun n => if n < S2.fr then ι' (rr n) else none) S2 (a.put o.dst v) w' := by
   refine ⟨g1, fun t y hy => ?_, H'.sz, H'.df⟩
   obtain ⟨h4, h5⟩ := l1 t y hy
   rcases h5 with h5 | rfl
   · exact ((H'.tm t _ h5).ren_inv g3 y h4 rfl).mono g2 (fun _ _ h => h)
   · exact .any _
 refine hK _ _ w' S2 ?_ (fun q hq => ?_) (fun q hq => ?_) ?_ (fun q hq hι hout => ?_) fin
 · subst hS2; cases o.dst <;> rfl
 · subst hS2
   rw [put_h, put_h]
   simp only [look_cons]
   split
   · rfl
   · rename_i hne
     rw [look_delH, look_delH]
     split
     · rfl
     · rename_i hq2
       simp only [List.mem_append, List.mem_singleton] at hq
       rcases hq with hq | hq
       · exact absurd hq hq2
       · exact absurd hq.symm hne
 · subst hS2
   simp only [List.mem_append, List.mem_singleton, not_or] at hq
   rw [put_h]
   simp only [look_cons]
   rw [if_neg (fun e => hq.2 e.symm), look_delH, if_neg hq.1]
 · subst hS2; rw [put_fr]
 · rw [put_fr] at hout
   simp only at hout
   show (if q < S2.fr then ι' (rr q) else none) = none
   split
   · have er : rr q = S1.fr + 1 + q + 1 := by
       show (if q = S.fr then _ else if S0.fr ≤ q ∧ (ι q).isNone = true then _ else q) = _
       rw [if_neg (by omega), hι, if_pos ⟨hq, rfl⟩]
     rw [er]
     exact H'.hr.fresh _ (by rw [put_fr]; show S1.fr + 1 ≤ _; omega)
   · rfl
theorem DE.bs0 (hτ : TabOK P τ) {all r : List Oper} {id : Nat} {k : List KI} {S0 S : St} {o : Oper} {kk : Nat} {e : TypeId} {fps : List Fp} (hw0 : cx.w0.fr ≤ S0.fr) (hle : S0.fr ≤ S.fr) (hc : bs0 τ o.op = some (kk, e)) (hg : guardB all S o = some true) (hd : ∀ d, o.dst = some d → d < cx.nt)
   (next : DE P cx Q all id k S0 (fps ++ [([], [S.fr])]) r (St.put ⟨S.t, (S.fr, .ds e kk []) :: S.h, S.fr + 1⟩ o.dst (.row S.fr kk))) : DE P cx Q all id k S0 fps (o :: r) S := by
 refine DE.eff1 (ns := []) hτ hw0 hle rfl (fun S1 h1 h2 => ?_) hg hd next
 unfold Ua.bs0 at hc
 split at hc
 · rename_i t parts ho
   split at hc
   · rename_i k2 e2 hp hv
     simp only [Option.some.injEq, Prod.mk.injEq] at hc
     obtain ⟨rfl, rfl⟩ := hc
     simp only [effOp, ho, hp, evps]
     exact bsView_op hv S1
   · cases hc
 · cases hc
theorem apD_eff {S : St} {op : Op} {ns : List Nat} {kk : Nat} {e : TypeId} {es : List Dat} (hc : apD Fam.real τ S op = some (true, ns, kk, e, es)) (S1 : St) (h1 : ∀ x, x ∈ op.operands.toList → evl S1 x = evl S x) (h2 : ∀ n, n ∈ ns → look n S1.h = look n S.h) :
   effOp Ar.real τ S1 op = some (.row S1.fr kk, ⟨S1.t, (S1.fr, .ds e kk es) :: delH ns S1.h, S1.fr + 1⟩) := by
 unfold apD at hc
 split at hc
 · rename_i c
   split at hc
   · rename_i t1 t2 s x q1 q2 q3
     have es_ : evl S1 s = evl S s := h1 s (by simp [Op.operands, Call.operands, q1, q3])
     have ex_ : evl S1 x = evl S x := h1 x (by simp [Op.operands, Call.operands, q1, q3])
     split at hc
     · rename_i e1 k es2 hk hx
       split at hc
       · rename_i y hy
         split at hc
         · rename_i c1 c2 c3
           simp only [effOp, q1, q2, q3, appendOp, hk, hy, c1, c2, es_, ex_, hx, srcOf]
           rw [if_pos (Nat.eq_of_beq_eq_true c3)]
           unfold apDT at hc
           split at hc
           · rename_i n k0 hs
             split at hc
             · rename_i E k1 es0 hl
               split at hc
               · rename_i b1 b2 b3
                 simp only [Option.some.injEq, Prod.mk.injEq] at hc
                 obtain ⟨hf, rfl, rfl, rfl, rfl⟩ := hc
                 simp only [appG, hs]
                 rw [h2 n (by simp), hl]
                 simp only
                 rw [if_pos ⟨Nat.eq_of_beq_eq_true b1, Nat.eq_of_beq_eq_true b2, Nat.eq_of_beq_eq_true b3⟩]
                 have e1 : Ar.real.fits y.bytes (Ar.real.appD es0 es2) = true := hf
                 rw [e1]
                 rfl
               · cases hc
             · cases hc
           · rename_i hs
             simp only [Option.some.injEq, Prod.mk.injEq] at hc
             obtain ⟨hf, rfl, rfl, rfl, rfl⟩ := hc
             have e1 : Ar.real.fits y.bytes es2 = true := hf
             simp only [appG, hs, e1]
             rfl
           · cases hc
         · cases hc
       · cases hc
     · cases hc
   · cases hc
 · cases hc
theorem DE.apD (hτ : TabOK P τ) {all r : List Oper} {id : Nat} {k : List KI} {S0 S : St} {o : Oper} {b : Bool} {ns : List Nat} {kk : Nat} {e : TypeId} {es : List Dat} {fps : List Fp} (hw0 : cx.w0.fr ≤ S0.fr) (hle : S0.fr ≤ S.fr) (hc : apD Fam.real τ S o.op = some (b, ns, kk, e, es)) (hb : b = true) (hns : allLt S.fr ns = true)
   (hg : guardB all S o = some true) (hd : ∀ d, o.dst = some d → d < cx.nt)
   (next : DE P cx Q all id k S0 (fps ++ [(ns, ns ++ [S.fr])]) r (St.put ⟨S.t, (S.fr, .ds e kk es) :: delH ns S.h, S.fr + 1⟩ o.dst (.row S.fr kk))) : DE P cx Q all id k S0 fps (o :: r) S := by
 subst hb
 exact DE.eff1 hτ hw0 hle hns (fun S1 h1 h2 => apD_eff hc S1 h1 h2) hg hd next
def runD2 (F : Fam) (τ : Tab) (nt : Nat) (G : Tbl) (all : List Oper) (st : Tree) (K : List Oper → List Nat → St → Tree) : Nat → Nat → List Fp → List Nat → List Oper → St → Tree
 | 0, _, _, _, _, _ => st
 | f + 1, j, fps, dc, [], S => (match chkE fps all with
   | true => K [] dc S
   | false => st)
 | f + 1, j, fps, dc, o :: r, S => (match chkTail all j (o :: r) with
   | true => (match chkE fps all with
     | true => K (o :: r) dc S
     | false => st)
   | false => (match askG dc all S o with
     | some (d, b) => .node b (runD2 F τ nt G all st K f j fps (d :: dc) (o :: r) (S.lit d true)) (runD2 F τ nt G all st K f j fps (d :: dc) (o :: r) (S.lit d false))
     | none => (match (match o.dst with
         | some d => Nat.blt d nt
         | none => true), guardB all S o with
       | true, some true => (match askP dc S o.op with
         | some (d, b) => .node b (runD2 F τ nt G all st K f j fps (d :: dc) (o :: r) (S.lit d true)) (runD2 F τ nt G all st K f j fps (d :: dc) (o :: r) (S.lit d false))
         | none => (match callT τ G S o.op with
           | some (b, z) => .need b (runD2 F τ nt G all st K f (j + 1) (fps ++ [([], [])]) (dcP dc o.dst false) r (S.put o.dst z))
           | none => (match callN G S o.op with
           | some (b, x, h', fr') => .need b (runD2 F τ nt G all st K f (j + 1) (fps ++ [([], rngN S.fr fr')]) (dcP dc o.dst false) r (St.put ⟨S.t, appH (renH (nxt S.fr) h') S.h, S.fr + fr'⟩ o.dst (x.ren (nxt S.fr))))
           | none => (match opT F τ dc S o.op with
             | some (b, z) => .need b (runD2 F τ nt G all st K f (j + 1) (fps ++ [(topNs S o.op.operands.toList, [])]) (dcP dc o.dst (litO dc S o.op)) r (S.put o.dst z))
             | none => (match bs0 τ o.op with
               | some (kk, e) => runD2 F τ nt G all st K f (j + 1) (fps ++ [([], [S.fr])]) (dcP dc o.dst false) r (St.put ⟨S.t, (S.fr, .ds e kk []) :: S.h, S.fr + 1⟩ o.dst (.row S.fr kk))
               | none => (match apD F τ S o.op with
               | some (b, ns, kk, e, es) => (match allLt S.fr ns with
                 | true => .need b (runD2 F τ nt G all st K f (j + 1) (fps ++ [(ns, ns ++ [S.fr])]) (dcP dc o.dst false) r (St.put ⟨S.t, (S.fr, .ds e kk es) :: delH ns S.h, S.fr + 1⟩ o.dst (.row S.fr kk)))
                 | false => st)
               | none => (match viewO τ S o.op with
               | some z => runD2 F τ nt G all st K f (j + 1) (fps ++ [([], [])]) (dcP dc o.dst false) r (S.put o.dst z)
               | none => (match pureOp (Ar.of F) τ S o.op with
                   | some z => runD2 F τ nt G all st K f (j + 1) (fps ++ [(topNs S o.op.operands.toList, [])]) (dcP dc o.dst (litO dc S o.op)) r (S.put o.dst z)
                   | none => (match o.op with
                     | .alloc t => (match look t τ with
                       | some y => (match okZero y with
                         | true => runD2 F τ nt G all st K f (j + 1) (fps ++ [([], [S.fr])]) (dcP dc o.dst false) r ((S.new (.cs t (zcells y))).put o.dst (.ptr S.fr 0 0 y.size))
                         | false => st)
                       | none => st)
                     | .store t p x => (match evl S p, sizeAt τ t with
                       | .ptr n i off k, _ + 1 => (match storeB (Ar.of F) τ t i off k (evl S x) (look n S.h) with
                         | some B => runD2 F τ nt G all st K f (j + 1) (fps ++ [([], [n])]) (dcP dc o.dst false) r ((S.wr n B).put o.dst (.tup []))
                         | none => st)
                       | _, _ => st)
                     | _ => st)))))))))
       | true, some false => runD2 F τ nt G all st K f (j + 1) (fps ++ [([], [])]) (dcP dc o.dst false) r (S.put o.dst (.tup []))
       | _, _ => st)))
theorem runD2_ok (hτ : TabOK P τ) (hm : P.follows .mixedOrders = true) {G : Tbl} (hG : TblOK P G) {all : List Oper} {id : Nat} {k : List KI} {S0 : St} (hw0 : cx.w0.fr ≤ S0.fr) {st : Tree} {K : List Oper → List Nat → St → Tree}
   (hst : AKm P cx Q st → AK P cx Q (.code (.region id all.toArray true) :: k) S0) (hK : ∀ rest dc S, cx.w0.fr ≤ S.fr → AKm P cx Q (K rest dc S) → AK P cx Q (.ops all rest :: k) S) :
   ∀ (f j : Nat) (fps : List Fp) (dc : List Nat) (r : List Oper) (S : St), S0.fr ≤ S.fr → AKm P cx Q (runD2 Fam.real τ cx.nt G all st K f j fps dc r S) → DE P cx Q all id k S0 fps r S
 | 0, j, fps, dc, r, S, h0, h => fun _ _ _ _ _ _ => hst (by unfold runD2 at h; exact h)
 | f + 1, j, fps, dc, [], S, h0, h => by
   unfold runD2 at h
   split at h
   · rename_i hc
     exact DE.fin hm hc (hK _ _ _ (Nat.le_trans hw0 h0) h)
   · exact fun _ _ _ _ _ _ => hst h
 | f + 1, j, fps, dc, o :: r, S, h0, h => by
   have ih := runD2_ok hτ hm hG hw0 hst hK f
   have hp : ∀ z, S0.fr ≤ (S.put o.dst z).fr := fun z => by rw [put_fr]; exact h0
   have ask : ∀ (d : Nat) (b : Bool), look d S.t = some (.d (.s (.bool b))) → AKm P cx Q (.node b (runD2 Fam.real τ cx.nt G all st K f j fps (d :: dc) (o :: r) (S.lit d true)) (runD2 Fam.real τ cx.nt G all st K f j fps (d :: dc) (o :: r) (S.lit d false))) → DE P cx Q all id k S0 fps (o :: r) S := by
     intro d b hl h
     cases b
     · have := ih _ _ _ _ _ (by rw [lit_fr]; exact h0) (h.2 rfl)
       rwa [lit_id hl] at this
     · have := ih _ _ _ _ _ (by rw [lit_fr]; exact h0) (h.1 rfl)
       rwa [lit_id hl] at this
   unfold runD2 at h
   split at h
   · split at h
     · rename_i hc
       exact DE.fin hm hc (hK _ _ _ (Nat.le_trans hw0 h0) h)
     · exact fun _ _ _ _ _ _ => hst h
   · split at h
     · rename_i d b hask
       exact ask d b (askG_look hask) h
     · split at h
       · rename_i hd hg
         split at h
         · rename_i d b hask
           exact ask d b (askP_look hask) h
         · split at h
           · rename_i b z hc
             exact DE.callT hG hw0 h0 hc h.1 hg (dst_lt hd) (ih _ _ _ _ _ (hp _) (h.2 h.1))
           · split at h
             · rename_i b x h' fr' hc
               exact DE.callN hG hw0 h0 hc h.1 hg (dst_lt hd) (ih _ _ _ _ _ (by rw [put_fr]; exact Nat.le_trans h0 (Nat.le_add_right _ _)) (h.2 h.1))
             split at h
             · rename_i b z hc
               exact DE.pure hτ (opT_pure hc h.1) hg (dst_lt hd) (ih _ _ _ _ _ (hp _) (h.2 h.1))
             · split at h
               · rename_i kk e hc
                 exact DE.bs0 hτ hw0 h0 hc hg (dst_lt hd) (ih _ _ _ _ _ (by rw [put_fr]; exact Nat.le_trans h0 (Nat.le_succ _)) h)
               split at h
               · rename_i b ns kk e es hc
                 split at h
                 · rename_i hlt
                   exact DE.apD hτ hw0 h0 hc h.1 hlt hg (dst_lt hd) (ih _ _ _ _ _ (by rw [put_fr]; exact Nat.le_trans h0 (Nat.le_succ _)) (h.2 h.1))
                 · exact fun _ _ _ _ _ _ => hst h
               split at h
               · rename_i z hv
                 exact DE.viewO hτ hw0 h0 hv hg (dst_lt hd) (ih _ _ _ _ _ (hp _) h)
               · split at h
                 · rename_i z hz
                   exact DE.pure hτ hz hg (dst_lt hd) (ih _ _ _ _ _ (hp _) h)
                 · · split at h
                     · rename_i t ho
                       split at h
                       · rename_i y hy
                         split at h
                         · rename_i hz
                           exact DE.alloc hτ ho hy hz hg (dst_lt hd) (ih _ _ _ _ _ (by rw [put_fr]; exact Nat.le_trans h0 (Nat.le_succ _)) h)
                         · exact fun _ _ _ _ _ _ => hst h
                       · exact fun _ _ _ _ _ _ => hst h
                     · rename_i t p x ho
                       split at h
                       · rename_i n i off k' m hp' hs
                         split at h
                         · rename_i B hB
                           exact DE.store hτ ho hp' hs hB hg (dst_lt hd) (ih _ _ _ _ _ (by rw [put_fr]; exact h0) h)
                         · exact fun _ _ _ _ _ _ => hst h
                       · exact fun _ _ _ _ _ _ => hst h
                     · exact fun _ _ _ _ _ _ => hst h
       · rename_i hd hg
         exact DE.skip hg (dst_lt hd) (ih _ _ _ _ _ (hp _) h)
       · exact fun _ _ _ _ _ _ => hst h
theorem AKp.runD2 {F : Fam} (hF : F = Fam.real) (hτ : TabOK P τ) (hm : P.follows .mixedOrders = true) {n : Nat} (hn : cx.nt = n) (fz : Bool) (G : Tbl) (hG : TblOK P G) {id : Nat} {ops : Array Oper} {k : List KI} {S : St} (h0 : cx.w0.fr ≤ S.fr)
   (h : AKt P cx Q (runD2 F τ n G ops.toList (.leaf (.code (.region id ops true) :: k) S) (fun rest dc S => Ua.runT F τ n fz G [] 100000 dc (.ops ops.toList rest :: k) S) 10000 0 [] [] ops.toList S)) : AKp P cx Q (.code (.region id ops true) :: k, S) := by
 subst hF
 subst hn
 have := runD2_ok (P := P) (cx := cx) (Q := Q) (id := id) (k := k) (S0 := S) (all := ops.toList) (st := .leaf (.code (.region id ops true) :: k) S) hτ hm hG h0 (fun h => h) (fun rest dc S h0 h => AK.stepT hτ hm hG fz [] _ dc _ S h0 h) _ _ _ _ _ _ (Nat.le_refl _) h.m
 exact DE.start this
theorem AKp.joinR (rs : List (Nat × Nat)) {K k : List KI} (hK : K = k) {S : St} (S' : St) (h0 : cx.w0.fr = 0) (h1 : leT (rnm rs) S'.fr S.t S'.t) (h2 : leH (rnm rs) S'.fr S.h S'.h) (h3 : nodupB (keysR rs S'.h) = true) (h : AK P cx Q K S') : AKp P cx Q (k, S) := by
 subst hK
 exact AK.weaken (rnm rs) (fun n hn => by omega) (St.le_of h1 h2 (keys_inj h3)) h
end
end Go.Ua
namespace Go.Ua
open Go Go.Proofs Go.RowKit
section
variable {P : Program} [Globs P] {τ : Tab} {cx : Cx P} {Q : Exit → Act → World → Prop}
end
end Go.Ua
