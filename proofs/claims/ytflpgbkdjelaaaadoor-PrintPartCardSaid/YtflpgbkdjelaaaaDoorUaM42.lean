/- The library of this claim and its walks, part 42, joined out of smaller texts. No statement stands in it. -/
import Derived.Test.YtflpgbkdjelaaaaDoorUaM30
import Derived.Test.YtflpgbkdjelaaaaDoorUaM40
import Derived.Test.YtflpgbkdjelaaaaDoorUaM41
/- strings.Builder: a fresh one holds nothing. -/
namespace Go.Proofs.YtflpgbkdjelaaaaDoor
open Go Go.Proofs Go.Ua Go.Extern Go.Shelf Go.RowKit
set_option linter.unusedVariables false
set_option linter.unusedSimpArgs false

theorem len0_spec : ASpec Tryd.prog 23 [.ptr 0 0 0 2] [(0, .cs 54 [.d (.s .ptr0), .d (.s .sl0)])] 1 (fun y h1 fr1 => y = .d (.s (.int .i64 0)) ∧ h1 = [(0, .cs 54 [.d (.s .ptr0), .d (.s .sl0)])] ∧ fr1 = 1) := by
  refine ASpec.enterK Tryd.func23 (by kernel_rfl) rfl (Nat.le_of_ble_eq_true rfl) fun hok cx hnt hfr => ?_
  obtain ⟨F, hF⟩ := real_ex
  refine AK.runTn hF tabOK hmix hnt [] false [] trivial (Nat.le_of_eq hfr) ?_
  conv => arg 4; cbv
  repeat' (first | with_reducible (first | refine AKt.have ?_ | refine AKt.tt ?_ | refine AKt.ff ?_ | refine AKt.yes (by assumption) ?_ | refine AKt.no (by assumption) ?_ | refine AKt.node (fun hb => ?_) (fun hb => ?_) | refine AKt.need ?_ (fun hb => ?_) | refine AKt.leaf ?_) | ((with_reducible show _ = true); assumption))
  first | refine AKp.doneM tabOK hfr (by rfl) (by rfl) ?_ ?_ | refine AKp.endM tabOK hfr (by rfl) (by rfl) ?_ ?_
  all_goals show _ = _
  · rfl
  · rfl
def φBLen0  : Nat → List AV → List (Nat × Blk) → Option (Bool × AV × List (Nat × Blk) × Nat)
  | 1, [.ptr 0 0 0 2], [(0, .cs 54 [.d (.s .ptr0), .d (.s .sl0)])] => some (true, .d (.s (.int .i64 0)), [(0, .cs 54 [.d (.s .ptr0), .d (.s .sl0)])], 1)
  | _, _, _ => none
theorem φBLen0_ok : MSpOK Tryd.prog 23 (φBLen0 ) := by
  intro fr xs h b x h1 fr1 h hb
  unfold φBLen0 at h
  split at h
  · simp only [Option.some.injEq, Prod.mk.injEq] at h
    obtain ⟨rfl, rfl, rfl, rfl⟩ := h
    exact len0_spec
  · cases h
section
variable {P : Program} {ρ : Ren}
set_option maxHeartbeats 2000000 in
set_option maxRecDepth 100000 in
theorem string_calls0 (L : Lays.n169 P ρ) (X : Builder.Extra P ρ) (b : Nat) (p : Value) (w : World) (hbk : w.heap[b]? = some (.cells #[p, .slice none 0 0] (ρ.t 72) (0, 0))) :
    Calls P (ρ.f 169) #[.pointer (some ⟨b, 0, none⟩)] w fun e w' => e = .returned (.string ⟨#[]⟩) ∧ Kept (fun _ => False) w w' := by
  have hUS := Any.unsafeString_none L X
  have c1 : w.drew.cell? ⟨b, 1, none⟩ = some (.slice none 0 0) := by
    have : w.drew.heap[b]? = some (.cells #[p, .slice none 0 0] (ρ.t 72) (0, 0)) := hbk
    rw [Lib.cell_of_heap this]; rfl
  have hSD : (Builtin.unsafeSliceData_ #[(ρ.t 37)] (ρ.t 127) #[.slice none 0 0]).run P w.drew = .ok (.pointer none) w.drew := rfl
  have mixed := L.mixed
  have t72 := L.t72; have a72 := L.a72; have z72 := L.z72; have v72 := L.v72; have u72 := run_underlying L.t72
  have t70 := L.t70; have a70 := L.a70; have z70 := L.z70; have v70 := L.v70; have u70 := run_underlying L.t70
  have t37 := L.t37; have a37 := L.a37; have z37 := L.z37; have v37 := L.v37; have u37 := run_underlying L.t37
  have t127 := L.t127; have a127 := L.a127; have z127 := L.z127; have v127 := L.v127; have u127 := run_underlying L.t127
  have t3 := L.t3; have a3 := L.a3; have z3 := L.z3; have v3 := L.v3; have u3 := run_underlying L.t3
  have t9 := L.t9; have a9 := L.a9; have z9 := L.z9; have v9 := L.v9; have u9 := run_underlying L.t9
  have t5 := X.t5; have a5 := X.a5; have z5 := X.z5; have v5 := X.v5; have u5 := run_underlying X.t5
  go_enter L.f169, Body.n169_ntmps ρ
  go_wp2
  go_region_o
  all_goals (go_wp2; go_ret; exact ⟨rfl, kept_drew (Kept.refl _ w)⟩)
end
theorem string0_spec : ASpec Tryd.prog 24 [.ptr 0 0 0 2] [(0, .cs 54 [.d (.s .ptr0), .d (.s .sl0)])] 1 (fun y h1 fr1 => y = .d (.s (.str [])) ∧ h1 = [] ∧ fr1 = 1) := by
  refine ⟨enters_of Tryd.func24 (by kernel_rfl) rfl, fun X L w ι vs h1 hg h2 h3 => ?_⟩
  obtain ⟨v, rfl⟩ : ∃ v, vs = [v] := by
    match vs, h2 with
    | [v], _ => exact ⟨v, rfl⟩
  have hv := h3 0 _ v rfl rfl
  have hB := h1.hp 0 _ (show Go.Ua.look 0 ([(0, .cs 54 [.d (.s .ptr0), .d (.s .sl0)])] : List (Nat × Blk)) = some _ from rfl)
  cases hv with
  | ptr _ _ _ _ b c l hi =>
  cases hB with
  | cs _ _ b' cap l' cur hi' hb hl hone hr =>
  rw [hi] at hi'
  cases hi'
  obtain ⟨c0, c1, rfl⟩ : ∃ c0 c1, cur = [c0, c1] := by
    match cur, hl with
    | [c0, c1], _ => exact ⟨c0, c1, rfl⟩
  have r1 := rep_s (hr 1 _ c1 rfl rfl)
  obtain rfl : c1 = .slice none 0 0 := r1
  show Calls Tryd.prog 24 #[.pointer (some ⟨b, 0 * 2 + 0, none⟩)] w _
  rw [show 0 * 2 + 0 = 0 from rfl]
  refine Calls.mono (string_calls0 lays169 Tryd.Builder_Extra_156 b c0 w hb) ?_
  · rintro e w' ⟨rfl, hkept⟩
    refine ⟨_, _, [], 1, ι, rfl, ⟨rfl, rfl, rfl⟩, .d _ _ (.s (.str []) (Nat.zero_le _)), ?_⟩
    refine h1.step (ι' := ι) (Y := fun _ => False) (fun _ _ h => h) (fun k hk hbad => ⟨hkept.block k hk (fun e => e), ?_⟩) (fun n B hn => by simp [Go.Ua.look] at hn) (fun n m b c l c' l' hn => by simp [Go.Ua.look] at hn) (fun n b c l hn => by simp [Go.Ua.look] at hn) h1.fresh hkept (fun n hn => ?_)
    · rintro (hL | ⟨n, c, l, hn, _⟩)
      · exact hbad (.inl hL)
      · simp [Go.Ua.look] at hn
    · exact hn.elim
def φBString0  : Nat → List AV → List (Nat × Blk) → Option (Bool × AV × List (Nat × Blk) × Nat)
  | 1, [.ptr 0 0 0 2], [(0, .cs 54 [.d (.s .ptr0), .d (.s .sl0)])] => some (true, .d (.s (.str [])), [], 1)
  | _, _, _ => none
theorem φBString0_ok : MSpOK Tryd.prog 24 (φBString0 ) := by
  intro fr xs h b x h1 fr1 h hb
  unfold φBString0 at h
  split at h
  · simp only [Option.some.injEq, Prod.mk.injEq] at h
    obtain ⟨rfl, rfl, rfl, rfl⟩ := h
    exact string0_spec
  · cases h
end Go.Proofs.YtflpgbkdjelaaaaDoor

/- What the document calls formed: the walk. -/
namespace Go.Proofs.YtflpgbkdjelaaaaDoor
open Go Go.Proofs Go.Ua Go.Extern
set_option linter.unusedVariables false
set_option linter.unusedSimpArgs false
set_option maxRecDepth 10000

set_option maxHeartbeats 8000000 in
set_option cbv.maxSteps 10000000 in
theorem rformed_spec (c : Cf) (hp : smallF c = true) : ESpec Tryd.prog 13 [.d (.agg [.s (.int .i64 c.tt), .s (.int .i64 c.pe), .s (.int .i64 c.pr), .s (.int .i64 c.mo), .view 10 (lvDs c.ls), .view 5 (smDs c.ss)])] (fun x => x = .d (.s (.bool (formR c)))) := by
  obtain ⟨uRLines, huRLines⟩ : ∃ u : Int → Int → Int → Int → List Dat → List Dat → Bool, u = lsPP := ⟨_, rfl⟩
  obtain ⟨uRLines1, huRLines1⟩ : ∃ u : Int → Int → Int → Int → List Dat → List Dat → List Dat, u = fun a b c d ls ss => strDs (linesR ⟨a, b, c, d, unLv ls, unSm ss⟩) := ⟨_, rfl⟩
  obtain ⟨uRefWords, huRefWords⟩ : ∃ u : List UInt8 → Bool, u = le32 := ⟨_, rfl⟩
  obtain ⟨uRefWords1, huRefWords1⟩ : ∃ u : List UInt8 → List Dat, u = fun w => strDs (wordsF w) := ⟨_, rfl⟩
  obtain ⟨uRLine, huRLine⟩ : ∃ u : Int → Int → Int → Int → List Dat → List Dat → List Dat → Bool, u = lnP := ⟨_, rfl⟩
  obtain ⟨uRLine1, huRLine1⟩ : ∃ u : Int → Int → Int → Int → List Dat → List Dat → List Dat → Int, u = fun a b c d ls ss w => (linC (cfU a b c d ls ss) (unStr w)).tt := ⟨_, rfl⟩
  obtain ⟨uRLine2, huRLine2⟩ : ∃ u : Int → Int → Int → Int → List Dat → List Dat → List Dat → Int, u = fun a b c d ls ss w => (linC (cfU a b c d ls ss) (unStr w)).pe := ⟨_, rfl⟩
  obtain ⟨uRLine3, huRLine3⟩ : ∃ u : Int → Int → Int → Int → List Dat → List Dat → List Dat → Int, u = fun a b c d ls ss w => (linC (cfU a b c d ls ss) (unStr w)).pr := ⟨_, rfl⟩
  obtain ⟨uRLine4, huRLine4⟩ : ∃ u : Int → Int → Int → Int → List Dat → List Dat → List Dat → Int, u = fun a b c d ls ss w => (linC (cfU a b c d ls ss) (unStr w)).mo := ⟨_, rfl⟩
  obtain ⟨uRLine5, huRLine5⟩ : ∃ u : Int → Int → Int → Int → List Dat → List Dat → List Dat → List Dat, u = fun a b c d ls ss w => lvDs (linC (cfU a b c d ls ss) (unStr w)).ls := ⟨_, rfl⟩
  obtain ⟨uRLine6, huRLine6⟩ : ∃ u : Int → Int → Int → Int → List Dat → List Dat → List Dat → List Dat, u = fun a b c d ls ss w => smDs (linC (cfU a b c d ls ss) (unStr w)).ss := ⟨_, rfl⟩
  obtain ⟨uRLine7, huRLine7⟩ : ∃ u : Int → Int → Int → Int → List Dat → List Dat → List Dat → Int, u = fun a b c d ls ss w => linE (cfU a b c d ls ss) (unStr w) := ⟨_, rfl⟩
  obtain ⟨uSameCf, huSameCf⟩ : ∃ u : List Dat → List Dat → List Dat → List Dat → Bool, u = fun ls ss ks ts => isCf0 ls ss && isCf0 ks ts := ⟨_, rfl⟩
  obtain ⟨uSameCf1, huSameCf1⟩ : ∃ u : Int → Int → Int → Int → List Dat → List Dat → Int → Int → Int → Int → List Dat → List Dat → Bool, u = fun a b c d ls ss a2 b2 c2 d2 ks ts => sameC ⟨a, b, c, d, unLv ls, unSm ss⟩ ⟨a2, b2, c2, d2, unLv ks, unSm ts⟩ := ⟨_, rfl⟩
  have hG : TblOK Tryd.prog [(25, .p (φRLines uRLines uRLines1)), (30, .p (φRefWords uRefWords uRefWords1)), (29, .p (φRLine uRLine uRLine1 uRLine2 uRLine3 uRLine4 uRLine5 uRLine6 uRLine7)), (14, .p (φSameCf uSameCf uSameCf1))] := ⟨(by rw [huRLines, huRLines1]; exact φRLines_ok), (by rw [huRefWords, huRefWords1]; exact φRefWords_ok), (by rw [huRLine, huRLine1, huRLine2, huRLine3, huRLine4, huRLine5, huRLine6, huRLine7]; exact φRLine_ok), (by rw [huSameCf, huSameCf1]; exact φSameCf_ok), trivial⟩
  obtain ⟨Z, hZ⟩ : ∃ z, z = formR c := ⟨_, rfl⟩
  rw [← hZ]
  obtain ⟨l, hl⟩ : ∃ l, l = linesR c := ⟨_, rfl⟩
  have hne := lines_ne c
  rw [← hl] at hne
  unfold formR at hZ
  rw [← hl] at hZ
  have hlb := lnB_small hp
  have hlen := @lines_len c hp
  rw [← hl] at hlen
  obtain ⟨tt, pe, pr, mo, ls, ss⟩ := c
  simp only at hlen ⊢
  obtain ⟨ld, hld⟩ : ∃ z, z = lvDs ls := ⟨_, rfl⟩
  obtain ⟨sd, hsd⟩ : ∃ z, z = smDs ss := ⟨_, rfl⟩
  rw [← hld, ← hsd]
  have hul : unLv ld = ls := by rw [hld, un_lv]
  have hus : unSm sd = ss := by rw [hsd, un_sm]
  have q1 : uRLines tt pe pr mo ld sd = true := by
    subst huRLines huRLines1 huRefWords huRefWords1 huRLine huRLine1 huRLine2 huRLine3 huRLine4 huRLine5 huRLine6 huRLine7 huSameCf huSameCf1
    show (isCf0 ld sd && lnB ⟨tt, pe, pr, mo, unLv ld, unSm sd⟩) = true
    rw [hul, hus, hlb, isCf0, hld, hsd, is_lv, is_sm]
    rfl
  have e1 : uRLines1 tt pe pr mo ld sd = strDs l := by
    subst huRLines huRLines1 huRefWords huRefWords1 huRLine huRLine1 huRLine2 huRLine3 huRLine4 huRLine5 huRLine6 huRLine7 huSameCf huSameCf1
    show strDs (linesR ⟨tt, pe, pr, mo, unLv ld, unSm sd⟩) = _
    rw [hul, hus, hl]
  refine ESpec.enter Tryd.func13 (by kernel_rfl) rfl (Nat.le_of_ble_eq_true rfl) fun hok cx hnt hfr => ?_
  obtain ⟨F, hF⟩ := real_ex
  refine AK.runT hF tabOK hmix hnt hfr false _ hG ?_
  conv => arg 4; cbv
  obtain ⟨es, hes⟩ : ∃ z, z = strDs l := ⟨_, rfl⟩
  rw [e1, ← hes]
  have hel : es.length = l.length := by rw [hes, strDs_length]
  have hlen2 : ∀ w, w ∈ l → w.length ≤ 10000 := by
    refine hlen ?_ ?_ hok.1.1.2 hok.1.2.1.2 hok.1.2.2.1.2 hok.1.2.2.2.1.2
    · intro x hx
      have hdok : Dok x.dat := Doks_iff.1 hok.1.2.2.2.2.1.2 _ (by rw [hld]; exact List.mem_map.2 ⟨x, hx, rfl⟩)
      exact ⟨hdok.2.2.1.2, hdok.2.2.2.1.2, hdok.2.2.2.2.1.2, hdok.2.2.2.2.2.1.2, hdok.2.2.2.2.2.2.1.2, hdok.2.2.2.2.2.2.2.1.2, hdok.2.2.2.2.2.2.2.2.1.2, hdok.2.2.2.2.2.2.2.2.2.1.2⟩
    · intro x hx
      have hdok : Dok x.dat := Doks_iff.1 hok.1.2.2.2.2.2.1.2 _ (by rw [hsd]; exact List.mem_map.2 ⟨x, hx, rfl⟩)
      exact hdok.2.2.1.2
  repeat' (first | with_reducible (first | refine AKt.have ?_ | refine AKt.tt ?_ | refine AKt.ff ?_ | refine AKt.yes (by assumption) ?_ | refine AKt.no (by assumption) ?_ | refine AKt.node (fun hb => ?_) (fun hb => ?_) | refine AKt.need ?_ (fun hb => ?_) | refine AKt.leaf ?_) | ((with_reducible show _ = true); assumption))
  refine AKp.bound 4 rfl fun hdk => ?_
  have hbl : l.length ≤ 9223372036854775807 := by
    have h1 : es.length ≤ maxLen := hdk.1
    have e : maxLen = 9223372036854775807 := rfl
    omega
  clear hdk
  refine AKp.asRowB 1 4 42 10 (by decide) rfl rfl (Nat.le_of_ble_eq_true rfl) ?_
  conv => arg 4; arg 2; cbv
  refine AKp.freeze 2 rfl ?_
  conv => arg 4; arg 2; cbv
  refine AKp.asRowB 1 5 45 5 (by decide) rfl rfl (Nat.le_of_ble_eq_true rfl) ?_
  conv => arg 4; arg 2; cbv
  refine AKp.freeze 3 rfl ?_
  conv => arg 4; arg 2; cbv
  refine AKp.enterLoop 10 ?_
  conv => arg 7; cbv
  refine AKl.invT hF tabOK hmix hnt hfr false _ hG (fun n vs hs => ∃ (i : Nat) (iv a1 a2 a3 a4 : Int) (kl : List Lv) (km : List Sm) (ka ta : List Dat), i + n = l.length ∧ iv = i ∧ runL zeroC ((l.take i).map wordsF) = some ⟨a1, a2, a3, a4, kl, km⟩ ∧ ka = lvDs kl ∧ ta = smDs km ∧ vs = [(5, .d (.s (.int .i64 iv)))] ∧ hs = [(0, .cs 25 [.d (.s (.int .i64 tt)), .d (.s (.int .i64 pe)), .d (.s (.int .i64 pr)), .d (.s (.int .i64 mo)), .d (.view 10 ld), .d (.view 5 sd)]), (1, .cs 25 [.d (.s (.int .i64 a1)), .d (.s (.int .i64 a2)), .d (.s (.int .i64 a3)), .d (.s (.int .i64 a4)), .d (.view 10 ka), .d (.view 5 ta)])]) l.length ⟨0, _, 0, 0, 0, 0, [], [], [], [], by omega, rfl, by rfl, rfl, rfl, rfl, rfl⟩ (by repeat (first | exact True.intro | refine ⟨⟨rfl, rfl⟩, ?_⟩)) (by repeat (first | exact True.intro | refine ⟨⟨rfl, rfl, rfl⟩, ?_⟩)) ?_
  rintro J n vs hs hJ ⟨i, iv, a1, a2, a3, a4, kl, km, ka, ta, hi, hiv, hrun, hka, hta, rfl, rfl⟩
  conv => arg 4; cbv
  have huk : unLv ka = kl := by rw [hka, un_lv]
  have hut : unSm ta = km := by rw [hta, un_sm]
  refine AKt.node (fun hb => ?_) (fun hb => ?_)
  rotate_left
  · have hge : ¬ i < l.length := by rw [hF, f_ltI, f_lenD, hel, hiv] at hb; have := of_decide_eq_false hb; omega
    rw [List.take_of_length_le (by omega)] at hrun
    rw [hrun] at hZ
    have q2 : uSameCf ld sd ka ta = true := by
      subst huRLines huRLines1 huRefWords huRefWords1 huRLine huRLine1 huRLine2 huRLine3 huRLine4 huRLine5 huRLine6 huRLine7 huSameCf huSameCf1
      show (isCf0 ld sd && isCf0 ka ta) = true
      rw [isCf0, isCf0, hld, hsd, hka, hta, is_lv, is_lv, is_sm, is_sm]
      rfl
    repeat' (first | with_reducible (first | refine AKt.have ?_ | refine AKt.tt ?_ | refine AKt.ff ?_ | refine AKt.yes (by assumption) ?_ | refine AKt.no (by assumption) ?_ | refine AKt.node (fun hb => ?_) (fun hb => ?_) | refine AKt.need ?_ (fun hb => ?_) | refine AKt.leaf ?_) | ((with_reducible show _ = true); assumption))
    refine AKp.doneE tabOK hfr (by rfl) ?_
    show _ = _
    simp only [tupAV]
    rw [hZ, huSameCf1]
    show AV.d (.s (.bool (sameC ⟨tt, pe, pr, mo, unLv ld, unSm sd⟩ ⟨a1, a2, a3, a4, unLv ka, unSm ta⟩))) = _
    rw [hul, hus, huk, hut]
  have hlt : i < l.length := by rw [hF, f_ltI, f_lenD, hel, hiv] at hb; have := of_decide_eq_true hb; omega
  obtain ⟨x, hx⟩ : ∃ x, l[i]? = some x := ⟨_, List.getElem?_eq_getElem hlt⟩
  have hxl := hlen2 x (List.mem_of_getElem? hx)
  have hxn := hne x (List.mem_of_getElem? hx)
  have h1 : F .hasD es iv [.str] = true := by rw [hes, hiv]; exact t_hasG hF hlt
  have h2 : F .strA es iv 0 = x := by rw [hes, hiv, t_strG hF, List.getD_eq_getElem?_getD, hx]; rfl
  rw [h2]
  have q3 : uRefWords x = true := by subst huRLines huRLines1 huRefWords huRefWords1 huRLine huRLine1 huRLine2 huRLine3 huRLine4 huRLine5 huRLine6 huRLine7 huSameCf huSameCf1; exact decide_eq_true (by omega)
  obtain ⟨wd, hwd⟩ : ∃ z, z = uRefWords1 x := ⟨_, rfl⟩
  have hwd2 : wd = strDs (wordsF x) := by rw [hwd, huRefWords1]
  rw [← hwd]
  obtain ⟨d, hd⟩ : ∃ d : Cf, d = ⟨a1, a2, a3, a4, kl, km⟩ := ⟨_, rfl⟩
  have hlens : kl.length ≤ 16 ∧ km.length ≤ 32 := run_len hrun (by decide) (by decide)
  have hcu : cfU a1 a2 a3 a4 ka ta = d := by rw [cfU, huk, hut, hd]
  have hw32 : (wordsF x).all le32 = true := by
    rw [List.all_eq_true]
    intro p hpx
    have : p.length ≤ x.length := by
      unfold wordsF at hpx
      exact cutF_all (List.mem_filter.1 hpx).1
    exact decide_eq_true (by omega)
  have q4 : uRLine a1 a2 a3 a4 ka ta wd = true := by
    subst huRLines huRLines1 huRefWords huRefWords1 huRLine huRLine1 huRLine2 huRLine3 huRLine4 huRLine5 huRLine6 huRLine7 huSameCf huSameCf1
    show lnP a1 a2 a3 a4 ka ta wd = true
    have h5 : linP d (wordsF x) = true := by
      rw [hd]
      simp only [linP, Bool.and_eq_true, decide_eq_true_eq]
      exact ⟨Nat.le_trans hlens.1 (by decide), Nat.le_trans hlens.2 (by decide), hw32, hxn⟩
    rw [lnP, hcu, hwd2, unStr_strDs, h5, hka, hta, is_lv, is_sm, isStrs_strDs]
    rfl
  have t7 : uRLine7 a1 a2 a3 a4 ka ta wd = linE d (wordsF x) := by rw [huRLine7]; show linE (cfU a1 a2 a3 a4 ka ta) (unStr wd) = _; rw [hcu, hwd2, unStr_strDs]
  have hsn : (l.take (i + 1)).map wordsF = (l.take i).map wordsF ++ [wordsF x] := by rw [List.take_add_one, hx]; simp
  refine AKt.need h1 fun _ => AKt.need q3 fun _ => AKt.need q4 fun _ => ?_
  refine AKt.node (fun hc => ?_) (fun hc => ?_)
  · have hbad : linE d (wordsF x) ≠ 0 := by rw [t7, hF, f_not, f_eqI] at hc; intro e; rw [e] at hc; simp at hc
    have hz : Z = false := by
      have hsp : l.map wordsF = (l.take i).map wordsF ++ wordsF x :: (l.drop (i + 1)).map wordsF := by
        conv => lhs; rw [← List.take_append_drop i l, List.drop_eq_getElem_cons hlt]
        rw [(List.getElem?_eq_some_iff.1 hx).2]
        simp
      rw [hsp, runL_bad (by rw [hrun, hd]) hbad] at hZ
      exact hZ
    repeat' (first | with_reducible (first | refine AKt.have ?_ | refine AKt.tt ?_ | refine AKt.ff ?_ | refine AKt.yes (by assumption) ?_ | refine AKt.no (by assumption) ?_ | refine AKt.node (fun hb => ?_) (fun hb => ?_) | refine AKt.need ?_ (fun hb => ?_) | refine AKt.leaf ?_) | ((with_reducible show _ = true); assumption))
    refine AKp.doneE tabOK hfr (by rfl) ?_
    show _ = _
    simp only [tupAV]
    rw [hz]
  have hgood : linE d (wordsF x) = 0 := by rw [t7, hF, f_not, f_eqI] at hc; simpa using hc
  have hnext : runL zeroC ((l.take (i + 1)).map wordsF) = some (linA d (wordsF x)) := by
    rw [hsn, runL_snoc, hrun, ← hd]
    show (if linE d (wordsF x) = 0 then _ else _) = _
    rw [if_pos hgood]
  have hlc : linC d (wordsF x) = linA d (wordsF x) := by rw [linC, if_pos hgood]
  have u1 : uRLine1 a1 a2 a3 a4 ka ta wd = (linA d (wordsF x)).tt := by rw [huRLine1]; show (linC (cfU a1 a2 a3 a4 ka ta) (unStr wd)).tt = _; rw [hcu, hwd2, unStr_strDs, hlc]
  have u2 : uRLine2 a1 a2 a3 a4 ka ta wd = (linA d (wordsF x)).pe := by rw [huRLine2]; show (linC (cfU a1 a2 a3 a4 ka ta) (unStr wd)).pe = _; rw [hcu, hwd2, unStr_strDs, hlc]
  have u3 : uRLine3 a1 a2 a3 a4 ka ta wd = (linA d (wordsF x)).pr := by rw [huRLine3]; show (linC (cfU a1 a2 a3 a4 ka ta) (unStr wd)).pr = _; rw [hcu, hwd2, unStr_strDs, hlc]
  have u4 : uRLine4 a1 a2 a3 a4 ka ta wd = (linA d (wordsF x)).mo := by rw [huRLine4]; show (linC (cfU a1 a2 a3 a4 ka ta) (unStr wd)).mo = _; rw [hcu, hwd2, unStr_strDs, hlc]
  have u5 : uRLine5 a1 a2 a3 a4 ka ta wd = lvDs (linA d (wordsF x)).ls := by rw [huRLine5]; show lvDs (linC (cfU a1 a2 a3 a4 ka ta) (unStr wd)).ls = _; rw [hcu, hwd2, unStr_strDs, hlc]
  have u6 : uRLine6 a1 a2 a3 a4 ka ta wd = smDs (linA d (wordsF x)).ss := by rw [huRLine6]; show smDs (linC (cfU a1 a2 a3 a4 ka ta) (unStr wd)).ss = _; rw [hcu, hwd2, unStr_strDs, hlc]
  repeat' (first | with_reducible (first | refine AKt.have ?_ | refine AKt.tt ?_ | refine AKt.ff ?_ | refine AKt.yes (by assumption) ?_ | refine AKt.no (by assumption) ?_ | refine AKt.node (fun hb => ?_) (fun hb => ?_) | refine AKt.need ?_ (fun hb => ?_) | refine AKt.leaf ?_) | ((with_reducible show _ = true); assumption))
  refine AKp.again _ hfr (by repeat (first | exact True.intro | refine ⟨⟨rfl, rfl⟩, ?_⟩)) (by repeat (first | exact True.intro | refine ⟨⟨rfl, rfl, rfl⟩, ?_⟩)) (hJ (n - 1) _ _ (by omega) ⟨i + 1, _, uRLine1 a1 a2 a3 a4 ka ta wd, uRLine2 a1 a2 a3 a4 ka ta wd, uRLine3 a1 a2 a3 a4 ka ta wd, uRLine4 a1 a2 a3 a4 ka ta wd, (linA d (wordsF x)).ls, (linA d (wordsF x)).ss, _, _, by omega, inc_i hF hiv (by omega), by rw [hnext, u1, u2, u3, u4], u5, u6, rfl, rfl⟩)
def smP (a b c d : Int) (ls ss : List Dat) : Bool := isCf0 ls ss && smallF ⟨a, b, c, d, unLv ls, unSm ss⟩
theorem rformedD_spec (a b c d : Int) (ls ss : List Dat) (h : smP a b c d ls ss = true) : ESpec Tryd.prog 13 [.d (.agg [.s (.int .i64 a), .s (.int .i64 b), .s (.int .i64 c), .s (.int .i64 d), .view 10 ls, .view 5 ss])] (fun x => x = .d (.s (.bool (formR ⟨a, b, c, d, unLv ls, unSm ss⟩)))) := by
  simp only [smP, isCf0, Bool.and_eq_true] at h
  have := rformed_spec ⟨a, b, c, d, unLv ls, unSm ss⟩ h.2
  simp only [lv_un h.1.1, sm_un h.1.2] at this
  exact this
def φRFormed (p : Int → Int → Int → Int → List Dat → List Dat → Bool) (u : Int → Int → Int → Int → List Dat → List Dat → Bool) : List AV → Option (Bool × AV)
  | [.d (.agg [.s (.int .i64 a), .s (.int .i64 b), .s (.int .i64 c), .s (.int .i64 d), .view 10 ls, .view 5 ss])] => some (p a b c d ls ss, .d (.s (.bool (u a b c d ls ss))))
  | _ => none
theorem φRFormed_ok : SpOK Tryd.prog 13 (φRFormed (smP) (fun a b c d ls ss => formR ⟨a, b, c, d, unLv ls, unSm ss⟩)) := by
  intro xs b x h hb
  unfold φRFormed at h
  split at h
  · simp only [Option.some.injEq, Prod.mk.injEq] at h
    obtain ⟨rfl, rfl⟩ := h
    exact rformedD_spec _ _ _ _ _ _ hb
  · cases h
end Go.Proofs.YtflpgbkdjelaaaaDoor

/- print.Print: a configuration that tells nothing; all of it. -/
namespace Go.Proofs.YtflpgbkdjelaaaaDoor
open Go Go.Proofs Go.Ua Go.Extern Go.Shelf
set_option linter.unusedVariables false
set_option linter.unusedSimpArgs false
set_option maxRecDepth 10000
theorem cfW_nil {c : Cf} (h : cfW c = []) : c = ⟨0, 0, 0, c.mo, [], []⟩ := by
  obtain ⟨tt, pe, pr, mo, ls, ss⟩ := c
  simp only [cfW, headW, List.append_eq_nil_iff, List.map_eq_nil_iff] at h
  obtain ⟨⟨a, b, d⟩, e, f⟩ := h
  have h1 : tt = 0 := by
    by_cases hn : tt = 0
    · exact hn
    · rw [if_neg hn] at a; cases a
  have h2 : pe = 0 := by
    by_cases hn : pe = 0
    · exact hn
    · rw [if_neg hn] at b; cases b
  have h3 : pr = 0 := by
    by_cases hn : pr = 0
    · exact hn
    · rw [if_neg hn] at d; cases d
  have h4 : ss = [] := by
    cases ss with
    | nil => rfl
    | cons x r => simp [schW] at f
  rw [h1, h2, h3, e, h4]
set_option maxHeartbeats 4000000 in
set_option cbv.maxSteps 10000000 in
theorem print_spec0 (tt pe pr mo : Int) (ld sd : List Dat) (htt : tt = 0) (hpe : pe = 0) (hpr : pr = 0) (hld : ld = []) (hsd : sd = []) (hf : formC ⟨tt, pe, pr, mo, [], []⟩ = true) : ESpec Tryd.prog 10 [.d (.agg [.s (.int .i64 tt), .s (.int .i64 pe), .s (.int .i64 pr), .s (.int .i64 mo), .view 10 ld, .view 5 sd])] (fun x => x = .tup [.d (.s (.str [])), .d (.s (.int .i64 0))]) := by
  obtain ⟨uPFormed, huPFormed⟩ : ∃ u : List Dat → List Dat → Bool, u = isCf := ⟨_, rfl⟩
  obtain ⟨uPFormed1, huPFormed1⟩ : ∃ u : Int → Int → Int → Int → List Dat → List Dat → Bool, u = fun a b c d ls ss => formC (cfOf a b c d ls ss) := ⟨_, rfl⟩
  have hG : TblOK Tryd.prog [(12, .p (φPFormed uPFormed uPFormed1)), (23, .m (φBLen0 )), (24, .m (φBString0 ))] := ⟨(by rw [huPFormed, huPFormed1]; exact φPFormed_ok), φBLen0_ok, φBString0_ok, trivial⟩
  refine ESpec.enter Tryd.func10 (by kernel_rfl) rfl (Nat.le_of_ble_eq_true rfl) fun hok cx hnt hfr => ?_
  obtain ⟨F, hF⟩ := real_ex
  refine AK.runTs hF tabOK hmix hnt hfr [4,6,8,10,15,31] false _ hG ?_
  conv => arg 4; cbv
  have q0 : uPFormed ld sd = true := by rw [huPFormed, hld, hsd]; rfl
  have e0 : uPFormed1 tt pe pr mo ld sd = true := by
    rw [huPFormed1]
    show formC (cfOf tt pe pr mo ld sd) = true
    rw [cfOf, hld, hsd]
    exact hf
  rw [e0]
  refine AKt.need q0 fun _ => AKt.no (by rw [hF]; rfl) ?_
  repeat' (first | with_reducible (first | refine AKt.have ?_ | refine AKt.tt ?_ | refine AKt.ff ?_ | refine AKt.yes (by assumption) ?_ | refine AKt.no (by assumption) ?_ | refine AKt.node (fun hb => ?_) (fun hb => ?_) | refine AKt.need ?_ (fun hb => ?_) | refine AKt.leaf ?_) | ((with_reducible show _ = true); assumption))
  refine AK.runTs hF tabOK hmix hnt hfr [6,8,10,15,31] false _ hG ?_
  conv => arg 4; cbv
  refine AKt.no (by rw [hF, htt]; rfl) ?_
  repeat' (first | with_reducible (first | refine AKt.have ?_ | refine AKt.tt ?_ | refine AKt.ff ?_ | refine AKt.yes (by assumption) ?_ | refine AKt.no (by assumption) ?_ | refine AKt.node (fun hb => ?_) (fun hb => ?_) | refine AKt.need ?_ (fun hb => ?_) | refine AKt.leaf ?_) | ((with_reducible show _ = true); assumption))
  refine AK.runTs hF tabOK hmix hnt hfr [8,10,15,31] false _ hG ?_
  conv => arg 4; cbv
  refine AKt.no (by rw [hF, hpe]; rfl) ?_
  repeat' (first | with_reducible (first | refine AKt.have ?_ | refine AKt.tt ?_ | refine AKt.ff ?_ | refine AKt.yes (by assumption) ?_ | refine AKt.no (by assumption) ?_ | refine AKt.node (fun hb => ?_) (fun hb => ?_) | refine AKt.need ?_ (fun hb => ?_) | refine AKt.leaf ?_) | ((with_reducible show _ = true); assumption))
  refine AK.runTs hF tabOK hmix hnt hfr [10,15,31] false _ hG ?_
  conv => arg 4; cbv
  refine AKt.no (by rw [hF, hpr]; rfl) ?_
  repeat' (first | with_reducible (first | refine AKt.have ?_ | refine AKt.tt ?_ | refine AKt.ff ?_ | refine AKt.yes (by assumption) ?_ | refine AKt.no (by assumption) ?_ | refine AKt.node (fun hb => ?_) (fun hb => ?_) | refine AKt.need ?_ (fun hb => ?_) | refine AKt.leaf ?_) | ((with_reducible show _ = true); assumption))
  refine AK.runTs hF tabOK hmix hnt hfr [15,31] false _ hG ?_
  conv => arg 4; cbv
  repeat' (first | with_reducible (first | refine AKt.have ?_ | refine AKt.tt ?_ | refine AKt.ff ?_ | refine AKt.yes (by assumption) ?_ | refine AKt.no (by assumption) ?_ | refine AKt.node (fun hb => ?_) (fun hb => ?_) | refine AKt.need ?_ (fun hb => ?_) | refine AKt.leaf ?_) | ((with_reducible show _ = true); assumption))
  refine AKp.unroll 1 fun Ja0 na0 => ?_
  refine AK.runTs hF tabOK hmix hnt hfr [15,31] false _ hG ?_
  conv => arg 4; cbv
  refine AKt.no (by rw [hF, hld]; rfl) ?_
  repeat' (first | with_reducible (first | refine AKt.have ?_ | refine AKt.tt ?_ | refine AKt.ff ?_ | refine AKt.yes (by assumption) ?_ | refine AKt.no (by assumption) ?_ | refine AKt.node (fun hb => ?_) (fun hb => ?_) | refine AKt.need ?_ (fun hb => ?_) | refine AKt.leaf ?_) | ((with_reducible show _ = true); assumption))
  refine AK.runTs hF tabOK hmix hnt hfr [31] false _ hG ?_
  conv => arg 4; cbv
  repeat' (first | with_reducible (first | refine AKt.have ?_ | refine AKt.tt ?_ | refine AKt.ff ?_ | refine AKt.yes (by assumption) ?_ | refine AKt.no (by assumption) ?_ | refine AKt.node (fun hb => ?_) (fun hb => ?_) | refine AKt.need ?_ (fun hb => ?_) | refine AKt.leaf ?_) | ((with_reducible show _ = true); assumption))
  refine AKp.unroll 1 fun Jb0 nb0 => ?_
  refine AK.runTs hF tabOK hmix hnt hfr [31] false _ hG ?_
  conv => arg 4; cbv
  refine AKt.no (by rw [hF, hsd]; rfl) ?_
  repeat' (first | with_reducible (first | refine AKt.have ?_ | refine AKt.tt ?_ | refine AKt.ff ?_ | refine AKt.yes (by assumption) ?_ | refine AKt.no (by assumption) ?_ | refine AKt.node (fun hb => ?_) (fun hb => ?_) | refine AKt.need ?_ (fun hb => ?_) | refine AKt.leaf ?_) | ((with_reducible show _ = true); assumption))
  refine AK.runT hF tabOK hmix hnt hfr false _ hG ?_
  conv => arg 4; cbv
  refine AKt.need rfl fun _ => ?_
  refine AKt.no (by rw [hF]; rfl) ?_
  refine AKt.need rfl fun _ => ?_
  repeat' (first | with_reducible (first | refine AKt.have ?_ | refine AKt.tt ?_ | refine AKt.ff ?_ | refine AKt.yes (by assumption) ?_ | refine AKt.no (by assumption) ?_ | refine AKt.node (fun hb => ?_) (fun hb => ?_) | refine AKt.need ?_ (fun hb => ?_) | refine AKt.leaf ?_) | ((with_reducible show _ = true); assumption))
  refine AKp.doneE tabOK hfr (by rfl) ?_
  show _ = _
  simp only [tupAV]
theorem print_spec (c : Cf) (hp : smallF c = true) : ESpec Tryd.prog 10 [.d (.agg [.s (.int .i64 c.tt), .s (.int .i64 c.pe), .s (.int .i64 c.pr), .s (.int .i64 c.mo), .view 10 (lvDs c.ls), .view 5 (smDs c.ss)])] (fun x => x = .tup [.d (.s (.str (prS c))), .d (.s (.int .i64 (prE c)))]) := by
  by_cases h : formC c = true ∧ cfW c = []
  · obtain ⟨h1, h2⟩ := h
    have e1 : prS c = [] := by rw [prS, if_neg (by rw [h1]; decide), h2]; rfl
    have e2 : prE c = 0 := by rw [prE, if_neg (by rw [h1]; decide), h2]; rfl
    rw [e1, e2]
    have e3 := cfW_nil h2
    rw [e3] at h1 ⊢
    exact print_spec0 0 0 0 c.mo [] [] rfl rfl rfl rfl rfl h1
  · exact print_spec1 c hp fun a b => h ⟨a, b⟩
theorem printD_spec (a b c d : Int) (ls ss : List Dat) (h : smP a b c d ls ss = true) : ESpec Tryd.prog 10 [.d (.agg [.s (.int .i64 a), .s (.int .i64 b), .s (.int .i64 c), .s (.int .i64 d), .view 10 ls, .view 5 ss])] (fun x => x = .tup [.d (.s (.str (prS ⟨a, b, c, d, unLv ls, unSm ss⟩))), .d (.s (.int .i64 (prE ⟨a, b, c, d, unLv ls, unSm ss⟩)))]) := by
  simp only [smP, isCf0, Bool.and_eq_true] at h
  have := print_spec ⟨a, b, c, d, unLv ls, unSm ss⟩ h.2
  simp only [lv_un h.1.1, sm_un h.1.2] at this
  exact this
def φPrint (p : Int → Int → Int → Int → List Dat → List Dat → Bool) (u : Int → Int → Int → Int → List Dat → List Dat → Wd) (e : Int → Int → Int → Int → List Dat → List Dat → Int) : List AV → Option (Bool × AV)
  | [.d (.agg [.s (.int .i64 a), .s (.int .i64 b), .s (.int .i64 c), .s (.int .i64 d), .view 10 ls, .view 5 ss])] => some (p a b c d ls ss, .tup [.d (.s (.str (u a b c d ls ss))), .d (.s (.int .i64 (e a b c d ls ss)))])
  | _ => none
theorem φPrint_ok : SpOK Tryd.prog 10 (φPrint (smP) (fun a b c d ls ss => prS ⟨a, b, c, d, unLv ls, unSm ss⟩) (fun a b c d ls ss => prE ⟨a, b, c, d, unLv ls, unSm ss⟩)) := by
  intro xs b x h hb
  unfold φPrint at h
  split at h
  · simp only [Option.some.injEq, Prod.mk.injEq] at h
    obtain ⟨rfl, rfl⟩ := h
    exact printD_spec _ _ _ _ _ _ hb
  · cases h
end Go.Proofs.YtflpgbkdjelaaaaDoor

