/- The library of this claim and its walks, part 43, joined out of smaller texts. No statement stands in it. -/
import Derived.Test.YtflpgbkdjelaaaaDoorUaM39
import Derived.Test.YtflpgbkdjelaaaaDoorUaM40
import Derived.Test.YtflpgbkdjelaaaaDoorUaM42
/- The document's Print: the walk. -/
namespace Go.Proofs.YtflpgbkdjelaaaaDoor
open Go Go.Proofs Go.Ua Go.Extern
set_option linter.unusedVariables false
set_option linter.unusedSimpArgs false
set_option maxRecDepth 10000
def txt (l : List Wd) : Wd := (l.map (fun w => w ++ [10])).flatten
theorem txt_snoc (l : List Wd) (w : Wd) : txt (l ++ [w]) = txt l ++ (w ++ [10]) := by simp [txt]
theorem txt_app (a b : List Wd) : txt (a ++ b) = txt a ++ txt b := by simp [txt]
def rprE (c : Cf) : Int := if formR c = false then 2 else if 65536 < (txt (linesR c)).length then 3 else 0
def rprS (c : Cf) : Wd := if formR c = false then [] else if 65536 < (txt (linesR c)).length then [] else txt (linesR c)

set_option maxHeartbeats 8000000 in
set_option cbv.maxSteps 10000000 in
theorem rprint_spec (c : Cf) (hp : smallF c = true) : ESpec Tryd.prog 11 [.d (.agg [.s (.int .i64 c.tt), .s (.int .i64 c.pe), .s (.int .i64 c.pr), .s (.int .i64 c.mo), .view 10 (lvDs c.ls), .view 5 (smDs c.ss)])] (fun x => x = .tup [.d (.s (.str (rprS c))), .d (.s (.int .i64 (rprE c)))]) := by
  obtain ⟨uRFormed, huRFormed⟩ : ∃ u : Int → Int → Int → Int → List Dat → List Dat → Bool, u = smP := ⟨_, rfl⟩
  obtain ⟨uRFormed1, huRFormed1⟩ : ∃ u : Int → Int → Int → Int → List Dat → List Dat → Bool, u = fun a b c d ls ss => formR ⟨a, b, c, d, unLv ls, unSm ss⟩ := ⟨_, rfl⟩
  obtain ⟨uRLines, huRLines⟩ : ∃ u : Int → Int → Int → Int → List Dat → List Dat → Bool, u = lsPP := ⟨_, rfl⟩
  obtain ⟨uRLines1, huRLines1⟩ : ∃ u : Int → Int → Int → Int → List Dat → List Dat → List Dat, u = fun a b c d ls ss => strDs (linesR ⟨a, b, c, d, unLv ls, unSm ss⟩) := ⟨_, rfl⟩
  have hG : TblOK Tryd.prog [(13, .p (φRFormed uRFormed uRFormed1)), (25, .p (φRLines uRLines uRLines1))] := ⟨(by rw [huRFormed, huRFormed1]; exact φRFormed_ok), (by rw [huRLines, huRLines1]; exact φRLines_ok), trivial⟩
  obtain ⟨ZS, hZS⟩ : ∃ z, z = rprS c := ⟨_, rfl⟩
  obtain ⟨ZE, hZE⟩ : ∃ z, z = rprE c := ⟨_, rfl⟩
  rw [← hZS, ← hZE]
  obtain ⟨l, hl⟩ : ∃ l, l = linesR c := ⟨_, rfl⟩
  obtain ⟨B, hB⟩ : ∃ z, z = formR c := ⟨_, rfl⟩
  unfold rprS at hZS
  unfold rprE at hZE
  rw [← hl, ← hB] at hZS hZE
  have hlb := lnB_small hp
  have hlen := @lines_len c hp
  rw [← hl] at hlen
  obtain ⟨tt, pe, pr, mo, ls, ss⟩ := c
  simp only at hlen ⊢
  obtain ⟨ld, hld⟩ : ∃ z, z = lvDs ls := ⟨_, rfl⟩
  obtain ⟨sd, hsd⟩ : ∃ z, z = smDs ss := ⟨_, rfl⟩
  rw [← hld, ← hsd]
  have hul : unLv ld = ls := by rw [hld, un_lv]
  have hus : unSm sd = ss := by rw [hsd, un_sm]
  have q0 : uRFormed tt pe pr mo ld sd = true := by
    subst huRFormed huRFormed1 huRLines huRLines1
    show (isCf0 ld sd && smallF ⟨tt, pe, pr, mo, unLv ld, unSm sd⟩) = true
    rw [hul, hus, hp, isCf0, hld, hsd, is_lv, is_sm]
    rfl
  have e0 : uRFormed1 tt pe pr mo ld sd = B := by
    rw [huRFormed1]
    show formR ⟨tt, pe, pr, mo, unLv ld, unSm sd⟩ = _
    rw [hul, hus, hB]
  have q1 : uRLines tt pe pr mo ld sd = true := by
    subst huRFormed huRFormed1 huRLines huRLines1
    show (isCf0 ld sd && lnB ⟨tt, pe, pr, mo, unLv ld, unSm sd⟩) = true
    rw [hul, hus, hlb, isCf0, hld, hsd, is_lv, is_sm]
    rfl
  have e1 : uRLines1 tt pe pr mo ld sd = strDs l := by
    rw [huRLines1]
    show strDs (linesR ⟨tt, pe, pr, mo, unLv ld, unSm sd⟩) = _
    rw [hul, hus, hl]
  refine ESpec.enter Tryd.func11 (by kernel_rfl) rfl (Nat.le_of_ble_eq_true rfl) fun hok cx hnt hfr => ?_
  obtain ⟨F, hF⟩ := real_ex
  refine AK.runT hF tabOK hmix hnt hfr false _ hG ?_
  conv => arg 4; cbv
  obtain ⟨es, hes⟩ : ∃ z, z = strDs l := ⟨_, rfl⟩
  rw [e0, e1, ← hes]
  have hel : es.length = l.length := by rw [hes, strDs_length]
  have hlen2 : ∀ w, w ∈ l → w.length ≤ 10000 := by
    refine hlen ?_ ?_ hok.1.1.2 hok.1.2.1.2 hok.1.2.2.1.2 hok.1.2.2.2.1.2
    · intro x hx
      have hdok : Dok x.dat := Doks_iff.1 hok.1.2.2.2.2.1.2 _ (by rw [hld]; exact List.mem_map.2 ⟨x, hx, rfl⟩)
      exact ⟨hdok.2.2.1.2, hdok.2.2.2.1.2, hdok.2.2.2.2.1.2, hdok.2.2.2.2.2.1.2, hdok.2.2.2.2.2.2.1.2, hdok.2.2.2.2.2.2.2.1.2, hdok.2.2.2.2.2.2.2.2.1.2, hdok.2.2.2.2.2.2.2.2.2.1.2⟩
    · intro x hx
      have hdok : Dok x.dat := Doks_iff.1 hok.1.2.2.2.2.2.1.2 _ (by rw [hsd]; exact List.mem_map.2 ⟨x, hx, rfl⟩)
      exact hdok.2.2.1.2
  refine AKt.need q0 fun _ => ?_
  refine AKt.node (fun c1 => ?_) (fun c1 => ?_)
  · have e : B = false := by rw [hF, f_not] at c1; simpa using c1
    repeat' (first | with_reducible (first | refine AKt.have ?_ | refine AKt.tt ?_ | refine AKt.ff ?_ | refine AKt.yes (by assumption) ?_ | refine AKt.no (by assumption) ?_ | refine AKt.node (fun hb => ?_) (fun hb => ?_) | refine AKt.need ?_ (fun hb => ?_) | refine AKt.leaf ?_) | ((with_reducible show _ = true); assumption))
    refine AKp.doneE tabOK hfr (by rfl) ?_
    show _ = _
    simp only [tupAV]
    rw [hZS, hZE, if_pos e, if_pos e]
  have e : B = true := by rw [hF, f_not] at c1; simpa using c1
  rw [if_neg (by rw [e]; decide)] at hZS hZE
  repeat' (first | with_reducible (first | refine AKt.have ?_ | refine AKt.tt ?_ | refine AKt.ff ?_ | refine AKt.yes (by assumption) ?_ | refine AKt.no (by assumption) ?_ | refine AKt.node (fun hb => ?_) (fun hb => ?_) | refine AKt.need ?_ (fun hb => ?_) | refine AKt.leaf ?_) | ((with_reducible show _ = true); assumption))
  refine AKp.bound 5 rfl fun hdk => ?_
  have hbl : l.length ≤ 9223372036854775807 := by
    have h1 : es.length ≤ maxLen := hdk.1
    have e : maxLen = 9223372036854775807 := rfl
    omega
  clear hdk
  refine AKp.enterLoop 10 ?_
  conv => arg 7; cbv
  refine AKl.invT hF tabOK hmix hnt hfr false _ hG (fun n vs hs => ∃ (i : Nat) (iv : Int) (s : Wd), i + n = l.length ∧ iv = i ∧ s = txt (l.take i) ∧ s.length ≤ 65536 ∧ vs = [(6, .d (.s (.int .i64 iv))), (4, .d (.s (.str s)))] ∧ hs = []) l.length ⟨0, _, _, by omega, rfl, by rfl, Nat.zero_le _, rfl, rfl⟩ (by repeat (first | exact True.intro | refine ⟨⟨rfl, rfl⟩, ?_⟩)) (by repeat (first | exact True.intro | refine ⟨⟨rfl, rfl, rfl⟩, ?_⟩)) ?_
  rintro J n vs hs hJ ⟨i, iv, s, hi, hiv, hs, hsl, rfl, rfl⟩
  conv => arg 4; cbv
  refine AKt.node (fun hb => ?_) (fun hb => ?_)
  rotate_left
  · have hge : ¬ i < l.length := by rw [hF, f_ltI, f_lenD, hel, hiv] at hb; have := of_decide_eq_false hb; omega
    rw [List.take_of_length_le (by omega)] at hs
    repeat' (first | with_reducible (first | refine AKt.have ?_ | refine AKt.tt ?_ | refine AKt.ff ?_ | refine AKt.yes (by assumption) ?_ | refine AKt.no (by assumption) ?_ | refine AKt.node (fun hb => ?_) (fun hb => ?_) | refine AKt.need ?_ (fun hb => ?_) | refine AKt.leaf ?_) | ((with_reducible show _ = true); assumption))
    refine AKp.doneE tabOK hfr (by rfl) ?_
    show _ = _
    simp only [tupAV]
    rw [hZS, hZE, ← hs, if_neg (by omega), if_neg (by omega)]
  have hlt : i < l.length := by rw [hF, f_ltI, f_lenD, hel, hiv] at hb; have := of_decide_eq_true hb; omega
  obtain ⟨x, hx⟩ : ∃ x, l[i]? = some x := ⟨_, List.getElem?_eq_getElem hlt⟩
  have hxl := hlen2 x (List.mem_of_getElem? hx)
  have h1 : F .hasD es iv [.str] = true := by rw [hes, hiv]; exact t_hasG hF hlt
  have h2 : F .strA es iv 0 = x := by rw [hes, hiv, t_strG hF, List.getD_eq_getElem?_getD, hx]; rfl
  rw [h2]
  have hsn : txt (l.take (i + 1)) = s ++ (x ++ [10]) := by rw [List.take_add_one, hx, hs]; exact txt_snoc _ _
  have hz : (l.map (fun w => w ++ [10])).flatten = txt l := rfl
  have hca1 : F .hasCat x [10] = true := t_hasCat hF (by simp; omega)
  have hap : F .app x [10] = x ++ [10] := t_app hF _ _
  rw [hap]
  obtain ⟨y, hy⟩ : ∃ y, y = x ++ [10] := ⟨_, rfl⟩
  have hyl : y.length = x.length + 1 := by rw [hy]; simp
  rw [← hy]
  have hca2 : F .hasCat s y = true := t_hasCat hF (by omega)
  obtain ⟨s2, hs2⟩ : ∃ z, z = F .app s y := ⟨_, rfl⟩
  have hs3 : s2 = txt (l.take (i + 1)) := by rw [hs2, t_app hF, hsn, hy]
  rw [← hs2]
  refine AKt.need h1 fun _ => AKt.need hca1 fun _ => AKt.need hca2 fun _ => ?_
  refine AKt.node (fun hc => ?_) (fun hc => ?_)
  · have hg : 65536 < s2.length := by rw [hF, f_ltI, f_lenS] at hc; have := of_decide_eq_true hc; omega
    have hg2 : 65536 < (txt l).length := by
      have : txt l = s2 ++ txt (l.drop (i + 1)) := by rw [hs3, ← txt_app, List.take_append_drop]
      rw [this, List.length_append]
      omega
    repeat' (first | with_reducible (first | refine AKt.have ?_ | refine AKt.tt ?_ | refine AKt.ff ?_ | refine AKt.yes (by assumption) ?_ | refine AKt.no (by assumption) ?_ | refine AKt.node (fun hb => ?_) (fun hb => ?_) | refine AKt.need ?_ (fun hb => ?_) | refine AKt.leaf ?_) | ((with_reducible show _ = true); assumption))
    refine AKp.doneE tabOK hfr (by rfl) ?_
    show _ = _
    simp only [tupAV]
    rw [hZS, hZE, if_pos hg2, if_pos hg2]
  have hg : s2.length ≤ 65536 := by rw [hF, f_ltI, f_lenS] at hc; have := of_decide_eq_false hc; omega
  repeat' (first | with_reducible (first | refine AKt.have ?_ | refine AKt.tt ?_ | refine AKt.ff ?_ | refine AKt.yes (by assumption) ?_ | refine AKt.no (by assumption) ?_ | refine AKt.node (fun hb => ?_) (fun hb => ?_) | refine AKt.need ?_ (fun hb => ?_) | refine AKt.leaf ?_) | ((with_reducible show _ = true); assumption))
  refine AKp.again _ hfr (by repeat (first | exact True.intro | refine ⟨⟨rfl, rfl⟩, ?_⟩)) (by repeat (first | exact True.intro | refine ⟨⟨rfl, rfl, rfl⟩, ?_⟩)) (hJ (n - 1) _ _ (by omega) ⟨i + 1, _, s2, by omega, inc_i hF hiv (by omega), hs3, hg, rfl, rfl⟩)
theorem rprintD_spec (a b c d : Int) (ls ss : List Dat) (h : smP a b c d ls ss = true) : ESpec Tryd.prog 11 [.d (.agg [.s (.int .i64 a), .s (.int .i64 b), .s (.int .i64 c), .s (.int .i64 d), .view 10 ls, .view 5 ss])] (fun x => x = .tup [.d (.s (.str (rprS ⟨a, b, c, d, unLv ls, unSm ss⟩))), .d (.s (.int .i64 (rprE ⟨a, b, c, d, unLv ls, unSm ss⟩)))]) := by
  simp only [smP, isCf0, Bool.and_eq_true] at h
  have := rprint_spec ⟨a, b, c, d, unLv ls, unSm ss⟩ h.2
  simp only [lv_un h.1.1, sm_un h.1.2] at this
  exact this
def φRPrint (p : Int → Int → Int → Int → List Dat → List Dat → Bool) (u : Int → Int → Int → Int → List Dat → List Dat → Wd) (e : Int → Int → Int → Int → List Dat → List Dat → Int) : List AV → Option (Bool × AV)
  | [.d (.agg [.s (.int .i64 a), .s (.int .i64 b), .s (.int .i64 c), .s (.int .i64 d), .view 10 ls, .view 5 ss])] => some (p a b c d ls ss, .tup [.d (.s (.str (u a b c d ls ss))), .d (.s (.int .i64 (e a b c d ls ss)))])
  | _ => none
theorem φRPrint_ok : SpOK Tryd.prog 11 (φRPrint (smP) (fun a b c d ls ss => rprS ⟨a, b, c, d, unLv ls, unSm ss⟩) (fun a b c d ls ss => rprE ⟨a, b, c, d, unLv ls, unSm ss⟩)) := by
  intro xs b x h hb
  unfold φRPrint at h
  split at h
  · simp only [Option.some.injEq, Prod.mk.injEq] at h
    obtain ⟨rfl, rfl⟩ := h
    exact rprintD_spec _ _ _ _ _ _ hb
  · cases h
end Go.Proofs.YtflpgbkdjelaaaaDoor

/- Chapter 11: what is awake; any configuration is printed, or refused, as the document says. -/
namespace Go.Proofs.YtflpgbkdjelaaaaDoor
open Go Go.Proofs Go.Ua Go.Extern Go.Shelf
set_option linter.unusedVariables false
set_option linter.unusedSimpArgs false
set_option maxRecDepth 10000

theorem txt_told {c : Cf} (h : formC c = true) : txt (linesR c) = txtW (cfW c) := by
  rw [(lines_told h).1]
  simp only [txt, txtW, List.map_map]
  rfl
theorem prS_eq (c : Cf) : prS c = rprS c := by
  unfold prS rprS
  rw [formR_eq]
  cases h : formC c with
  | false => rfl
  | true => rw [txt_told h]
theorem prE_eq (c : Cf) : prE c = rprE c := by
  unfold prE rprE
  rw [formR_eq]
  cases h : formC c with
  | false => rfl
  | true => rw [txt_told h]

def awL : List Dat := [.agg [.s (.str [97]), .s (.int .i64 2), .s (.int .i64 5), .s (.int .i64 0), .s (.int .i64 (-1)), .s (.int .i64 0), .s (.int .i64 0), .s (.int .i64 0), .s (.int .i64 0), .s (.int .i64 0)]]
def awW : Wd := [116, 111, 116, 97, 108, 32, 49, 48, 10, 108, 101, 118, 101, 108, 32, 97, 32, 53, 32, 48, 32, 97, 108, 108, 32, 114, 101, 106, 101, 99, 116, 10]
def awC : Cf := ⟨10, 0, 0, 0, [⟨[97], 2, 5, 0, -1, 0, 0, 0, 0, 0⟩], []⟩
theorem awP : smP 10 0 0 0 awL [] = true := by kernel_rfl
theorem awF : formC awC = true := by kernel_rfl
theorem awT : txtW (cfW awC) = awW := by kernel_rfl
theorem awS : prS awC = awW := by
  rw [prS, if_neg (by rw [awF]; decide), awT]
  exact if_neg (by decide)
theorem awE : prE awC = 0 := by
  rw [prE, if_neg (by rw [awF]; decide), awT]
  exact if_neg (by decide)
set_option cbv.maxSteps 10000000 in
theorem awake11_spec : ESpec Tryd.prog 7 [] (fun x => x = .d (.s (.bool true))) := by
  obtain ⟨uPrint, huPrint⟩ : ∃ u : Int → Int → Int → Int → List Dat → List Dat → Bool, u = smP := ⟨_, rfl⟩
  obtain ⟨uPrint1, huPrint1⟩ : ∃ u : Int → Int → Int → Int → List Dat → List Dat → Wd, u = fun a b c d ls ss => prS ⟨a, b, c, d, unLv ls, unSm ss⟩ := ⟨_, rfl⟩
  obtain ⟨uPrint2, huPrint2⟩ : ∃ u : Int → Int → Int → Int → List Dat → List Dat → Int, u = fun a b c d ls ss => prE ⟨a, b, c, d, unLv ls, unSm ss⟩ := ⟨_, rfl⟩
  have hG : TblOK Tryd.prog [(10, .p (φPrint uPrint uPrint1 uPrint2))] := ⟨(by rw [huPrint, huPrint1, huPrint2]; exact φPrint_ok), trivial⟩
  refine ESpec.enter Tryd.func7 (by kernel_rfl) rfl (Nat.le_of_ble_eq_true rfl) fun hok cx hnt hfr => ?_
  obtain ⟨F, hF⟩ := real_ex
  refine AK.runT hF tabOK hmix hnt hfr true _ hG ?_
  conv => arg 4; cbv
  have q1 : uPrint 10 0 0 0 awL [] = true := by rw [huPrint]; exact awP
  have q2 : uPrint1 10 0 0 0 awL [] = awW := by rw [huPrint1]; exact awS
  have q3 : uPrint2 10 0 0 0 awL [] = 0 := by rw [huPrint2]; exact awE
  change AKt _ _ _ (.need (uPrint 10 0 0 0 awL []) _)
  refine AKt.need q1 fun _ => ?_
  refine AKt.yes (show F .eqI (uPrint2 10 0 0 0 awL []) 0 = true by rw [q3, hF]; rfl) ?_
  repeat' (first | with_reducible (first | refine AKt.have ?_ | refine AKt.tt ?_ | refine AKt.ff ?_ | refine AKt.yes (by assumption) ?_ | refine AKt.no (by assumption) ?_ | refine AKt.node (fun hb => ?_) (fun hb => ?_) | refine AKt.need ?_ (fun hb => ?_) | refine AKt.leaf ?_) | ((with_reducible show _ = true); assumption))
  refine AKp.doneE tabOK hfr (by rfl) ?_
  show _ = _
  simp only [tupAV]
  have q4 : F .eqS (uPrint1 10 0 0 0 awL []) awW = true := by rw [q2, hF]; rfl
  exact congrArg (fun z => AV.d (.s (.bool z))) q4
def φAwake11  : List AV → Option (Bool × AV)
  | [] => some (true, .d (.s (.bool true)))
  | _ => none
theorem φAwake11_ok : SpOK Tryd.prog 7 (φAwake11 ) := by
  intro xs b x h hb
  unfold φAwake11 at h
  split at h
  · simp only [Option.some.injEq, Prod.mk.injEq] at h
    obtain ⟨rfl, rfl⟩ := h
    exact awake11_spec
  · cases h
set_option maxHeartbeats 4000000 in
set_option cbv.maxSteps 10000000 in
theorem printAll_spec (a b c d : Int) (ls ss : List Dat) (h : isCf0 ls ss = true) : ESpec Tryd.prog 3 [.d (.agg [.s (.int .i64 a), .s (.int .i64 b), .s (.int .i64 c), .s (.int .i64 d), .view 10 ls, .view 5 ss])] (fun x => x = .d (.s (.bool true))) := by
  obtain ⟨uSmallC, huSmallC⟩ : ∃ u : List Dat → List Dat → Bool, u = isCf0 := ⟨_, rfl⟩
  obtain ⟨uSmallC1, huSmallC1⟩ : ∃ u : Int → Int → Int → Int → List Dat → List Dat → Bool, u = fun a b c d ls ss => smallF ⟨a, b, c, d, unLv ls, unSm ss⟩ := ⟨_, rfl⟩
  obtain ⟨uCopyC, huCopyC⟩ : ∃ u : Int → Int → Int → Int → List Dat → List Dat → Bool, u = fun a b c d ls ss => isCf0 ls ss && cpC ⟨a, b, c, d, unLv ls, unSm ss⟩ := ⟨_, rfl⟩
  obtain ⟨uPrint, huPrint⟩ : ∃ u : Int → Int → Int → Int → List Dat → List Dat → Bool, u = smP := ⟨_, rfl⟩
  obtain ⟨uPrint1, huPrint1⟩ : ∃ u : Int → Int → Int → Int → List Dat → List Dat → Wd, u = fun a b c d ls ss => prS ⟨a, b, c, d, unLv ls, unSm ss⟩ := ⟨_, rfl⟩
  obtain ⟨uPrint2, huPrint2⟩ : ∃ u : Int → Int → Int → Int → List Dat → List Dat → Int, u = fun a b c d ls ss => prE ⟨a, b, c, d, unLv ls, unSm ss⟩ := ⟨_, rfl⟩
  obtain ⟨uRPrint, huRPrint⟩ : ∃ u : Int → Int → Int → Int → List Dat → List Dat → Bool, u = smP := ⟨_, rfl⟩
  obtain ⟨uRPrint1, huRPrint1⟩ : ∃ u : Int → Int → Int → Int → List Dat → List Dat → Wd, u = fun a b c d ls ss => rprS ⟨a, b, c, d, unLv ls, unSm ss⟩ := ⟨_, rfl⟩
  obtain ⟨uRPrint2, huRPrint2⟩ : ∃ u : Int → Int → Int → Int → List Dat → List Dat → Int, u = fun a b c d ls ss => rprE ⟨a, b, c, d, unLv ls, unSm ss⟩ := ⟨_, rfl⟩
  obtain ⟨uPFormed, huPFormed⟩ : ∃ u : List Dat → List Dat → Bool, u = isCf := ⟨_, rfl⟩
  obtain ⟨uPFormed1, huPFormed1⟩ : ∃ u : Int → Int → Int → Int → List Dat → List Dat → Bool, u = fun a b c d ls ss => formC (cfOf a b c d ls ss) := ⟨_, rfl⟩
  obtain ⟨uRFormed, huRFormed⟩ : ∃ u : Int → Int → Int → Int → List Dat → List Dat → Bool, u = smP := ⟨_, rfl⟩
  obtain ⟨uRFormed1, huRFormed1⟩ : ∃ u : Int → Int → Int → Int → List Dat → List Dat → Bool, u = fun a b c d ls ss => formR ⟨a, b, c, d, unLv ls, unSm ss⟩ := ⟨_, rfl⟩
  obtain ⟨uSameCf, huSameCf⟩ : ∃ u : List Dat → List Dat → List Dat → List Dat → Bool, u = fun ls ss ks ts => isCf0 ls ss && isCf0 ks ts := ⟨_, rfl⟩
  obtain ⟨uSameCf1, huSameCf1⟩ : ∃ u : Int → Int → Int → Int → List Dat → List Dat → Int → Int → Int → Int → List Dat → List Dat → Bool, u = fun a b c d ls ss a2 b2 c2 d2 ks ts => sameC ⟨a, b, c, d, unLv ls, unSm ss⟩ ⟨a2, b2, c2, d2, unLv ks, unSm ts⟩ := ⟨_, rfl⟩
  have hG : TblOK Tryd.prog [(7, .p (φAwake11 )), (8, .p (φSmallC uSmallC uSmallC1)), (9, .p (φCopyC uCopyC)), (10, .p (φPrint uPrint uPrint1 uPrint2)), (11, .p (φRPrint uRPrint uRPrint1 uRPrint2)), (12, .p (φPFormed uPFormed uPFormed1)), (13, .p (φRFormed uRFormed uRFormed1)), (14, .p (φSameCf uSameCf uSameCf1))] := ⟨φAwake11_ok, (by rw [huSmallC, huSmallC1]; exact φSmallC_ok), (by rw [huCopyC]; exact φCopyC_ok), (by rw [huPrint, huPrint1, huPrint2]; exact φPrint_ok), (by rw [huRPrint, huRPrint1, huRPrint2]; exact φRPrint_ok), (by rw [huPFormed, huPFormed1]; exact φPFormed_ok), (by rw [huRFormed, huRFormed1]; exact φRFormed_ok), (by rw [huSameCf, huSameCf1]; exact φSameCf_ok), trivial⟩
  refine ESpec.enter Tryd.func3 (by kernel_rfl) rfl (Nat.le_of_ble_eq_true rfl) fun hok cx hnt hfr => ?_
  obtain ⟨F, hF⟩ := real_ex
  refine AK.runT hF tabOK hmix hnt hfr true _ hG ?_
  conv => arg 4; cbv
  refine AKt.need rfl fun _ => AKt.no (by rw [hF]; rfl) ?_
  refine AKt.need (by rw [huSmallC]; exact h) fun _ => ?_
  refine AKt.node (fun c1 => ?_) (fun c1 => ?_)
  · repeat' (first | with_reducible (first | refine AKt.have ?_ | refine AKt.tt ?_ | refine AKt.ff ?_ | refine AKt.yes (by assumption) ?_ | refine AKt.no (by assumption) ?_ | refine AKt.node (fun hb => ?_) (fun hb => ?_) | refine AKt.need ?_ (fun hb => ?_) | refine AKt.leaf ?_) | ((with_reducible show _ = true); assumption))
    refine AKp.doneE tabOK hfr (by rfl) ?_
    show _ = _
    simp only [tupAV]
  have hsm : smallF ⟨a, b, c, d, unLv ls, unSm ss⟩ = true := by
    rw [hF, f_not, huSmallC1] at c1
    simpa using c1
  have hP : smP a b c d ls ss = true := by rw [smP, h, hsm]; rfl
  refine AKt.need (by rw [huCopyC]; show (isCf0 ls ss && cpC _) = true; rw [h, cp_small hsm]; rfl) fun _ => ?_
  refine AKt.need (by rw [huPrint]; exact hP) fun _ => AKt.need (by rw [huRPrint]; exact hP) fun _ => ?_
  have q1 : uPrint1 a b c d ls ss = uRPrint1 a b c d ls ss := by rw [huPrint1, huRPrint1]; exact prS_eq _
  have q2 : uPrint2 a b c d ls ss = uRPrint2 a b c d ls ss := by rw [huPrint2, huRPrint2]; exact prE_eq _
  have q3 : uPFormed1 a b c d ls ss = uRFormed1 a b c d ls ss := by rw [huPFormed1, huRFormed1]; exact (formR_eq _).symm
  refine AKt.yes (by rw [q1, hF, f_eqS]; exact beq_self_eq_true _) ?_
  refine AKt.yes (by rw [q2, hF, f_eqI]; exact decide_eq_true rfl) ?_
  refine AKt.need (by rw [huPFormed]; exact h) fun _ => AKt.need (by rw [huRFormed]; exact hP) fun _ => ?_
  refine AKt.yes (by rw [q3, hF, f_eqB]; exact beq_self_eq_true _) ?_
  refine AKt.need (by rw [huSameCf]; show (isCf0 ls ss && isCf0 ls ss) = true; rw [h]; rfl) fun _ => ?_
  repeat' (first | with_reducible (first | refine AKt.have ?_ | refine AKt.tt ?_ | refine AKt.ff ?_ | refine AKt.yes (by assumption) ?_ | refine AKt.no (by assumption) ?_ | refine AKt.node (fun hb => ?_) (fun hb => ?_) | refine AKt.need ?_ (fun hb => ?_) | refine AKt.leaf ?_) | ((with_reducible show _ = true); assumption))
  refine AKp.doneE tabOK hfr (by rfl) ?_
  show _ = _
  simp only [tupAV]
  rw [huSameCf1]
  exact congrArg (fun z => AV.d (.s (.bool z))) (decide_eq_true rfl)

theorem all_tk {α : Type} {p : α → Bool} {l : List α} (h : l.all p = true) (n : Nat) : (l.take n).all p = true := by
  rw [List.all_eq_true] at h ⊢
  exact fun x hx => h x (List.mem_of_mem_take hx)
theorem sum_tk {α : Type} (f : α → Nat) : ∀ (l : List α) (n : Nat), ((l.take n).map f).sum ≤ (l.map f).sum
  | [], _ => by simp
  | x :: l, 0 => by simp
  | x :: l, n + 1 => by
    have := sum_tk f l n
    simp only [List.take_succ_cons, List.map_cons, List.sum_cons]
    omega
theorem small_tk {a b c d : Int} {L : List Lv} {S : List Sm} (h : smallF ⟨a, b, c, d, L, S⟩ = true) (m n : Nat) : smallF ⟨a, b, c, d, L.take m, S.take n⟩ = true := by
  simp only [smallF, Bool.and_eq_true, decide_eq_true_eq] at h ⊢
  obtain ⟨h1, h2, h3, h4, h5⟩ := h
  have := sum_tk smN S n
  refine ⟨?_, ?_, all_tk h3 m, all_tk h4 n, by omega⟩
  · rw [List.length_take]; omega
  · rw [List.length_take]; omega
theorem form_tk {a b c d : Int} {L : List Lv} {S : List Sm} (h : formC ⟨a, b, c, d, L, S⟩ = true) (m n : Nat) : formC ⟨a, b, c, d, L.take m, S.take n⟩ = true := by
  simp only [formC, Bool.and_eq_true, decide_eq_true_eq] at h ⊢
  obtain ⟨h1, h2, h3, h4, h5, h6, h7, h8, h9⟩ := h
  refine ⟨h1, h2, h3, h4, h5, ?_, ?_, allL_take h8 m, allM_take h9 n⟩
  · rw [List.length_take]; omega
  · rw [List.length_take]; omega
theorem txtW_le {a b c d : Int} {L : List Lv} {S : List Sm} (m n : Nat) : (txtW (cfW ⟨a, b, c, d, L.take m, S.take n⟩)).length ≤ (txtW (cfW ⟨a, b, c, d, L, S⟩)).length := by
  have e1 : (txtW ((L.take m).map levW)).length ≤ (txtW (L.map levW)).length := by
    conv => rhs; rw [← List.take_append_drop m L, List.map_append, txtW_app, List.length_append]
    omega
  have e2 : (txtW (((S.take n).map schW).flatten)).length ≤ (txtW ((S.map schW).flatten)).length := by
    conv => rhs; rw [← List.take_append_drop n S, List.map_append, List.flatten_append, txtW_app, List.length_append]
    omega
  simp only [cfW, headW, txtW_app, List.length_append]
  omega
set_option maxHeartbeats 4000000 in
set_option cbv.maxSteps 10000000 in
theorem printPart_spec (a b c d m n : Int) (ls ss : List Dat) (h : isCf0 ls ss = true) : ESpec Tryd.prog 4 [.d (.agg [.s (.int .i64 a), .s (.int .i64 b), .s (.int .i64 c), .s (.int .i64 d), .view 10 ls, .view 5 ss]), .d (.s (.int .i64 m)), .d (.s (.int .i64 n))] (fun x => x = .d (.s (.bool true))) := by
  obtain ⟨uSmallC, huSmallC⟩ : ∃ u : List Dat → List Dat → Bool, u = isCf0 := ⟨_, rfl⟩
  obtain ⟨uSmallC1, huSmallC1⟩ : ∃ u : Int → Int → Int → Int → List Dat → List Dat → Bool, u = fun a b c d ls ss => smallF ⟨a, b, c, d, unLv ls, unSm ss⟩ := ⟨_, rfl⟩
  obtain ⟨uCopyC, huCopyC⟩ : ∃ u : Int → Int → Int → Int → List Dat → List Dat → Bool, u = fun a b c d ls ss => isCf0 ls ss && cpC ⟨a, b, c, d, unLv ls, unSm ss⟩ := ⟨_, rfl⟩
  obtain ⟨uPrint, huPrint⟩ : ∃ u : Int → Int → Int → Int → List Dat → List Dat → Bool, u = smP := ⟨_, rfl⟩
  obtain ⟨uPrint1, huPrint1⟩ : ∃ u : Int → Int → Int → Int → List Dat → List Dat → Wd, u = fun a b c d ls ss => prS ⟨a, b, c, d, unLv ls, unSm ss⟩ := ⟨_, rfl⟩
  obtain ⟨uPrint2, huPrint2⟩ : ∃ u : Int → Int → Int → Int → List Dat → List Dat → Int, u = fun a b c d ls ss => prE ⟨a, b, c, d, unLv ls, unSm ss⟩ := ⟨_, rfl⟩
  obtain ⟨uPFormed, huPFormed⟩ : ∃ u : List Dat → List Dat → Bool, u = isCf := ⟨_, rfl⟩
  obtain ⟨uPFormed1, huPFormed1⟩ : ∃ u : Int → Int → Int → Int → List Dat → List Dat → Bool, u = fun a b c d ls ss => formC (cfOf a b c d ls ss) := ⟨_, rfl⟩
  have hG : TblOK Tryd.prog [(7, .p (φAwake11 )), (8, .p (φSmallC uSmallC uSmallC1)), (9, .p (φCopyC uCopyC)), (10, .p (φPrint uPrint uPrint1 uPrint2)), (12, .p (φPFormed uPFormed uPFormed1))] := ⟨φAwake11_ok, (by rw [huSmallC, huSmallC1]; exact φSmallC_ok), (by rw [huCopyC]; exact φCopyC_ok), (by rw [huPrint, huPrint1, huPrint2]; exact φPrint_ok), (by rw [huPFormed, huPFormed1]; exact φPFormed_ok), trivial⟩
  refine ESpec.enter Tryd.func4 (by kernel_rfl) rfl (Nat.le_of_ble_eq_true rfl) fun hok cx hnt hfr => ?_
  obtain ⟨F, hF⟩ := real_ex
  refine AK.runT hF tabOK hmix hnt hfr true _ hG ?_
  conv => arg 4; cbv
  refine AKt.need rfl fun _ => AKt.no (by rw [hF]; rfl) ?_
  refine AKt.need (by rw [huSmallC]; exact h) fun _ => ?_
  refine AKt.node (fun c1 => ?_) (fun c1 => ?_)
  · repeat' (first | with_reducible (first | refine AKt.have ?_ | refine AKt.tt ?_ | refine AKt.ff ?_ | refine AKt.yes (by assumption) ?_ | refine AKt.no (by assumption) ?_ | refine AKt.node (fun hb => ?_) (fun hb => ?_) | refine AKt.need ?_ (fun hb => ?_) | refine AKt.leaf ?_) | ((with_reducible show _ = true); assumption))
    refine AKp.doneE tabOK hfr (by rfl) ?_
    show _ = _
    simp only [tupAV]
  have hsm : smallF ⟨a, b, c, d, unLv ls, unSm ss⟩ = true := by
    rw [hF, f_not, huSmallC1] at c1
    simpa using c1
  have hP : smP a b c d ls ss = true := by rw [smP, h, hsm]; rfl
  refine AKt.node (fun c2 => ?_) (fun c2 => ?_)
  · repeat' (first | with_reducible (first | refine AKt.have ?_ | refine AKt.tt ?_ | refine AKt.ff ?_ | refine AKt.yes (by assumption) ?_ | refine AKt.no (by assumption) ?_ | refine AKt.node (fun hb => ?_) (fun hb => ?_) | refine AKt.need ?_ (fun hb => ?_) | refine AKt.leaf ?_) | ((with_reducible show _ = true); assumption))
    refine AKp.doneE tabOK hfr (by rfl) ?_
    show _ = _
    simp only [tupAV]
  refine AKt.node (fun c3 => ?_) (fun c3 => ?_)
  · repeat' (first | with_reducible (first | refine AKt.have ?_ | refine AKt.tt ?_ | refine AKt.ff ?_ | refine AKt.yes (by assumption) ?_ | refine AKt.no (by assumption) ?_ | refine AKt.node (fun hb => ?_) (fun hb => ?_) | refine AKt.need ?_ (fun hb => ?_) | refine AKt.leaf ?_) | ((with_reducible show _ = true); assumption))
    refine AKp.doneE tabOK hfr (by rfl) ?_
    show _ = _
    simp only [tupAV]
  refine AKt.node (fun c4 => ?_) (fun c4 => ?_)
  · repeat' (first | with_reducible (first | refine AKt.have ?_ | refine AKt.tt ?_ | refine AKt.ff ?_ | refine AKt.yes (by assumption) ?_ | refine AKt.no (by assumption) ?_ | refine AKt.node (fun hb => ?_) (fun hb => ?_) | refine AKt.need ?_ (fun hb => ?_) | refine AKt.leaf ?_) | ((with_reducible show _ = true); assumption))
    refine AKp.doneE tabOK hfr (by rfl) ?_
    show _ = _
    simp only [tupAV]
  refine AKt.node (fun c5 => ?_) (fun c5 => ?_)
  · repeat' (first | with_reducible (first | refine AKt.have ?_ | refine AKt.tt ?_ | refine AKt.ff ?_ | refine AKt.yes (by assumption) ?_ | refine AKt.no (by assumption) ?_ | refine AKt.node (fun hb => ?_) (fun hb => ?_) | refine AKt.need ?_ (fun hb => ?_) | refine AKt.leaf ?_) | ((with_reducible show _ = true); assumption))
    refine AKp.doneE tabOK hfr (by rfl) ?_
    show _ = _
    simp only [tupAV]
  have n2 : 0 ≤ m := by rw [hF, f_ltI] at c2; have := of_decide_eq_false c2; omega
  have n3 : m ≤ ls.length := by rw [hF, f_ltI, f_lenD] at c3; have := of_decide_eq_false c3; omega
  have n4 : 0 ≤ n := by rw [hF, f_ltI] at c4; have := of_decide_eq_false c4; omega
  have n5 : n ≤ ss.length := by rw [hF, f_ltI, f_lenD] at c5; have := of_decide_eq_false c5; omega
  refine AKt.need (by rw [huPFormed]; exact h) fun _ => ?_
  refine AKt.node (fun c6 => ?_) (fun c6 => ?_)
  · repeat' (first | with_reducible (first | refine AKt.have ?_ | refine AKt.tt ?_ | refine AKt.ff ?_ | refine AKt.yes (by assumption) ?_ | refine AKt.no (by assumption) ?_ | refine AKt.node (fun hb => ?_) (fun hb => ?_) | refine AKt.need ?_ (fun hb => ?_) | refine AKt.leaf ?_) | ((with_reducible show _ = true); assumption))
    refine AKp.doneE tabOK hfr (by rfl) ?_
    show _ = _
    simp only [tupAV]
  have hfm : formC ⟨a, b, c, d, unLv ls, unSm ss⟩ = true := by
    rw [hF, f_not, huPFormed1] at c6
    simpa [cfOf] using c6
  refine AKt.need (by rw [huCopyC]; show (isCf0 ls ss && cpC _) = true; rw [h, cp_small hsm]; rfl) fun _ => ?_
  have s1 : F .subV ls 0 m = ls.take m.toNat := by rw [hF, f_subV]; rfl
  have s2 : F .subV ss 0 n = ss.take n.toNat := by rw [hF, f_subV]; rfl
  rw [s1, s2]
  have h2 : isCf0 (ls.take m.toNat) (ss.take n.toNat) = true := by
    simp only [isCf0, Bool.and_eq_true] at h ⊢
    exact ⟨all_tk h.1 _, all_tk h.2 _⟩
  have u1 : unLv (ls.take m.toNat) = (unLv ls).take m.toNat := List.map_take
  have u2 : unSm (ss.take n.toNat) = (unSm ss).take n.toNat := List.map_take
  have hP2 : smP a b c d (ls.take m.toNat) (ss.take n.toNat) = true := by rw [smP, h2, u1, u2, small_tk hsm]; rfl
  have hfm2 : formC ⟨a, b, c, d, (unLv ls).take m.toNat, (unSm ss).take n.toNat⟩ = true := form_tk hfm _ _
  refine AKt.need (by rw [hF, f_hasV, decide_eq_true (by omega), decide_eq_true (by omega), decide_eq_true (by omega)]; rfl) fun _ => ?_
  refine AKt.need (by rw [hF, f_hasV, decide_eq_true (by omega), decide_eq_true (by omega), decide_eq_true (by omega)]; rfl) fun _ => ?_
  refine AKt.need (by rw [huPrint]; exact hP) fun _ => AKt.need (by rw [huPrint]; exact hP2) fun _ => ?_
  refine AKt.need (by rw [huPFormed]; exact h2) fun _ => ?_
  have e1 : uPFormed1 a b c d (ls.take m.toNat) (ss.take n.toNat) = true := by
    rw [huPFormed1]
    show formC (cfOf _ _ _ _ _ _) = true
    rw [cfOf, u1, u2]
    exact hfm2
  refine AKt.yes e1 ?_
  refine AKt.node (fun c7 => ?_) (fun c7 => ?_)
  · repeat' (first | with_reducible (first | refine AKt.have ?_ | refine AKt.tt ?_ | refine AKt.ff ?_ | refine AKt.yes (by assumption) ?_ | refine AKt.no (by assumption) ?_ | refine AKt.node (fun hb => ?_) (fun hb => ?_) | refine AKt.need ?_ (fun hb => ?_) | refine AKt.leaf ?_) | ((with_reducible show _ = true); assumption))
    refine AKp.doneE tabOK hfr (by rfl) ?_
    show _ = _
    simp only [tupAV]
  have e2 : prE ⟨a, b, c, d, unLv ls, unSm ss⟩ = 0 := by
    rw [hF, f_not, f_eqI, huPrint2] at c7
    simpa using c7
  have hl := @txtW_le a b c d (unLv ls) (unSm ss) m.toNat n.toNat
  have hle : ¬ 65536 < (txtW (cfW ⟨a, b, c, d, unLv ls, unSm ss⟩)).length := by
    intro hh
    rw [prE, if_neg (by rw [hfm]; decide), if_pos hh] at e2
    cases e2
  have e3 : uPrint2 a b c d (ls.take m.toNat) (ss.take n.toNat) = 0 := by
    rw [huPrint2]
    show prE ⟨a, b, c, d, unLv _, unSm _⟩ = 0
    rw [u1, u2, prE, if_neg (by rw [hfm2]; decide), if_neg (by omega)]
  have e4 : uPrint1 a b c d (ls.take m.toNat) (ss.take n.toNat) = txtW (cfW ⟨a, b, c, d, (unLv ls).take m.toNat, (unSm ss).take n.toNat⟩) := by
    rw [huPrint1]
    show prS ⟨a, b, c, d, unLv _, unSm _⟩ = _
    rw [u1, u2, prS, if_neg (by rw [hfm2]; decide), if_neg (by omega)]
  have e5 : uPrint1 a b c d ls ss = txtW (cfW ⟨a, b, c, d, unLv ls, unSm ss⟩) := by
    rw [huPrint1]
    show prS ⟨a, b, c, d, unLv _, unSm _⟩ = _
    rw [prS, if_neg (by rw [hfm]; decide), if_neg hle]
  refine AKt.yes (by rw [hF, f_eqI, e3]; rfl) ?_
  repeat' (first | with_reducible (first | refine AKt.have ?_ | refine AKt.tt ?_ | refine AKt.ff ?_ | refine AKt.yes (by assumption) ?_ | refine AKt.no (by assumption) ?_ | refine AKt.node (fun hb => ?_) (fun hb => ?_) | refine AKt.need ?_ (fun hb => ?_) | refine AKt.leaf ?_) | ((with_reducible show _ = true); assumption))
  refine AKp.doneE tabOK hfr (by rfl) ?_
  show _ = _
  simp only [tupAV]
  refine congrArg (fun z => AV.d (.s (.bool z))) ?_
  rw [hF, f_leI, f_lenS, f_lenS, e4, e5]
  exact decide_eq_true (by omega)
end Go.Proofs.YtflpgbkdjelaaaaDoor

