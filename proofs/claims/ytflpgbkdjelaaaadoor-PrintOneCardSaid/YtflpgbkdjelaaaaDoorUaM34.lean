/- The library of this claim and its walks, part 34, joined out of smaller texts. No statement stands in it. -/
import Derived.Test.YtflpgbkdjelaaaaDoorUaM30
import Derived.Test.YtflpgbkdjelaaaaDoorUaM31
import Derived.Test.YtflpgbkdjelaaaaDoorUaM33
/- print.Print: the walk. -/
namespace Go.Proofs.YtflpgbkdjelaaaaDoor
open Go Go.Proofs Go.Ua Go.Extern Go.Shelf
set_option linter.unusedVariables false
set_option linter.unusedSimpArgs false
set_option maxRecDepth 10000
def prS (c : Cf) : Wd := if formC c = false then [] else if 65536 < (txtW (cfW c)).length then [] else txtW (cfW c)
def prE (c : Cf) : Int := if formC c = false then 2 else if 65536 < (txtW (cfW c)).length then 3 else 0

theorem levW_len (x : Lv) : (levW x).length ≤ 100 := by
  unfold levW
  split
  · simp
  · split <;> simp
theorem lev_kd {x : Lv} (h : levOK x = true) : -1 ≤ x.bo ∧ (1 ≤ x.kd ∧ x.kd ≤ 3) := by
  simp only [levOK, Bool.and_eq_true] at h
  have h := h.2
  split at h
  · simp only [Bool.and_eq_true, decide_eq_true_eq] at h
    omega
  · split at h
    · simp only [Bool.and_eq_true] at h
      have := inB_iff.1 h.2.2.2
      omega
    · split at h
      · simp only [Bool.and_eq_true] at h
        have := inB_iff.1 h.2.2.2
        omega
      · cases h
theorem cut_rules {ss : List Sm} {i : Nat} {x : Sm} (hx : ss[i]? = some x) {j : Nat} {r : Rl} (hr : x.rl[j]? = some r) : (ss.map schW).flatten = (((ss.take i).map schW).flatten ++ [sch1 x] ++ (x.rl.take j).map rulW) ++ (rulW r :: ((x.rl.drop (j + 1)).map rulW ++ ((ss.drop (i + 1)).map schW).flatten)) := by
  have e1 : ss = ss.take i ++ x :: ss.drop (i + 1) := by
    have := List.drop_eq_getElem_cons (List.getElem?_eq_some_iff.1 hx).1
    rw [(List.getElem?_eq_some_iff.1 hx).2] at this
    rw [← this, List.take_append_drop]
  have e2 : x.rl = x.rl.take j ++ r :: x.rl.drop (j + 1) := by
    have := List.drop_eq_getElem_cons (List.getElem?_eq_some_iff.1 hr).1
    rw [(List.getElem?_eq_some_iff.1 hr).2] at this
    rw [← this, List.take_append_drop]
  have e3 : schW x = [sch1 x] ++ (x.rl.take j).map rulW ++ (rulW r :: (x.rl.drop (j + 1)).map rulW) := by
    rw [schW]
    conv => lhs; rw [e2]
    simp
  conv => lhs; rw [e1]
  rw [List.map_append, List.flatten_append, List.map_cons, List.flatten_cons, e3]
  simp
theorem txtW_pos {l : List (List Wd)} (h : l ≠ []) : 0 < (txtW l).length := by
  cases l with
  | nil => exact absurd rfl h
  | cons a r =>
    rw [show txtW (a :: r) = lineT a ++ txtW r from rfl, List.length_append, lineT, List.length_append]
    simp only [List.length_singleton]
    omega
set_option maxHeartbeats 8000000 in
set_option cbv.maxSteps 10000000 in
theorem print_spec1 (c : Cf) (hne : formC c = true → cfW c ≠ []) : ESpec Tryd.prog 10 [.d (.agg [.s (.int .i64 c.tt), .s (.int .i64 c.pe), .s (.int .i64 c.pr), .s (.int .i64 c.mo), .view 10 (lvDs c.ls), .view 5 (smDs c.ss)])] (fun x => x = .tup [.d (.s (.str (prS c))), .d (.s (.int .i64 (prE c)))]) := by
  obtain ⟨uPFormed, huPFormed⟩ : ∃ u : List Dat → List Dat → Bool, u = isCf := ⟨_, rfl⟩
  obtain ⟨uPFormed1, huPFormed1⟩ : ∃ u : Int → Int → Int → Int → List Dat → List Dat → Bool, u = fun a b c d ls ss => formC (cfOf a b c d ls ss) := ⟨_, rfl⟩
  obtain ⟨uDigits, huDigits⟩ : ∃ u : Int → List UInt8, u = fun n => Lib.decDigits n.toNat := ⟨_, rfl⟩
  obtain ⟨uTell, huTell⟩ : ∃ u : List Dat → List Dat → Bool, u = tellP := ⟨_, rfl⟩
  obtain ⟨uTell1, huTell1⟩ : ∃ u : List Dat → List Dat → List Dat, u = fun bs ws => bs ++ byD (lineT (unStr ws)) := ⟨_, rfl⟩
  obtain ⟨uTellLevel, huTellLevel⟩ : ∃ u : List Dat → Wd → Int → Int → Int → Int → Int → Int → Int → Int → Int → Bool, u = fun bs a b c d e f g h i j => tlP bs ⟨a, b, c, d, e, f, g, h, i, j⟩ := ⟨_, rfl⟩
  obtain ⟨uTellLevel1, huTellLevel1⟩ : ∃ u : List Dat → Wd → Int → Int → Int → Int → Int → Int → Int → Int → Int → List Dat, u = fun bs a b c d e f g h i j => tlV bs ⟨a, b, c, d, e, f, g, h, i, j⟩ := ⟨_, rfl⟩
  obtain ⟨uPBy, huPBy⟩ : ∃ u : Int → Wd, u = byW := ⟨_, rfl⟩
  obtain ⟨uJoin, huJoin⟩ : ∃ u : List Dat → Bool, u = isStrs := ⟨_, rfl⟩
  obtain ⟨uJoin1, huJoin1⟩ : ∃ u : List Dat → List UInt8, u = fun l => joinF (unStr l) := ⟨_, rfl⟩
  obtain ⟨uBLen, huBLen⟩ : ∃ u : List Dat → Int, u = fun bs => bs.length := ⟨_, rfl⟩
  obtain ⟨uBString, huBString⟩ : ∃ u : List Dat → Bool, u = strP := ⟨_, rfl⟩
  obtain ⟨uBString1, huBString1⟩ : ∃ u : List Dat → Wd, u = unBy := ⟨_, rfl⟩
  have hG : TblOK Tryd.prog [(12, .p (φPFormed uPFormed uPFormed1)), (18, .p (φDigits uDigits)), (17, .m (φTell uTell uTell1)), (19, .m (φTellLevel uTellLevel uTellLevel1)), (20, .p (φPBy uPBy)), (21, .p (φPLists )), (22, .p (φJoin uJoin uJoin1)), (23, .m (φBLen uBLen)), (24, .m (φBString uBString uBString1))] := ⟨(by rw [huPFormed, huPFormed1]; exact φPFormed_ok), (by rw [huDigits]; exact φDigits_ok), (by rw [huTell, huTell1]; exact φTell_ok), (by rw [huTellLevel, huTellLevel1]; exact φTellLevel_ok), (by rw [huPBy]; exact φPBy_ok), φPLists_ok, (by rw [huJoin, huJoin1]; exact φJoin_ok), (by rw [huBLen]; exact φBLen_ok), (by rw [huBString, huBString1]; exact φBString_ok), trivial⟩
  obtain ⟨ZS, hZS⟩ : ∃ z, z = prS c := ⟨_, rfl⟩
  obtain ⟨ZE, hZE⟩ : ∃ z, z = prE c := ⟨_, rfl⟩
  rw [← hZS, ← hZE]
  have hlen := @lines_lenF c
  have htold := @told_len c
  have hcnt := @told_count c
  obtain ⟨B, hB⟩ : ∃ z, z = formC c := ⟨_, rfl⟩
  unfold prS at hZS
  unfold prE at hZE
  rw [← hB] at hZS hZE
  obtain ⟨tt, pe, pr, mo, ls, ss⟩ := c
  simp only
  obtain ⟨ld, hld⟩ : ∃ z, z = lvDs ls := ⟨_, rfl⟩
  obtain ⟨sd, hsd⟩ : ∃ z, z = smDs ss := ⟨_, rfl⟩
  rw [← hld, ← hsd]
  refine ESpec.enter Tryd.func10 (by kernel_rfl) rfl (Nat.le_of_ble_eq_true rfl) fun hok cx hnt hfr => ?_
  obtain ⟨F, hF⟩ := real_ex
  refine AK.runTs hF tabOK hmix hnt hfr [4,6,8,10] false _ hG ?_
  conv => arg 4; cbv
  have q0 : uPFormed ld sd = true := by
    subst huPFormed huPFormed1 huDigits huTell huTell1 huTellLevel huTellLevel1 huPBy huJoin huJoin1 huBLen huBString huBString1
    show isCf ld sd = true
    rw [isCf, hld, hsd, is_lv, is_sm]
    rfl
  have e0 : uPFormed1 tt pe pr mo ld sd = B := by
    rw [huPFormed1]
    show formC (cfOf tt pe pr mo ld sd) = B
    rw [cfOf, hld, hsd, un_lv, un_sm, hB]
  rw [e0]
  refine AKt.need q0 fun _ => ?_
  refine AKt.node (fun c1 => ?_) (fun c1 => ?_)
  · have e : B = false := by rw [hF, f_not] at c1; simpa using c1
    repeat' (first | with_reducible (first | refine AKt.have ?_ | refine AKt.tt ?_ | refine AKt.ff ?_ | refine AKt.yes (by assumption) ?_ | refine AKt.no (by assumption) ?_ | refine AKt.node (fun hb => ?_) (fun hb => ?_) | refine AKt.need ?_ (fun hb => ?_) | refine AKt.leaf ?_) | ((with_reducible show _ = true); assumption))
    refine AKp.doneE tabOK hfr (by rfl) ?_
    show _ = _
    simp only [tupAV]
    rw [hZS, hZE, if_pos e, if_pos e]
  have e : B = true := by rw [hF, f_not] at c1; simpa using c1
  rw [if_neg (by rw [e]; decide)] at hZS hZE
  repeat' (first | with_reducible (first | refine AKt.have ?_ | refine AKt.tt ?_ | refine AKt.ff ?_ | refine AKt.yes (by assumption) ?_ | refine AKt.no (by assumption) ?_ | refine AKt.node (fun hb => ?_) (fun hb => ?_) | refine AKt.need ?_ (fun hb => ?_) | refine AKt.leaf ?_) | ((with_reducible show _ = true); assumption))
  refine AKp.asOpt 1 0 rfl rfl ?_
  conv => arg 4; arg 2; cbv
  refine AKp.asRowB 1 1 5 1 (by decide) rfl rfl (Nat.le_of_ble_eq_true rfl) ?_
  conv => arg 4; arg 2; cbv
  rw [e] at hB
  have hfc := hB.symm
  have hfc0 := hB.symm
  simp only [formC, Bool.and_eq_true, decide_eq_true_eq] at hfc
  obtain ⟨z1, z2, z3, z4, z5, z6, z7, z8, z9⟩ := hfc
  rw [inB_iff] at z1 z2 z3 z4
  have hlen2 : ∀ w, w ∈ linesR ⟨tt, pe, pr, mo, ls, ss⟩ → w.length ≤ 10000 := by
    refine hlen hfc0 ?_ ?_ hok.1.1.2 hok.1.2.1.2 hok.1.2.2.1.2 hok.1.2.2.2.1.2
    · intro x hx
      have hdok : Dok x.dat := Doks_iff.1 hok.1.2.2.2.2.1.2 _ (by rw [hld]; exact List.mem_map.2 ⟨x, hx, rfl⟩)
      exact ⟨hdok.2.2.1.2, hdok.2.2.2.1.2, hdok.2.2.2.2.1.2, hdok.2.2.2.2.2.1.2, hdok.2.2.2.2.2.2.1.2, hdok.2.2.2.2.2.2.2.1.2, hdok.2.2.2.2.2.2.2.2.1.2, hdok.2.2.2.2.2.2.2.2.2.1.2⟩
    · intro x hx
      have hdok : Dok x.dat := Doks_iff.1 hok.1.2.2.2.2.2.1.2 _ (by rw [hsd]; exact List.mem_map.2 ⟨x, hx, rfl⟩)
      exact hdok.2.2.1.2
  have hJ := htold hB.symm hlen2
  have hcn := hcnt hB.symm
  have hall := txtW_len hJ
  have pre : ∀ a b, cfW ⟨tt, pe, pr, mo, ls, ss⟩ = a ++ b → (byD (txtW a)).length ≤ 4000000 := fun a b h => by
    rw [h, txtW_app, List.length_append, List.length_append] at hall
    rw [h, List.length_append] at hcn
    rw [byD_length]
    omega
  have tp : ∀ (bs : List Dat) (ws : List Wd), bs.length ≤ 4000000 → ws.length ≤ 100 → ws ∈ cfW ⟨tt, pe, pr, mo, ls, ss⟩ → uTell bs (strDs ws) = true := fun bs ws h1 h2 h3 => by
    have := hJ ws h3
    rw [huTell]
    simp only [tellP, isStrs_strDs, unStr_strDs, strDs_length, Bool.true_and, Bool.and_eq_true, decide_eq_true_eq, lineT, List.length_append, List.length_singleton]
    exact ⟨by omega, by omega⟩
  have tv : ∀ (l : List (List Wd)) (ws : List Wd), uTell1 (byD (txtW l)) (strDs ws) = byD (txtW (l ++ [ws])) := fun l ws => by
    rw [huTell1]
    show byD (txtW l) ++ byD (lineT (unStr (strDs ws))) = _
    rw [unStr_strDs, ← byD_app]
    simp [txtW]
  obtain ⟨H1, hH1⟩ : ∃ z : List (List Wd), z = if tt = 0 then [] else [[TOTAL, digI tt]] := ⟨_, rfl⟩
  obtain ⟨H2, hH2⟩ : ∃ z : List (List Wd), z = if pe = 0 then [] else [[PERIOD, digI pe]] := ⟨_, rfl⟩
  obtain ⟨H3, hH3⟩ : ∃ z : List (List Wd), z = if pr = 0 then [] else [[SEATS, digI pr, digI mo]] := ⟨_, rfl⟩
  have hW : cfW ⟨tt, pe, pr, mo, ls, ss⟩ = H1 ++ (H2 ++ H3) ++ (ls.map levW ++ (ss.map schW).flatten) := by rw [cfW, headW, hH1, hH2, hH3]
  obtain ⟨HH, hHH⟩ : ∃ z, z = H1 ++ (H2 ++ H3) := ⟨_, rfl⟩
  obtain ⟨HL, hHL⟩ : ∃ z, z = HH ++ ls.map levW := ⟨_, rfl⟩
  refine exK ?K31 fun k31 hK31 => ?_
  rotate_left
  have rest31 : ∀ bs : List Dat, bs = byD (txtW (HL ++ (ss.map schW).flatten)) → AK Tryd.prog cx (finE Tryd.prog Tryd.f10 cx fun x => x = .tup [.d (.s (.str ZS)), .d (.s (.int .i64 ZE))]) k31 ⟨[(1, .ptr 0 0 0 6), (4, .ptr 1 0 0 2)], [(2, .ds 5 1 bs), (1, .cs 54 [.opt 1, .row 2 1]), (0, .cs 25 [.d (.s (.int .i64 tt)), .d (.s (.int .i64 pe)), .d (.s (.int .i64 pr)), .d (.s (.int .i64 mo)), .d (.view 10 ld), .d (.view 5 sd)])], 3⟩ := ?r31
  refine exK ?K15 fun k15 hK15 => ?_
  rotate_left
  have rest15 : ∀ bs : List Dat, bs = byD (txtW (HH ++ ls.map levW)) → AK Tryd.prog cx (finE Tryd.prog Tryd.f10 cx fun x => x = .tup [.d (.s (.str ZS)), .d (.s (.int .i64 ZE))]) k15 ⟨[(1, .ptr 0 0 0 6), (4, .ptr 1 0 0 2)], [(2, .ds 5 1 bs), (1, .cs 54 [.opt 1, .row 2 1]), (0, .cs 25 [.d (.s (.int .i64 tt)), .d (.s (.int .i64 pe)), .d (.s (.int .i64 pr)), .d (.s (.int .i64 mo)), .d (.view 10 ld), .d (.view 5 sd)])], 3⟩ := ?r15
  refine exK ?K10 fun k10 hK10 => ?_
  rotate_left
  have rest10 : ∀ bs : List Dat, bs = byD (txtW (H1 ++ (H2 ++ H3))) → AK Tryd.prog cx (finE Tryd.prog Tryd.f10 cx fun x => x = .tup [.d (.s (.str ZS)), .d (.s (.int .i64 ZE))]) k10 ⟨[(1, .ptr 0 0 0 6), (4, .ptr 1 0 0 2)], [(2, .ds 5 1 bs), (1, .cs 54 [.opt 1, .row 2 1]), (0, .cs 25 [.d (.s (.int .i64 tt)), .d (.s (.int .i64 pe)), .d (.s (.int .i64 pr)), .d (.s (.int .i64 mo)), .d (.view 10 ld), .d (.view 5 sd)])], 3⟩ := ?r10
  refine exK ?K8 fun k8 hK8 => ?_
  rotate_left
  have rest8 : ∀ bs : List Dat, bs = byD (txtW (H1 ++ H2)) → AK Tryd.prog cx (finE Tryd.prog Tryd.f10 cx fun x => x = .tup [.d (.s (.str ZS)), .d (.s (.int .i64 ZE))]) k8 ⟨[(1, .ptr 0 0 0 6), (4, .ptr 1 0 0 2)], [(2, .ds 5 1 bs), (1, .cs 54 [.opt 1, .row 2 1]), (0, .cs 25 [.d (.s (.int .i64 tt)), .d (.s (.int .i64 pe)), .d (.s (.int .i64 pr)), .d (.s (.int .i64 mo)), .d (.view 10 ld), .d (.view 5 sd)])], 3⟩ := ?r8
  refine exK ?K6 fun k6 hK6 => ?_
  rotate_left
  have rest6 : ∀ bs : List Dat, bs = byD (txtW H1) → AK Tryd.prog cx (finE Tryd.prog Tryd.f10 cx fun x => x = .tup [.d (.s (.str ZS)), .d (.s (.int .i64 ZE))]) k6 ⟨[(1, .ptr 0 0 0 6), (4, .ptr 1 0 0 2)], [(2, .ds 5 1 bs), (1, .cs 54 [.opt 1, .row 2 1]), (0, .cs 25 [.d (.s (.int .i64 tt)), .d (.s (.int .i64 pe)), .d (.s (.int .i64 pr)), .d (.s (.int .i64 mo)), .d (.view 10 ld), .d (.view 5 sd)])], 3⟩ := ?r6
  refine AK.runTs hF tabOK hmix hnt hfr [6,8,10] false _ hG ?_
  conv => arg 4; cbv
  refine AKt.node (fun c2 => ?_) (fun c2 => ?_)
  · have t0 : ¬ tt = 0 := by rw [hF, f_ltI] at c2; have := of_decide_eq_true c2; omega
    rw [if_neg t0] at hH1
    have ew : [Dat.s (Sc.str [116, 111, 116, 97, 108]), Dat.s (Sc.str (uDigits tt))] = strDs [TOTAL, digI tt] := by rw [huDigits]; rfl
    rw [ew]
    obtain ⟨b1, hb1⟩ : ∃ z, z = uTell1 [] (strDs [TOTAL, digI tt]) := ⟨_, rfl⟩
    rw [← hb1]
    have hb2 : b1 = byD (txtW H1) := by rw [hb1, hH1]; exact tv [] _
    refine AKt.need rfl fun _ => AKt.need (tp [] _ (by decide) (Nat.le_of_ble_eq_true rfl) (by rw [hW, hH1]; simp)) fun _ => ?_
    repeat' (first | with_reducible (first | refine AKt.have ?_ | refine AKt.tt ?_ | refine AKt.ff ?_ | refine AKt.yes (by assumption) ?_ | refine AKt.no (by assumption) ?_ | refine AKt.node (fun hb => ?_) (fun hb => ?_) | refine AKt.need ?_ (fun hb => ?_) | refine AKt.leaf ?_) | ((with_reducible show _ = true); assumption))
    refine AKp.joinR [(2, 4)] hK6 _ hfr ?_ ?_ rfl (rest6 b1 hb2)
    · repeat (first | exact True.intro | refine ⟨⟨rfl, rfl⟩, ?_⟩)
    · repeat (first | exact True.intro | refine ⟨⟨Nat.le_of_ble_eq_true rfl, rfl, rfl⟩, ?_⟩)
  · have t0 : tt = 0 := by rw [hF, f_ltI] at c2; have := of_decide_eq_false c2; omega
    rw [if_pos t0] at hH1
    repeat' (first | with_reducible (first | refine AKt.have ?_ | refine AKt.tt ?_ | refine AKt.ff ?_ | refine AKt.yes (by assumption) ?_ | refine AKt.no (by assumption) ?_ | refine AKt.node (fun hb => ?_) (fun hb => ?_) | refine AKt.need ?_ (fun hb => ?_) | refine AKt.leaf ?_) | ((with_reducible show _ = true); assumption))
    refine AKp.join hK6 _ hfr ?_ ?_ (rest6 [] (by rw [hH1]; rfl))
    · repeat (first | exact True.intro | refine ⟨⟨rfl, rfl⟩, ?_⟩)
    · repeat (first | exact True.intro | refine ⟨⟨rfl, rfl, rfl⟩, ?_⟩)
  case' r6 =>
    intro bs hbs
    rw [hK6]
    refine AK.runTs hF tabOK hmix hnt hfr [8,10] false _ hG ?_
    conv => arg 4; cbv
    have hbl : bs.length ≤ 4000000 := by rw [hbs]; exact pre H1 (H2 ++ H3 ++ (ls.map levW ++ (ss.map schW).flatten)) (by rw [hW]; simp only [List.append_assoc])
    refine AKt.node (fun c2 => ?_) (fun c2 => ?_)
    · have t0 : ¬ pe = 0 := by rw [hF, f_ltI] at c2; have := of_decide_eq_true c2; omega
      rw [if_neg t0] at hH2
      have ew : [Dat.s (Sc.str [112, 101, 114, 105, 111, 100]), Dat.s (Sc.str (uDigits pe))] = strDs [PERIOD, digI pe] := by rw [huDigits]; rfl
      rw [ew]
      obtain ⟨b1, hb1⟩ : ∃ z, z = uTell1 bs (strDs [PERIOD, digI pe]) := ⟨_, rfl⟩
      rw [← hb1]
      have hb2 : b1 = byD (txtW (H1 ++ H2)) := by rw [hb1, hbs, tv, hH2]
      refine AKt.need rfl fun _ => AKt.need (tp bs _ hbl (Nat.le_of_ble_eq_true rfl) (by rw [hW, hH2]; simp)) fun _ => ?_
      repeat' (first | with_reducible (first | refine AKt.have ?_ | refine AKt.tt ?_ | refine AKt.ff ?_ | refine AKt.yes (by assumption) ?_ | refine AKt.no (by assumption) ?_ | refine AKt.node (fun hb => ?_) (fun hb => ?_) | refine AKt.need ?_ (fun hb => ?_) | refine AKt.leaf ?_) | ((with_reducible show _ = true); assumption))
      refine AKp.joinR [(2, 4)] hK8 _ hfr ?_ ?_ rfl (rest8 b1 hb2)
      · repeat (first | exact True.intro | refine ⟨⟨rfl, rfl⟩, ?_⟩)
      · repeat (first | exact True.intro | refine ⟨⟨Nat.le_of_ble_eq_true rfl, rfl, rfl⟩, ?_⟩)
    · have t0 : pe = 0 := by rw [hF, f_ltI] at c2; have := of_decide_eq_false c2; omega
      rw [if_pos t0] at hH2
      repeat' (first | with_reducible (first | refine AKt.have ?_ | refine AKt.tt ?_ | refine AKt.ff ?_ | refine AKt.yes (by assumption) ?_ | refine AKt.no (by assumption) ?_ | refine AKt.node (fun hb => ?_) (fun hb => ?_) | refine AKt.need ?_ (fun hb => ?_) | refine AKt.leaf ?_) | ((with_reducible show _ = true); assumption))
      refine AKp.join hK8 _ hfr ?_ ?_ (rest8 bs (by rw [hbs, hH2]; simp))
      · repeat (first | exact True.intro | refine ⟨⟨rfl, rfl⟩, ?_⟩)
      · repeat (first | exact True.intro | refine ⟨⟨rfl, rfl, rfl⟩, ?_⟩)
  case' r8 =>
    intro bs hbs
    rw [hK8]
    refine AK.runTs hF tabOK hmix hnt hfr [10] false _ hG ?_
    conv => arg 4; cbv
    have hbl : bs.length ≤ 4000000 := by rw [hbs]; exact pre (H1 ++ H2) (H3 ++ (ls.map levW ++ (ss.map schW).flatten)) (by rw [hW]; simp only [List.append_assoc])
    refine AKt.node (fun c2 => ?_) (fun c2 => ?_)
    · have t0 : ¬ pr = 0 := by rw [hF, f_ltI] at c2; have := of_decide_eq_true c2; omega
      rw [if_neg t0] at hH3
      have ew : [Dat.s (Sc.str [115, 101, 97, 116, 115]), Dat.s (Sc.str (uDigits pr)), Dat.s (Sc.str (uDigits mo))] = strDs [SEATS, digI pr, digI mo] := by rw [huDigits]; rfl
      rw [ew]
      obtain ⟨b1, hb1⟩ : ∃ z, z = uTell1 bs (strDs [SEATS, digI pr, digI mo]) := ⟨_, rfl⟩
      rw [← hb1]
      have hb2 : b1 = byD (txtW (H1 ++ (H2 ++ H3))) := by rw [hb1, hbs, tv, hH3]; simp only [List.append_assoc]
      refine AKt.need rfl fun _ => AKt.need rfl fun _ => AKt.need (tp bs _ hbl (Nat.le_of_ble_eq_true rfl) (by rw [hW, hH3]; simp)) fun _ => ?_
      repeat' (first | with_reducible (first | refine AKt.have ?_ | refine AKt.tt ?_ | refine AKt.ff ?_ | refine AKt.yes (by assumption) ?_ | refine AKt.no (by assumption) ?_ | refine AKt.node (fun hb => ?_) (fun hb => ?_) | refine AKt.need ?_ (fun hb => ?_) | refine AKt.leaf ?_) | ((with_reducible show _ = true); assumption))
      refine AKp.joinR [(2, 4)] hK10 _ hfr ?_ ?_ rfl (rest10 b1 hb2)
      · repeat (first | exact True.intro | refine ⟨⟨rfl, rfl⟩, ?_⟩)
      · repeat (first | exact True.intro | refine ⟨⟨Nat.le_of_ble_eq_true rfl, rfl, rfl⟩, ?_⟩)
    · have t0 : pr = 0 := by rw [hF, f_ltI] at c2; have := of_decide_eq_false c2; omega
      rw [if_pos t0] at hH3
      repeat' (first | with_reducible (first | refine AKt.have ?_ | refine AKt.tt ?_ | refine AKt.ff ?_ | refine AKt.yes (by assumption) ?_ | refine AKt.no (by assumption) ?_ | refine AKt.node (fun hb => ?_) (fun hb => ?_) | refine AKt.need ?_ (fun hb => ?_) | refine AKt.leaf ?_) | ((with_reducible show _ = true); assumption))
      refine AKp.join hK10 _ hfr ?_ ?_ (rest10 bs (by rw [hbs, hH3]; simp))
      · repeat (first | exact True.intro | refine ⟨⟨rfl, rfl⟩, ?_⟩)
      · repeat (first | exact True.intro | refine ⟨⟨rfl, rfl, rfl⟩, ?_⟩)
  case' r10 =>
    intro bs hbs
    rw [← hHH] at hbs
    rw [hK10]
    refine AK.runTs hF tabOK hmix hnt hfr [15] false _ hG ?_
    conv => arg 4; cbv
    repeat' (first | with_reducible (first | refine AKt.have ?_ | refine AKt.tt ?_ | refine AKt.ff ?_ | refine AKt.yes (by assumption) ?_ | refine AKt.no (by assumption) ?_ | refine AKt.node (fun hb => ?_) (fun hb => ?_) | refine AKt.need ?_ (fun hb => ?_) | refine AKt.leaf ?_) | ((with_reducible show _ = true); assumption))
    have hel : ld.length = ls.length := by rw [hld]; simp [lvDs]
    refine AKp.enterLoop 47 ?_
    conv => arg 7; cbv
    refine AKl.invTs hF tabOK hmix hnt (Nat.le_trans (Nat.le_of_eq hfr) (Nat.le_of_ble_eq_true rfl)) [15] false _ hG (fun n vs hs => ∃ (i : Nat) (iv : Int) (bs : List Dat), i + n = ls.length ∧ iv = i ∧ bs = byD (txtW (HH ++ (ls.take i).map levW)) ∧ vs = [(47, .d (.s (.int .i64 iv)))] ∧ hs = [(2, .ds 5 1 bs), (1, .cs 54 [.opt 1, .row 2 1]), (0, .cs 25 [.d (.s (.int .i64 tt)), .d (.s (.int .i64 pe)), .d (.s (.int .i64 pr)), .d (.s (.int .i64 mo)), .d (.view 10 ld), .d (.view 5 sd)])]) ls.length ⟨0, _, bs, by omega, rfl, by rw [hbs]; simp, rfl, rfl⟩ (by repeat (first | exact True.intro | refine ⟨⟨rfl, rfl⟩, ?_⟩)) (by repeat (first | exact True.intro | refine ⟨⟨rfl, rfl, rfl⟩, ?_⟩)) ?_
    rintro J n vs hs hJ ⟨i, iv, bs, hi, hiv, hbs2, rfl, rfl⟩
    conv => arg 4; cbv
    refine AKt.node (fun hb => ?_) (fun hb => ?_)
    · have hlt : i < ls.length := by rw [hF, f_ltI, f_lenD, hel, hiv] at hb; have := of_decide_eq_true hb; omega
      obtain ⟨x, hx⟩ : ∃ x, ls[i]? = some x := ⟨_, List.getElem?_eq_getElem hlt⟩
      have hd : ld[i]? = some x.dat := by rw [hld]; exact lvDs_get hx
      have hok1 : levOK x = true := allL_ok z8 x (List.mem_of_getElem? hx)
      have hbl : bs.length ≤ 4000000 := by
        rw [hbs2]
        exact pre _ ((ls.drop i).map levW ++ (ss.map schW).flatten) (by rw [hW, ← hHH]; simp only [List.append_assoc]; rw [← List.append_assoc ((ls.take i).map levW), ← List.map_append, List.take_append_drop])
      have htl : tlP bs x = true := by
        have hbo : -1 ≤ x.bo ∧ (1 ≤ x.kd ∧ x.kd ≤ 3) := lev_kd hok1
        have := tp bs (levW x) hbl (levW_len x) (by rw [hW]; simp only [List.mem_append]; exact .inr (.inl (List.mem_map.2 ⟨x, List.mem_of_getElem? hx, rfl⟩)))
        rw [huTell] at this
        simp only [tlP, this, hbo, decide_true, Bool.and_self, and_self]
      have hnx : tlV bs x = byD (txtW (HH ++ (ls.take (i + 1)).map levW)) := by
        rw [tlV, hbs2, List.take_add_one, hx]
        simp [txtW, byD]
      have hx_ : F .hasD ld iv [.str, .int .i64, .int .i64, .int .i64, .int .i64, .int .i64, .int .i64, .int .i64, .int .i64, .int .i64] = true := t_hasD hF hd hiv rfl
      obtain ⟨x0, hx0⟩ : ∃ z, z = x.nm := ⟨_, rfl⟩
      try rw [show F .strA ld iv 0 = x0 by rw [hx0]; exact t_strA hF hd hiv rfl]
      obtain ⟨x1, hx1⟩ : ∃ z, z = x.kd := ⟨_, rfl⟩
      try rw [show F .intA ld iv 1 = x1 by rw [hx1]; exact t_intA hF hd hiv rfl]
      obtain ⟨x2, hx2⟩ : ∃ z, z = x.sh := ⟨_, rfl⟩
      try rw [show F .intA ld iv 2 = x2 by rw [hx2]; exact t_intA hF hd hiv rfl]
      obtain ⟨x3, hx3⟩ : ∃ z, z = x.ld := ⟨_, rfl⟩
      try rw [show F .intA ld iv 3 = x3 by rw [hx3]; exact t_intA hF hd hiv rfl]
      obtain ⟨x4, hx4⟩ : ∃ z, z = x.bo := ⟨_, rfl⟩
      try rw [show F .intA ld iv 4 = x4 by rw [hx4]; exact t_intA hF hd hiv rfl]
      obtain ⟨x5, hx5⟩ : ∃ z, z = x.qu := ⟨_, rfl⟩
      try rw [show F .intA ld iv 5 = x5 by rw [hx5]; exact t_intA hF hd hiv rfl]
      obtain ⟨x6, hx6⟩ : ∃ z, z = x.ha := ⟨_, rfl⟩
      try rw [show F .intA ld iv 6 = x6 by rw [hx6]; exact t_intA hF hd hiv rfl]
      obtain ⟨x7, hx7⟩ : ∃ z, z = x.le := ⟨_, rfl⟩
      try rw [show F .intA ld iv 7 = x7 by rw [hx7]; exact t_intA hF hd hiv rfl]
      obtain ⟨x8, hx8⟩ : ∃ z, z = x.wa := ⟨_, rfl⟩
      try rw [show F .intA ld iv 8 = x8 by rw [hx8]; exact t_intA hF hd hiv rfl]
      obtain ⟨x9, hx9⟩ : ∃ z, z = x.gu := ⟨_, rfl⟩
      try rw [show F .intA ld iv 9 = x9 by rw [hx9]; exact t_intA hF hd hiv rfl]
      have hxe : (⟨x0, x1, x2, x3, x4, x5, x6, x7, x8, x9⟩ : Lv) = x := by rw [hx0, hx1, hx2, hx3, hx4, hx5, hx6, hx7, hx8, hx9]
      have q : uTellLevel bs x0 x1 x2 x3 x4 x5 x6 x7 x8 x9 = true := by rw [huTellLevel]; show tlP bs ⟨x0, x1, x2, x3, x4, x5, x6, x7, x8, x9⟩ = true; rw [hxe]; exact htl
      obtain ⟨b1, hb1⟩ : ∃ z, z = uTellLevel1 bs x0 x1 x2 x3 x4 x5 x6 x7 x8 x9 := ⟨_, rfl⟩
      rw [← hb1]
      have hb2 : b1 = byD (txtW (HH ++ (ls.take (i + 1)).map levW)) := by rw [hb1, huTellLevel1]; show tlV bs ⟨x0, x1, x2, x3, x4, x5, x6, x7, x8, x9⟩ = _; rw [hxe, hnx]
      refine AKt.need hx_ fun _ => AKt.need q fun _ => ?_
      repeat' (first | with_reducible (first | refine AKt.have ?_ | refine AKt.tt ?_ | refine AKt.ff ?_ | refine AKt.yes (by assumption) ?_ | refine AKt.no (by assumption) ?_ | refine AKt.node (fun hb => ?_) (fun hb => ?_) | refine AKt.need ?_ (fun hb => ?_) | refine AKt.leaf ?_) | ((with_reducible show _ = true); assumption))
      refine AKp.againR [(2, 4)] _ hfr (by repeat (first | exact True.intro | refine ⟨⟨rfl, rfl⟩, ?_⟩)) (by repeat (first | exact True.intro | refine ⟨⟨Nat.le_of_ble_eq_true rfl, rfl, rfl⟩, ?_⟩)) rfl (hJ (n - 1) _ _ (by omega) ⟨i + 1, _, b1, by omega, inc_i hF hiv (by omega), hb2, rfl, rfl⟩)
    · have hge : ¬ i < ls.length := by rw [hF, f_ltI, f_lenD, hel, hiv] at hb; have := of_decide_eq_false hb; omega
      rw [List.take_of_length_le (by omega)] at hbs2
      repeat' (first | with_reducible (first | refine AKt.have ?_ | refine AKt.tt ?_ | refine AKt.ff ?_ | refine AKt.yes (by assumption) ?_ | refine AKt.no (by assumption) ?_ | refine AKt.node (fun hb => ?_) (fun hb => ?_) | refine AKt.need ?_ (fun hb => ?_) | refine AKt.leaf ?_) | ((with_reducible show _ = true); assumption))
      refine AKp.join hK15 _ hfr ?_ ?_ (rest15 bs hbs2)
      · repeat (first | exact True.intro | refine ⟨⟨rfl, rfl⟩, ?_⟩)
      · repeat (first | exact True.intro | refine ⟨⟨rfl, rfl, rfl⟩, ?_⟩)
  case' r15 =>
    intro bs hbs
    rw [← hHL] at hbs
    rw [hK15]
    refine AK.runTs hF tabOK hmix hnt hfr [31] false _ hG ?_
    conv => arg 4; cbv
    repeat' (first | with_reducible (first | refine AKt.have ?_ | refine AKt.tt ?_ | refine AKt.ff ?_ | refine AKt.yes (by assumption) ?_ | refine AKt.no (by assumption) ?_ | refine AKt.node (fun hb => ?_) (fun hb => ?_) | refine AKt.need ?_ (fun hb => ?_) | refine AKt.leaf ?_) | ((with_reducible show _ = true); assumption))
    have hel : sd.length = ss.length := by rw [hsd]; simp [smDs]
    refine AKp.enterLoop 57 ?_
    conv => arg 7; cbv
    refine AKl.invTs hF tabOK hmix hnt (Nat.le_trans (Nat.le_of_eq hfr) (Nat.le_of_ble_eq_true rfl)) [19,29,30,31] false _ hG (fun n vs hs => ∃ (i : Nat) (iv : Int) (bs : List Dat), i + n = ss.length ∧ iv = i ∧ bs = byD (txtW (HL ++ ((ss.take i).map schW).flatten)) ∧ vs = [(57, .d (.s (.int .i64 iv)))] ∧ hs = [(2, .ds 5 1 bs), (1, .cs 54 [.opt 1, .row 2 1]), (0, .cs 25 [.d (.s (.int .i64 tt)), .d (.s (.int .i64 pe)), .d (.s (.int .i64 pr)), .d (.s (.int .i64 mo)), .d (.view 10 ld), .d (.view 5 sd)])]) ss.length ⟨0, _, bs, by omega, rfl, by rw [hbs]; simp, rfl, rfl⟩ (by repeat (first | exact True.intro | refine ⟨⟨rfl, rfl⟩, ?_⟩)) (by repeat (first | exact True.intro | refine ⟨⟨rfl, rfl, rfl⟩, ?_⟩)) ?_
    rintro J n vs hs hJ ⟨i, iv, bs, hi, hiv, hbs2, rfl, rfl⟩
    conv => arg 4; cbv
    refine AKt.node (fun hb => ?_) (fun hb => ?_)
    rotate_left
    · have hge : ¬ i < ss.length := by rw [hF, f_ltI, f_lenD, hel, hiv] at hb; have := of_decide_eq_false hb; omega
      rw [List.take_of_length_le (by omega)] at hbs2
      repeat' (first | with_reducible (first | refine AKt.have ?_ | refine AKt.tt ?_ | refine AKt.ff ?_ | refine AKt.yes (by assumption) ?_ | refine AKt.no (by assumption) ?_ | refine AKt.node (fun hb => ?_) (fun hb => ?_) | refine AKt.need ?_ (fun hb => ?_) | refine AKt.leaf ?_) | ((with_reducible show _ = true); assumption))
      refine AKp.join hK31 _ hfr ?_ ?_ (rest31 bs hbs2)
      · repeat (first | exact True.intro | refine ⟨⟨rfl, rfl⟩, ?_⟩)
      · repeat (first | exact True.intro | refine ⟨⟨rfl, rfl, rfl⟩, ?_⟩)
    have hlt : i < ss.length := by rw [hF, f_ltI, f_lenD, hel, hiv] at hb; have := of_decide_eq_true hb; omega
    obtain ⟨x, hx⟩ : ∃ x, ss[i]? = some x := ⟨_, List.getElem?_eq_getElem hlt⟩
    have hd : sd[i]? = some x.dat := by rw [hsd]; exact smDs_get hx
    have hbl : bs.length ≤ 4000000 := by
      rw [hbs2]
      exact pre _ (((ss.drop i).map schW).flatten) (by rw [hW, ← hHH, ← List.append_assoc HH, ← hHL]; simp only [List.append_assoc]; rw [← List.flatten_append, ← List.map_append, List.take_append_drop])
    have htl : uTell bs (strDs (sch1 x)) = true := tp bs _ hbl (Nat.le_of_ble_eq_true rfl) (by
      rw [hW]
      simp only [List.mem_append]
      exact .inr (.inr (List.mem_flatten.2 ⟨schW x, List.mem_map.2 ⟨x, List.mem_of_getElem? hx, rfl⟩, by simp [schW]⟩)))
    obtain ⟨b1, hb1⟩ : ∃ z, z = uTell1 bs (strDs (sch1 x)) := ⟨_, rfl⟩
    have hb2 : b1 = byD (txtW (HL ++ ((ss.take i).map schW).flatten ++ [sch1 x])) := by rw [hb1, hbs2, tv]
    have hx_ : F .hasD sd iv [.str, .str, .int .i64, .int .i64, .view 5] = true := t_hasD hF hd hiv rfl
    obtain ⟨x0, hx0⟩ : ∃ z, z = x.nm := ⟨_, rfl⟩
    try rw [show F .strA sd iv 0 = x0 by rw [hx0]; exact t_strA hF hd hiv rfl]
    obtain ⟨x1, hx1⟩ : ∃ z, z = x.lv := ⟨_, rfl⟩
    try rw [show F .strA sd iv 1 = x1 by rw [hx1]; exact t_strA hF hd hiv rfl]
    obtain ⟨x2, hx2⟩ : ∃ z, z = x.rk := ⟨_, rfl⟩
    try rw [show F .intA sd iv 2 = x2 by rw [hx2]; exact t_intA hF hd hiv rfl]
    obtain ⟨x3, hx3⟩ : ∃ z, z = x.bb := ⟨_, rfl⟩
    try rw [show F .intA sd iv 3 = x3 by rw [hx3]; exact t_intA hF hd hiv rfl]
    obtain ⟨x4, hx4⟩ : ∃ z, z = rlDs x.rl := ⟨_, rfl⟩
    try rw [show F .viewA sd iv 4 = x4 by rw [hx4]; exact t_viewA hF hd hiv rfl]
    have ew : [Dat.s (Sc.str [115, 99, 104, 101, 109, 97]), Dat.s (Sc.str x0), Dat.s (Sc.str x1), Dat.s (Sc.str (uDigits x2)), Dat.s (Sc.str (uPBy x3))] = strDs (sch1 x) := by rw [huDigits, huPBy, hx0, hx1, hx2, hx3]; rfl
    rw [ew, ← hb1]
    refine AKt.need hx_ fun _ => AKt.need rfl fun _ => AKt.need rfl fun _ => AKt.need htl fun _ => ?_
    repeat' (first | with_reducible (first | refine AKt.have ?_ | refine AKt.tt ?_ | refine AKt.ff ?_ | refine AKt.yes (by assumption) ?_ | refine AKt.no (by assumption) ?_ | refine AKt.node (fun hb => ?_) (fun hb => ?_) | refine AKt.need ?_ (fun hb => ?_) | refine AKt.leaf ?_) | ((with_reducible show _ = true); assumption))
    refine AK.runTs hF tabOK hmix hnt hfr [30] false _ hG ?_
    conv => arg 4; cbv
    repeat' (first | with_reducible (first | refine AKt.have ?_ | refine AKt.tt ?_ | refine AKt.ff ?_ | refine AKt.yes (by assumption) ?_ | refine AKt.no (by assumption) ?_ | refine AKt.node (fun hb => ?_) (fun hb => ?_) | refine AKt.need ?_ (fun hb => ?_) | refine AKt.leaf ?_) | ((with_reducible show _ = true); assumption))
    have hrl : rlDs x.rl = x4 := by rw [hx4]
    have hx8 : x.rl.length ≤ 8 := by
      have := allM_ok z9 x (List.mem_of_getElem? hx)
      simp only [smOK, Bool.and_eq_true, decide_eq_true_eq] at this
      exact this.2.2.2.2.1
    have hel2 : x4.length = x.rl.length := by rw [← hrl]; simp [rlDs]
    refine AKp.enterLoop 76 ?_
    conv => arg 7; cbv
    refine AKl.invTs hF tabOK hmix hnt (Nat.le_trans (Nat.le_of_eq hfr) (Nat.le_of_ble_eq_true rfl)) [30] false _ hG (fun n vs hs => ∃ (j : Nat) (jv : Int) (bs : List Dat), j + n = x.rl.length ∧ jv = j ∧ bs = byD (txtW (HL ++ ((ss.take i).map schW).flatten ++ [sch1 x] ++ (x.rl.take j).map rulW)) ∧ vs = [(76, .d (.s (.int .i64 jv)))] ∧ hs = [(5, .ds 5 1 bs), (1, .cs 54 [.opt 1, .row 5 1]), (0, .cs 25 [.d (.s (.int .i64 tt)), .d (.s (.int .i64 pe)), .d (.s (.int .i64 pr)), .d (.s (.int .i64 mo)), .d (.view 10 ld), .d (.view 5 sd)])]) x.rl.length ⟨0, _, b1, by omega, rfl, by rw [hb2]; simp, rfl, rfl⟩ (by repeat (first | exact True.intro | refine ⟨⟨rfl, rfl⟩, ?_⟩)) (by repeat (first | exact True.intro | refine ⟨⟨rfl, rfl, rfl⟩, ?_⟩)) ?_
    rintro J2 n2 vs hs hJ2 ⟨j, jv, bs2, hj, hjv, hbs3, rfl, rfl⟩
    conv => arg 4; cbv
    refine AKt.node (fun hb2 => ?_) (fun hb2 => ?_)
    rotate_left
    · have hge : ¬ j < x.rl.length := by rw [hF, f_ltI, f_lenD, hel2, hjv] at hb2; have := of_decide_eq_false hb2; omega
      rw [List.take_of_length_le (show x.rl.length ≤ j by omega)] at hbs3
      repeat' (first | with_reducible (first | refine AKt.have ?_ | refine AKt.tt ?_ | refine AKt.ff ?_ | refine AKt.yes (by assumption) ?_ | refine AKt.no (by assumption) ?_ | refine AKt.node (fun hb => ?_) (fun hb => ?_) | refine AKt.need ?_ (fun hb => ?_) | refine AKt.leaf ?_) | ((with_reducible show _ = true); assumption))
      refine AK.runTs hF tabOK hmix hnt hfr [31] false _ hG ?_
      conv => arg 4; cbv
      repeat' (first | with_reducible (first | refine AKt.have ?_ | refine AKt.tt ?_ | refine AKt.ff ?_ | refine AKt.yes (by assumption) ?_ | refine AKt.no (by assumption) ?_ | refine AKt.node (fun hb => ?_) (fun hb => ?_) | refine AKt.need ?_ (fun hb => ?_) | refine AKt.leaf ?_) | ((with_reducible show _ = true); assumption))
      refine AKp.againR [(2, 5)] _ hfr (by repeat (first | exact True.intro | refine ⟨⟨rfl, rfl⟩, ?_⟩)) (by repeat (first | exact True.intro | refine ⟨⟨Nat.le_of_ble_eq_true rfl, rfl, rfl⟩, ?_⟩)) rfl (hJ (n - 1) _ _ (by omega) ⟨i + 1, _, bs2, by omega, inc_i hF hiv (by omega), by rw [hbs3, List.take_add_one, hx]; simp [schW], rfl, rfl⟩)
    have hlt2 : j < x.rl.length := by rw [hF, f_ltI, f_lenD, hel2, hjv] at hb2; have := of_decide_eq_true hb2; omega
    obtain ⟨r, hr⟩ : ∃ r, x.rl[j]? = some r := ⟨_, List.getElem?_eq_getElem hlt2⟩
    have hdr : x4[j]? = some r.dat := by rw [← hrl]; exact rlDs_get hr
    have hcutF : cfW ⟨tt, pe, pr, mo, ls, ss⟩ = (HL ++ ((ss.take i).map schW).flatten ++ [sch1 x] ++ (x.rl.take j).map rulW) ++ (rulW r :: ((x.rl.drop (j + 1)).map rulW ++ ((ss.drop (i + 1)).map schW).flatten)) := by
      rw [hW, ← hHH, ← List.append_assoc HH, ← hHL, cut_rules hx hr]
      simp only [List.append_assoc]
    have hbl2 : bs2.length ≤ 4000000 := by rw [hbs3]; exact pre _ _ hcutF
    have htl2 : uTell bs2 (strDs (rulW r)) = true := tp bs2 _ hbl2 (Nat.le_of_ble_eq_true rfl) (by rw [hcutF]; exact List.mem_append.2 (.inr List.mem_cons_self))
    obtain ⟨b3, hb3⟩ : ∃ z, z = uTell1 bs2 (strDs (rulW r)) := ⟨_, rfl⟩
    have hb4 : b3 = byD (txtW (HL ++ ((ss.take i).map schW).flatten ++ [sch1 x] ++ (x.rl.take (j + 1)).map rulW)) := by
      rw [hb3, hbs3, tv, List.take_add_one, hr]
      simp
    have hr_ : F .hasD x4 jv [.view 1, .view 1, .view 1, .view 1, .view 1] = true := t_hasD hF hdr hjv rfl
    obtain ⟨r0, hr0⟩ : ∃ z, z = strDs r.us := ⟨_, rfl⟩
    try rw [show F .viewA x4 jv 0 = r0 by rw [hr0]; exact t_viewA hF hdr hjv rfl]
    obtain ⟨r1, hr1⟩ : ∃ z, z = strDs r.gs := ⟨_, rfl⟩
    try rw [show F .viewA x4 jv 1 = r1 by rw [hr1]; exact t_viewA hF hdr hjv rfl]
    obtain ⟨r2, hr2⟩ : ∃ z, z = strDs r.vs := ⟨_, rfl⟩
    try rw [show F .viewA x4 jv 2 = r2 by rw [hr2]; exact t_viewA hF hdr hjv rfl]
    obtain ⟨r3, hr3⟩ : ∃ z, z = strDs r.rs := ⟨_, rfl⟩
    try rw [show F .viewA x4 jv 3 = r3 by rw [hr3]; exact t_viewA hF hdr hjv rfl]
    obtain ⟨r4, hr4⟩ : ∃ z, z = strDs r.ps := ⟨_, rfl⟩
    try rw [show F .viewA x4 jv 4 = r4 by rw [hr4]; exact t_viewA hF hdr hjv rfl]
    have ej : ∀ l, uJoin1 (strDs l) = joinF l := fun l => by
      rw [huJoin1]
      show joinF (unStr (strDs l)) = _
      rw [unStr_strDs]
    have qj : ∀ l, uJoin (strDs l) = true := fun l => by
      rw [huJoin]
      exact isStrs_strDs l
    have q0 : uJoin r0 = true := by rw [hr0]; exact qj _
    have q1 : uJoin r1 = true := by rw [hr1]; exact qj _
    have q2 : uJoin r2 = true := by rw [hr2]; exact qj _
    have q3 : uJoin r3 = true := by rw [hr3]; exact qj _
    have q4 : uJoin r4 = true := by rw [hr4]; exact qj _
    have f1 : ∀ (l : List Dat), l.length ≤ 1000 → F .fits 16 l = true := fun l hl => t_fits hF (by omega)
    have ap : ∀ a b, F .appD a b = a ++ b := fun a b => by rw [hF]; rfl
    have k0 : F .inB 0 5 = some 0 := by rw [hF]; rfl
    have k1 : F .inB 1 5 = some 1 := by rw [hF]; rfl
    have k2 : F .inB 2 5 = some 2 := by rw [hF]; rfl
    have k3 : F .inB 3 5 = some 3 := by rw [hF]; rfl
    have k4 : F .inB 4 5 = some 4 := by rw [hF]; rfl
    have l0 : F .ltI 0 5 = true := by rw [hF]; rfl
    have l1 : F .ltI 1 5 = true := by rw [hF]; rfl
    have l2 : F .ltI 2 5 = true := by rw [hF]; rfl
    have l3 : F .ltI 3 5 = true := by rw [hF]; rfl
    have l4 : F .ltI 4 5 = true := by rw [hF]; rfl
    have l5 : F .ltI 5 5 = false := by rw [hF]; rfl
    have a0 : F .wrap .i64 (F .add 0 1) = 1 := by rw [hF]; rfl
    have a1 : F .wrap .i64 (F .add 1 1) = 2 := by rw [hF]; rfl
    have a2 : F .wrap .i64 (F .add 2 1) = 3 := by rw [hF]; rfl
    have a3 : F .wrap .i64 (F .add 3 1) = 4 := by rw [hF]; rfl
    have a4 : F .wrap .i64 (F .add 4 1) = 5 := by rw [hF]; rfl
    refine AKt.need hr_ fun _ => ?_
    repeat' (first | with_reducible (first | refine AKt.have ?_ | refine AKt.tt ?_ | refine AKt.ff ?_ | refine AKt.yes (by assumption) ?_ | refine AKt.no (by assumption) ?_ | refine AKt.node (fun hb => ?_) (fun hb => ?_) | refine AKt.need ?_ (fun hb => ?_) | refine AKt.leaf ?_) | ((with_reducible show _ = true); assumption))
    obtain ⟨R0, hR0⟩ : ∃ z, z = [Dat.s (Sc.str [114, 117, 108, 101])] := ⟨_, rfl⟩
    rw [← hR0]
    have s0 : R0.length = 0 + 1 := by rw [hR0]; rfl

    refine AKp.unroll 6 fun Ja0 na0 => ?_
    refine AK.runTs hF tabOK hmix hnt hfr [30] false _ hG ?_
    conv => arg 4; cbv
    refine AKt.yes l0 ?_
    rw [k0]
    conv => arg 4; cbv
    rw [a0]
    obtain ⟨R1, hR1⟩ : ∃ z, z = F .appD R0 [Dat.s (Sc.str (uJoin1 r0))] := ⟨_, rfl⟩
    have s1 : R1.length = 1 + 1 := by rw [hR1, ap, List.length_append, s0]; rfl
    rw [← hR1]
    refine AKt.need q0 fun _ => AKt.need (f1 R1 (by omega)) fun _ => ?_
    repeat' (first | with_reducible (first | refine AKt.have ?_ | refine AKt.tt ?_ | refine AKt.ff ?_ | refine AKt.yes (by assumption) ?_ | refine AKt.no (by assumption) ?_ | refine AKt.node (fun hb => ?_) (fun hb => ?_) | refine AKt.need ?_ (fun hb => ?_) | refine AKt.leaf ?_) | ((with_reducible show _ = true); assumption))
    obtain ⟨Ja1, na1, nx⟩ := na0
    refine AKp.backTo (nx _ ?_)
    clear nx
    refine AK.runTs hF tabOK hmix hnt hfr [30] false _ hG ?_
    conv => arg 4; cbv
    refine AKt.yes l1 ?_
    rw [k1]
    conv => arg 4; cbv
    rw [a1]
    obtain ⟨R2, hR2⟩ : ∃ z, z = F .appD R1 [Dat.s (Sc.str (uJoin1 r1))] := ⟨_, rfl⟩
    have s2 : R2.length = 2 + 1 := by rw [hR2, ap, List.length_append, s1]; rfl
    rw [← hR2]
    refine AKt.need q1 fun _ => AKt.need (f1 R2 (by omega)) fun _ => ?_
    repeat' (first | with_reducible (first | refine AKt.have ?_ | refine AKt.tt ?_ | refine AKt.ff ?_ | refine AKt.yes (by assumption) ?_ | refine AKt.no (by assumption) ?_ | refine AKt.node (fun hb => ?_) (fun hb => ?_) | refine AKt.need ?_ (fun hb => ?_) | refine AKt.leaf ?_) | ((with_reducible show _ = true); assumption))
    obtain ⟨Ja2, na2, nx⟩ := na1
    refine AKp.backTo (nx _ ?_)
    clear nx
    refine AK.runTs hF tabOK hmix hnt hfr [30] false _ hG ?_
    conv => arg 4; cbv
    refine AKt.yes l2 ?_
    rw [k2]
    conv => arg 4; cbv
    rw [a2]
    obtain ⟨R3, hR3⟩ : ∃ z, z = F .appD R2 [Dat.s (Sc.str (uJoin1 r2))] := ⟨_, rfl⟩
    have s3 : R3.length = 3 + 1 := by rw [hR3, ap, List.length_append, s2]; rfl
    rw [← hR3]
    refine AKt.need q2 fun _ => AKt.need (f1 R3 (by omega)) fun _ => ?_
    repeat' (first | with_reducible (first | refine AKt.have ?_ | refine AKt.tt ?_ | refine AKt.ff ?_ | refine AKt.yes (by assumption) ?_ | refine AKt.no (by assumption) ?_ | refine AKt.node (fun hb => ?_) (fun hb => ?_) | refine AKt.need ?_ (fun hb => ?_) | refine AKt.leaf ?_) | ((with_reducible show _ = true); assumption))
    obtain ⟨Ja3, na3, nx⟩ := na2
    refine AKp.backTo (nx _ ?_)
    clear nx
    refine AK.runTs hF tabOK hmix hnt hfr [30] false _ hG ?_
    conv => arg 4; cbv
    refine AKt.yes l3 ?_
    rw [k3]
    conv => arg 4; cbv
    rw [a3]
    obtain ⟨R4, hR4⟩ : ∃ z, z = F .appD R3 [Dat.s (Sc.str (uJoin1 r3))] := ⟨_, rfl⟩
    have s4 : R4.length = 4 + 1 := by rw [hR4, ap, List.length_append, s3]; rfl
    rw [← hR4]
    refine AKt.need q3 fun _ => AKt.need (f1 R4 (by omega)) fun _ => ?_
    repeat' (first | with_reducible (first | refine AKt.have ?_ | refine AKt.tt ?_ | refine AKt.ff ?_ | refine AKt.yes (by assumption) ?_ | refine AKt.no (by assumption) ?_ | refine AKt.node (fun hb => ?_) (fun hb => ?_) | refine AKt.need ?_ (fun hb => ?_) | refine AKt.leaf ?_) | ((with_reducible show _ = true); assumption))
    obtain ⟨Ja4, na4, nx⟩ := na3
    refine AKp.backTo (nx _ ?_)
    clear nx
    refine AK.runTs hF tabOK hmix hnt hfr [30] false _ hG ?_
    conv => arg 4; cbv
    refine AKt.yes l4 ?_
    rw [k4]
    conv => arg 4; cbv
    rw [a4]
    obtain ⟨R5, hR5⟩ : ∃ z, z = F .appD R4 [Dat.s (Sc.str (uJoin1 r4))] := ⟨_, rfl⟩
    have s5 : R5.length = 5 + 1 := by rw [hR5, ap, List.length_append, s4]; rfl
    rw [← hR5]
    refine AKt.need q4 fun _ => AKt.need (f1 R5 (by omega)) fun _ => ?_
    repeat' (first | with_reducible (first | refine AKt.have ?_ | refine AKt.tt ?_ | refine AKt.ff ?_ | refine AKt.yes (by assumption) ?_ | refine AKt.no (by assumption) ?_ | refine AKt.node (fun hb => ?_) (fun hb => ?_) | refine AKt.need ?_ (fun hb => ?_) | refine AKt.leaf ?_) | ((with_reducible show _ = true); assumption))
    obtain ⟨Ja5, na5, nx⟩ := na4
    refine AKp.backTo (nx _ ?_)
    clear nx
    refine AK.runTs hF tabOK hmix hnt hfr [30] false _ hG ?_
    conv => arg 4; cbv
    refine AKt.no l5 ?_
    have eW : R5 = strDs (rulW r) := by
      rw [hR5, hR4, hR3, hR2, hR1, hR0, hr0, hr1, hr2, hr3, hr4]
      simp only [ap, ej]
      rfl
    rw [eW, ← hb3]
    refine AKt.need htl2 fun _ => ?_

    repeat' (first | with_reducible (first | refine AKt.have ?_ | refine AKt.tt ?_ | refine AKt.ff ?_ | refine AKt.yes (by assumption) ?_ | refine AKt.no (by assumption) ?_ | refine AKt.node (fun hb => ?_) (fun hb => ?_) | refine AKt.need ?_ (fun hb => ?_) | refine AKt.leaf ?_) | ((with_reducible show _ = true); assumption))
    refine AKp.againR [(5, 18)] _ hfr (by repeat (first | exact True.intro | refine ⟨⟨rfl, rfl⟩, ?_⟩)) (by repeat (first | exact True.intro | refine ⟨⟨Nat.le_of_ble_eq_true rfl, rfl, rfl⟩, ?_⟩)) rfl (hJ2 (n2 - 1) _ _ (by omega) ⟨j + 1, _, b3, by omega, inc_i hF hjv (by omega), hb4, rfl, rfl⟩)
  case' r31 =>
    intro bs hbs
    rw [hK31]
    have hbs4 : bs = byD (txtW (cfW ⟨tt, pe, pr, mo, ls, ss⟩)) := by
      rw [hbs, hHL, hHH, hW]
      simp only [List.append_assoc]
    have hpos := txtW_pos (hne hB.symm)
    obtain ⟨TX, hTX⟩ : ∃ z, z = txtW (cfW ⟨tt, pe, pr, mo, ls, ss⟩) := ⟨_, rfl⟩
    rw [← hTX] at hbs4 hpos hZS hZE
    refine AK.runT hF tabOK hmix hnt hfr false _ hG ?_
    conv => arg 4; cbv
    have el : uBLen bs = TX.length := by
      rw [huBLen, hbs4]
      show ((byD TX).length : Int) = _
      rw [byD_length]
    refine AKt.need rfl fun _ => AKt.node (fun c1 => ?_) (fun c1 => ?_)
    · have h1 : 65536 < TX.length := by rw [hF, f_ltI, el] at c1; have := of_decide_eq_true c1; omega
      rw [if_pos h1] at hZS hZE
      repeat' (first | with_reducible (first | refine AKt.have ?_ | refine AKt.tt ?_ | refine AKt.ff ?_ | refine AKt.yes (by assumption) ?_ | refine AKt.no (by assumption) ?_ | refine AKt.node (fun hb => ?_) (fun hb => ?_) | refine AKt.need ?_ (fun hb => ?_) | refine AKt.leaf ?_) | ((with_reducible show _ = true); assumption))
      refine AKp.doneE tabOK hfr (by rfl) ?_
      show _ = _
      simp only [tupAV]
      rw [hZS, hZE]
    · have h1 : ¬ 65536 < TX.length := by rw [hF, f_ltI, el] at c1; have := of_decide_eq_false c1; omega
      rw [if_neg h1] at hZS hZE
      have q1 : uBString bs = true := by
        rw [huBString, hbs4]
        simp only [strP, is_by, Bool.true_and, decide_eq_true_eq]
        rw [byD_length]
        exact hpos
      have e1 : uBString1 bs = TX := by rw [huBString1, hbs4, un_by]
      rw [e1]
      refine AKt.need q1 fun _ => ?_
      repeat' (first | with_reducible (first | refine AKt.have ?_ | refine AKt.tt ?_ | refine AKt.ff ?_ | refine AKt.yes (by assumption) ?_ | refine AKt.no (by assumption) ?_ | refine AKt.node (fun hb => ?_) (fun hb => ?_) | refine AKt.need ?_ (fun hb => ?_) | refine AKt.leaf ?_) | ((with_reducible show _ = true); assumption))
      refine AKp.doneE tabOK hfr (by rfl) ?_
      show _ = _
      simp only [tupAV]
      rw [hZS, hZE]
end Go.Proofs.YtflpgbkdjelaaaaDoor

