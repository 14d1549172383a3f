/- The library of this claim and its walks, part 45, joined out of smaller texts. No statement stands in it. -/
import Derived.Test.YtflpgbkdjelaaaaDoorUaM36
import Derived.Test.YtflpgbkdjelaaaaDoorUaM44
/- What is read is told in no more than it was read from: plain laws. -/
namespace Go.Proofs.YtflpgbkdjelaaaaDoor
open Go Go.Proofs Go.Ua Go.Extern
set_option linter.unusedVariables false
set_option linter.unusedSimpArgs false

theorem eq_len2 {w : List Wd} (h : w.length = 2) : w = [wAt w 0, wAt w 1] := by
  match w, h with
  | [a, b], _ => rfl
theorem eq_len3 {w : List Wd} (h : w.length = 3) : w = [wAt w 0, wAt w 1, wAt w 2] := by
  match w, h with
  | [a, b, c], _ => rfl
theorem eq_len5 {w : List Wd} (h : w.length = 5) : w = [wAt w 0, wAt w 1, wAt w 2, wAt w 3, wAt w 4] := by
  match w, h with
  | [a, b, c, d, e], _ => rfl
theorem eq_len6 {w : List Wd} (h : w.length = 6) : w = [wAt w 0, wAt w 1, wAt w 2, wAt w 3, wAt w 4, wAt w 5] := by
  match w, h with
  | [a, b, c, d, e, f], _ => rfl
theorem eq_len11 {w : List Wd} (h : w.length = 11) : w = [wAt w 0, wAt w 1, wAt w 2, wAt w 3, wAt w 4, wAt w 5, wAt w 6, wAt w 7, wAt w 8, wAt w 9, wAt w 10] := by
  match w, h with
  | [a, b, c, d, e, f, g, i, j, k, l], _ => rfl
theorem dig_num {w : Wd} {a b : Int} (h : numB w a b = true) : digI (numV w a b) = w := (num_in h).2.1
theorem bor_num {w : Wd} (h : borB w = true) : borW (borV w) = w := by
  unfold borB at h
  unfold borV borW
  split
  · rename_i e
    rw [if_pos rfl, e]
  · rename_i e
    rw [decide_eq_false e, Bool.false_or] at h
    have := (num_in h).2.2
    rw [if_neg (by omega)]
    exact dig_num h
theorem by_num {w : Wd} (h : byB w = true) : byW (byV w) = w := by
  simp only [byB, Bool.or_eq_true, decide_eq_true_eq] at h
  rcases h with rfl | rfl | rfl <;> decide
theorem kindL_1 {w : List Wd} (h : kindL w = 1) : w.length = 3 ∧ wAt w 2 = EXEMPT := by
  unfold kindL at h
  split at h
  · assumption
  · split at h
    · cases h
    · split at h <;> cases h
theorem kindL_2 {w : List Wd} (h : kindL w = 2) : w.length = 6 ∧ wAt w 5 = REJECT := by
  unfold kindL at h
  split at h
  · cases h
  · split at h
    · assumption
    · split at h <;> cases h
theorem kindL_3 {w : List Wd} (h : kindL w = 3) : w.length = 11 ∧ wAt w 5 = QUEUE := by
  unfold kindL at h
  split at h
  · cases h
  · split at h
    · cases h
    · split at h
      · assumption
      · cases h
theorem lev_told {c : Cf} {w : List Wd} (h0 : wAt w 0 = LEVEL) (h : levE c w = 0) : levW (lvOf w) = w := by
  unfold levE at h
  split at h; · cases h
  rename_i k0
  split at h; · cases h
  split at h; · cases h
  rename_i k1
  split at h; · cases h
  rename_i k2
  rcases kindL_k w with g | ⟨g, _⟩ | ⟨g, _⟩ | ⟨g, _⟩
  · exact absurd g k0
  · obtain ⟨g1, g2⟩ := kindL_1 g
    conv => rhs; rw [eq_len3 g1, h0, g2]
    rw [lvOf, if_pos g]
    rfl
  · obtain ⟨g1, g2⟩ := kindL_2 g
    have hl : limB w = true := by
      cases hh : limB w with
      | true => rfl
      | false => exact absurd ⟨by rw [g]; decide, hh⟩ k1
    simp only [limB, Bool.and_eq_true] at hl
    conv => rhs; rw [eq_len6 g1, h0, g2]
    rw [lvOf, if_neg (by rw [g]; decide), if_pos g, levW, if_neg (show ¬ (2 : Int) = 1 by decide), if_pos rfl]
    simp only [dig_num hl.1, dig_num hl.2.1, bor_num hl.2.2]
  · obtain ⟨g1, g2⟩ := kindL_3 g
    have hl : limB w = true := by
      cases hh : limB w with
      | true => rfl
      | false => exact absurd ⟨by rw [g]; decide, hh⟩ k1
    have hq : queB w = true := by
      cases hh : queB w with
      | true => rfl
      | false => exact absurd ⟨g, hh⟩ k2
    simp only [limB, Bool.and_eq_true] at hl
    simp only [queB, Bool.and_eq_true] at hq
    conv => rhs; rw [eq_len11 g1, h0, g2]
    rw [lvOf, if_neg (by rw [g]; decide), if_neg (by rw [g]; decide), levW, if_neg (show ¬ (3 : Int) = 1 by decide), if_neg (show ¬ (3 : Int) = 2 by decide)]
    simp only [dig_num hl.1, dig_num hl.2.1, bor_num hl.2.2, dig_num hq.1, dig_num hq.2.1, dig_num hq.2.2.1, dig_num hq.2.2.2.1, dig_num hq.2.2.2.2]
theorem sch_told {c : Cf} {w : List Wd} (h0 : wAt w 0 = SCHEMA) (h : schE c w = 0) : schW (smOf w) = [w] := by
  unfold schE at h
  split at h; · cases h
  rename_i k0
  split at h; · cases h
  split at h; · cases h
  rename_i k1
  split at h; · cases h
  rename_i k2
  have g1 : numB (wAt w 3) 1 10000 = true := by simpa using k1
  have g2 : byB (wAt w 4) = true := by simpa using k2
  conv => rhs; rw [eq_len5 (Decidable.not_not.1 k0), h0]
  show [[SCHEMA, wAt w 1, wAt w 2, digI (numV (wAt w 3) 1 10000), byW (byV (wAt w 4))]] = _
  rw [dig_num g1, by_num g2]
theorem rul_told {c : Cf} {w : List Wd} (h0 : wAt w 0 = RULE) (h : rulE c w = 0) : rulW (rlOf w) = w ∧ c.ss ≠ [] := by
  unfold rulE at h
  split at h; · cases h
  rename_i k0
  split at h; · cases h
  rename_i k1
  have hl : lisB w = true := by simpa using k1
  simp only [lisB, Bool.and_eq_true] at hl
  obtain ⟨g1, g2, g3, g4, g5⟩ := hl
  have k6 : w.length = 6 := by
    by_cases e : w.length = 6
    · exact e
    · exact absurd (.inl e) k0
  refine ⟨?_, fun e => k0 (.inr e)⟩
  conv => rhs; rw [eq_len6 k6, h0]
  show [RULE, joinF (lisV (wAt w 1)), joinF (lisV (wAt w 2)), joinF (lisV (wAt w 3)), joinF (lisV (wAt w 4)), joinF (lisV (wAt w 5))] = _
  rw [(list_good g1).2, (list_good g2).2, (list_good g3).2, (list_good g4).2, (list_good g5).2]
/-- A line that is taken is told as it stands. -/
theorem told_add {c : Cf} {w : List Wd} (h : linE c w = 0) : ∃ P Q, cfW c = P ++ Q ∧ cfW (linA c w) = P ++ w :: Q := by
  obtain ⟨tt, pe, pr, mo, ls, ss⟩ := c
  unfold linE at h
  unfold linA
  split at h
  · rename_i e0
    rw [if_pos e0]
    unfold totE at h
    split at h; · cases h
    rename_i k0
    split at h; · cases h
    rename_i k1
    split at h; · cases h
    rename_i k2
    have g0 : tt = 0 := Decidable.not_not.1 k2
    have g1 : numB (wAt w 1) 1 4096 = true := by simpa using k1
    have g2 := num_in g1
    have g3 : ¬ numV (wAt w 1) 1 4096 = 0 := by have := g2.1; rw [inB_iff] at this; omega
    refine ⟨[], _, rfl, ?_⟩
    simp only [cfW, headW, if_pos g0, if_neg g3, List.nil_append, dig_num g1]
    conv => rhs; rw [eq_len2 (Decidable.not_not.1 k0), e0]
    simp
  rename_i e0
  split at h
  · rename_i e1
    rw [if_neg e0, if_pos e1]
    unfold perE at h
    split at h; · cases h
    rename_i k0
    split at h; · cases h
    rename_i k1
    split at h; · cases h
    rename_i k2
    have g0 : pe = 0 := Decidable.not_not.1 k2
    have g1 : numB (wAt w 1) 1 1000 = true := by simpa using k1
    have g3 : ¬ numV (wAt w 1) 1 1000 = 0 := by have := (num_in g1).1; rw [inB_iff] at this; omega
    refine ⟨(if tt = 0 then [] else [[TOTAL, digI tt]]), (if pr = 0 then [] else [[SEATS, digI pr, digI mo]]) ++ (ls.map levW ++ (ss.map schW).flatten), ?_, ?_⟩
    · simp only [cfW, headW, if_pos g0, List.nil_append, List.append_assoc]
    · simp only [cfW, headW, if_neg g3, dig_num g1, List.append_assoc]
      conv => rhs; rw [eq_len2 (Decidable.not_not.1 k0), e1]
      simp
  rename_i e1
  split at h
  · rename_i e2
    rw [if_neg e0, if_neg e1, if_pos e2]
    unfold seaE at h
    split at h; · cases h
    rename_i k0
    split at h; · cases h
    rename_i k1
    split at h; · cases h
    rename_i k2
    have g0 : pr = 0 := Decidable.not_not.1 k2
    have g1 : numB (wAt w 1) 1 1048576 = true ∧ numB (wAt w 2) 1 16 = true := by simpa using k1
    have g3 : ¬ numV (wAt w 1) 1 1048576 = 0 := by have := (num_in g1.1).1; rw [inB_iff] at this; omega
    refine ⟨(if tt = 0 then [] else [[TOTAL, digI tt]]) ++ (if pe = 0 then [] else [[PERIOD, digI pe]]), ls.map levW ++ (ss.map schW).flatten, ?_, ?_⟩
    · simp only [cfW, headW, if_pos g0, List.append_nil, List.append_assoc]
    · simp only [cfW, headW, if_neg g3, dig_num g1.1, dig_num g1.2, List.append_assoc]
      conv => rhs; rw [eq_len3 (Decidable.not_not.1 k0), e2]
      simp
  rename_i e2
  split at h
  · rename_i e3
    rw [if_neg e0, if_neg e1, if_neg e2, if_pos e3]
    refine ⟨headW ⟨tt, pe, pr, mo, ls, ss⟩ ++ ls.map levW, (ss.map schW).flatten, ?_, ?_⟩
    · simp only [cfW, List.append_assoc]
    · simp only [cfW, List.map_append, List.map_cons, List.map_nil, lev_told e3 h, List.append_assoc]
      rfl
  rename_i e3
  split at h
  · rename_i e4
    rw [if_neg e0, if_neg e1, if_neg e2, if_neg e3, if_pos e4]
    refine ⟨cfW ⟨tt, pe, pr, mo, ls, ss⟩, [], by simp, ?_⟩
    simp only [cfW, List.map_append, List.map_cons, List.map_nil, List.flatten_append, List.flatten_cons, List.flatten_nil, sch_told e4 h, List.append_assoc]
    rfl
  rename_i e4
  split at h
  · rename_i e5
    rw [if_neg e0, if_neg e1, if_neg e2, if_neg e3, if_neg e4]
    obtain ⟨r1, r2⟩ := rul_told e5 h
    refine ⟨cfW ⟨tt, pe, pr, mo, ls, ss⟩, [], by simp, ?_⟩
    have hs := last_split r2
    simp only at hs
    obtain ⟨x, hx⟩ : ∃ x, x = ss.getLastD zeroS := ⟨_, rfl⟩
    have e6 : ((addR ss (rlOf w)).map schW).flatten = (ss.map schW).flatten ++ [w] := by
      rw [addR, ← hx]
      rw [← hx] at hs
      conv => rhs; rw [hs]
      simp only [List.map_append, List.map_cons, List.map_nil, List.flatten_append, List.flatten_cons, List.flatten_nil, List.append_nil, schW, sch1, r1, List.append_assoc, List.cons_append]
    simp only [cfW, e6, List.append_assoc]
    rfl
  · cases h

/-! ### How long -/
theorem cut_sum (c : UInt8) : ∀ s : List UInt8, (linesOf (cutF c s)).length = s.length + 1
  | [] => rfl
  | b :: r => by
    have ih := cut_sum c r
    unfold cutF
    split
    · simp [linesOf] at ih ⊢; omega
    · split
      · rename_i q qs hq
        rw [hq] at ih
        simp [linesOf] at ih ⊢; omega
      · rename_i hq
        exact absurd hq (cutF_ne c r)
theorem linesOf_cons (x : Wd) (r : List Wd) : (linesOf (x :: r)).length = x.length + 1 + (linesOf r).length := by
  rw [show linesOf (x :: r) = (x ++ [10]) ++ linesOf r from rfl, List.length_append, List.length_append]
  rfl
theorem linesOf_filter (p : Wd → Bool) : ∀ l : List Wd, (linesOf (l.filter p)).length ≤ (linesOf l).length
  | [] => Nat.le_refl _
  | x :: r => by
    have ih := linesOf_filter p r
    rw [linesOf_cons]
    by_cases h : p x = true
    · rw [List.filter_cons_of_pos h, linesOf_cons]; omega
    · rw [List.filter_cons_of_neg h]; omega
theorem linesOf_dropLast (l : List Wd) : (linesOf l.dropLast).length ≤ (linesOf l).length := by
  rw [List.dropLast_eq_take]
  have : linesOf l = linesOf (l.take (l.length - 1)) ++ linesOf (l.drop (l.length - 1)) := by
    conv => lhs; rw [← List.take_append_drop (l.length - 1) l]
    simp only [linesOf, List.map_append, List.flatten_append]
  rw [this, List.length_append]
  omega
theorem J32_sum : ∀ {ws : List Wd}, ws ≠ [] → (J32 ws).length + 1 = (linesOf ws).length
  | [], h => absurd rfl h
  | [x], _ => by rw [J32_one, linesOf_cons]; rfl
  | x :: y :: r, _ => by
    have ih := J32_sum (ws := y :: r) (by simp)
    rw [J32_two, linesOf_cons, List.length_append, List.length_cons]
    omega
theorem words_sum {s : Wd} (h : wordsF s ≠ []) : (J32 (wordsF s)).length ≤ s.length := by
  have h1 := J32_sum h
  have h2 := cut_sum 32 s
  have h3 := linesOf_filter (fun p : List UInt8 => !(p == [])) (cutF 32 s)
  have h4 : wordsF s = (cutF 32 s).filter fun p => !(p == []) := rfl
  rw [← h4] at h3
  omega
theorem lines_sum (s : Wd) : (linesOf (linesF s)).length ≤ s.length + 1 := by
  have h2 := cut_sum 10 s
  unfold linesF
  split
  · have := linesOf_dropLast (cutF 10 s); omega
  · omega
theorem parL_len : ∀ (l : List Wd) (c d : Cf) (i : Nat) (n : Int), parL c l i = (d, 0, n) → formC c = true → formC d = true ∧ (txtW (cfW d)).length ≤ (txtW (cfW c)).length + (linesOf l).length
  | [], c, d, i, n, h, hc => by
    rw [parL] at h
    simp only [Prod.mk.injEq] at h
    obtain ⟨rfl, _⟩ := h
    exact ⟨hc, Nat.le_add_right _ _⟩
  | x :: r, c, d, i, n, h, hc => by
    rw [parL] at h
    rw [linesOf_cons]
    split at h
    · obtain ⟨h1, h2⟩ := parL_len r c d _ n h hc
      exact ⟨h1, by omega⟩
    · rename_i hs
      split at h
      · rename_i he
        obtain ⟨h1, h2⟩ := parL_len r _ d _ n h (line_formed hc he)
        refine ⟨h1, ?_⟩
        obtain ⟨P, Q, g1, g2⟩ := told_add he
        have hne : wordsF x ≠ [] := fun e => hs (by rw [e]; rfl)
        have hw := words_sum hne
        have e1 : (txtW (cfW (linA c (wordsF x)))).length = (txtW (cfW c)).length + ((J32 (wordsF x)).length + 1) := by
          rw [g1, g2, txtW_app, txtW_app, show txtW (wordsF x :: Q) = lineT (wordsF x) ++ txtW Q from rfl]
          simp only [List.length_append, lineT, List.length_singleton]
          omega
        omega
      · rename_i he
        simp only [Prod.mk.injEq] at h
        exact absurd h.2.1 he
theorem parse_len {s : Wd} (h : (parF s).2.1 = 0) : formC (parF s).1 = true ∧ (txtW (cfW (parF s).1)).length ≤ s.length + 1 := by
  rw [parF] at h ⊢
  split
  · rename_i g
    rw [if_pos g] at h
    cases h
  · rename_i g
    rw [if_neg g] at h
    obtain ⟨R, hR⟩ : ∃ z, z = parL zeroC (linesF s) 0 := ⟨_, rfl⟩
    obtain ⟨d, e, n⟩ := R
    rw [← hR] at h ⊢
    simp only at h
    subst h
    have hp := hR.symm
    obtain ⟨h1, h2⟩ := parL_len _ _ _ _ _ hp zero_formed
    refine ⟨h1, ?_⟩
    have h3 := lines_sum s
    have h4 : (txtW (cfW zeroC)).length = 0 := rfl
    show (txtW (cfW d)).length ≤ _
    omega
end Go.Proofs.YtflpgbkdjelaaaaDoor

/- Chapter 11: what is read is printed as one text. -/
namespace Go.Proofs.YtflpgbkdjelaaaaDoor
open Go Go.Proofs Go.Ua Go.Extern Go.Shelf
set_option linter.unusedVariables false
set_option linter.unusedSimpArgs false
set_option maxRecDepth 10000
set_option maxHeartbeats 4000000 in
set_option cbv.maxSteps 10000000 in
theorem printOne_spec (s : Wd) : ESpec Tryd.prog 6 [.d (.s (.str s))] (fun x => x = .d (.s (.bool true))) := by
  by_cases hcode : (parF s).2.1 = 0
  · obtain ⟨hfm, hle⟩ := parse_len hcode
    obtain ⟨uParseOk, huParseOk⟩ : ∃ u : Wd → Bool, u = okP := ⟨_, rfl⟩
    obtain ⟨uParseOk1, huParseOk1⟩ : ∃ u : Wd → Int, u = fun s => (parC s).tt := ⟨_, rfl⟩
    obtain ⟨uParseOk2, huParseOk2⟩ : ∃ u : Wd → Int, u = fun s => (parC s).pe := ⟨_, rfl⟩
    obtain ⟨uParseOk3, huParseOk3⟩ : ∃ u : Wd → Int, u = fun s => (parC s).pr := ⟨_, rfl⟩
    obtain ⟨uParseOk4, huParseOk4⟩ : ∃ u : Wd → Int, u = fun s => (parC s).mo := ⟨_, rfl⟩
    obtain ⟨uParseOk5, huParseOk5⟩ : ∃ u : Wd → List Dat, u = fun s => lvDs (parC s).ls := ⟨_, rfl⟩
    obtain ⟨uParseOk6, huParseOk6⟩ : ∃ u : Wd → List Dat, u = fun s => smDs (parC s).ss := ⟨_, rfl⟩
    obtain ⟨uPFormed, huPFormed⟩ : ∃ u : List Dat → List Dat → Bool, u = isCf := ⟨_, rfl⟩
    obtain ⟨uPFormed1, huPFormed1⟩ : ∃ u : Int → Int → Int → Int → List Dat → List Dat → Bool, u = fun a b c d ls ss => formC (cfOf a b c d ls ss) := ⟨_, rfl⟩
    obtain ⟨uPrintF, huPrintF⟩ : ∃ u : List Dat → List Dat → Bool, u = isCf0 := ⟨_, rfl⟩
    obtain ⟨uPrintF1, huPrintF1⟩ : ∃ u : Int → Int → Int → Int → List Dat → List Dat → Wd, u = fun a b c d ls ss => prS ⟨a, b, c, d, unLv ls, unSm ss⟩ := ⟨_, rfl⟩
    obtain ⟨uPrintF2, huPrintF2⟩ : ∃ u : Int → Int → Int → Int → List Dat → List Dat → Int, u = fun a b c d ls ss => prE ⟨a, b, c, d, unLv ls, unSm ss⟩ := ⟨_, rfl⟩
    obtain ⟨uSameCf, huSameCf⟩ : ∃ u : List Dat → List Dat → List Dat → List Dat → Bool, u = fun ls ss ks ts => isCf0 ls ss && isCf0 ks ts := ⟨_, rfl⟩
    obtain ⟨uSameCf1, huSameCf1⟩ : ∃ u : Int → Int → Int → Int → List Dat → List Dat → Int → Int → Int → Int → List Dat → List Dat → Bool, u = fun a b c d ls ss a2 b2 c2 d2 ks ts => sameC ⟨a, b, c, d, unLv ls, unSm ss⟩ ⟨a2, b2, c2, d2, unLv ks, unSm ts⟩ := ⟨_, rfl⟩
    have hG : TblOK Tryd.prog [(7, .p (φAwake11 )), (15, .p (φParseOk uParseOk uParseOk1 uParseOk2 uParseOk3 uParseOk4 uParseOk5 uParseOk6)), (12, .p (φPFormed uPFormed uPFormed1)), (10, .p (φPrintF uPrintF uPrintF1 uPrintF2)), (14, .p (φSameCf uSameCf uSameCf1))] := ⟨φAwake11_ok, (by rw [huParseOk, huParseOk1, huParseOk2, huParseOk3, huParseOk4, huParseOk5, huParseOk6]; exact φParseOk_ok), (by rw [huPFormed, huPFormed1]; exact φPFormed_ok), (by rw [huPrintF, huPrintF1, huPrintF2]; exact φPrintF_ok), (by rw [huSameCf, huSameCf1]; exact φSameCf_ok), trivial⟩
    refine ESpec.enter Tryd.func6 (by kernel_rfl) rfl (Nat.le_of_ble_eq_true rfl) fun hok cx hnt hfr => ?_
    obtain ⟨F, hF⟩ := real_ex
    refine AK.runT hF tabOK hmix hnt hfr true _ hG ?_
    conv => arg 4; cbv
    refine AKt.need rfl fun _ => AKt.no (by rw [hF]; rfl) ?_
    refine AKt.node (fun c1 => ?_) (fun c1 => ?_)
    · repeat' (first | with_reducible (first | refine AKt.have ?_ | refine AKt.tt ?_ | refine AKt.ff ?_ | refine AKt.yes (by assumption) ?_ | refine AKt.no (by assumption) ?_ | refine AKt.node (fun hb => ?_) (fun hb => ?_) | refine AKt.need ?_ (fun hb => ?_) | refine AKt.leaf ?_) | ((with_reducible show _ = true); assumption))
      refine AKp.doneE tabOK hfr (by rfl) ?_
      show _ = _
      simp only [tupAV]
    have hsl : s.length ≤ 20000 := by rw [hF, f_ltI, f_lenS] at c1; have := of_decide_eq_false c1; omega
    obtain ⟨C, hC⟩ : ∃ z, z = parC s := ⟨_, rfl⟩
    have hC2 : (parF s).1 = C := hC.symm
    rw [hC2] at hfm hle
    obtain ⟨a, ha⟩ : ∃ z, z = C.tt := ⟨_, rfl⟩
    obtain ⟨b, hb⟩ : ∃ z, z = C.pe := ⟨_, rfl⟩
    obtain ⟨c, hc⟩ : ∃ z, z = C.pr := ⟨_, rfl⟩
    obtain ⟨d, hd⟩ : ∃ z, z = C.mo := ⟨_, rfl⟩
    obtain ⟨ls, hls⟩ : ∃ z, z = lvDs C.ls := ⟨_, rfl⟩
    obtain ⟨ss, hss⟩ : ∃ z, z = smDs C.ss := ⟨_, rfl⟩
    have h : isCf0 ls ss = true := by rw [hls, hss]; exact isCf_of C
    have hcf : (⟨a, b, c, d, unLv ls, unSm ss⟩ : Cf) = C := by rw [ha, hb, hc, hd, hls, hss, un_lv, un_sm]
    have y1 : uParseOk1 s = a := by rw [huParseOk1]; show (parC s).tt = a; rw [← hC, ha]
    have y2 : uParseOk2 s = b := by rw [huParseOk2]; show (parC s).pe = b; rw [← hC, hb]
    have y3 : uParseOk3 s = c := by rw [huParseOk3]; show (parC s).pr = c; rw [← hC, hc]
    have y4 : uParseOk4 s = d := by rw [huParseOk4]; show (parC s).mo = d; rw [← hC, hd]
    have y5 : uParseOk5 s = ls := by rw [huParseOk5]; show lvDs (parC s).ls = ls; rw [← hC, hls]
    have y6 : uParseOk6 s = ss := by rw [huParseOk6]; show smDs (parC s).ss = ss; rw [← hC, hss]
    rw [y1, y2, y3, y4, y5, y6]
    have hS : prS C = txtW (cfW C) := by rw [prS, if_neg (by rw [hfm]; decide), if_neg (by omega)]
    have hE : prE C = 0 := by rw [prE, if_neg (by rw [hfm]; decide), if_neg (by omega)]
    have hbk := parse_back hfm (by omega)
    obtain ⟨tx, htx⟩ : ∃ z, z = uPrintF1 a b c d ls ss := ⟨_, rfl⟩
    have htx2 : tx = txtW (cfW C) := by rw [htx, huPrintF1]; show prS ⟨a, b, c, d, unLv ls, unSm ss⟩ = _; rw [hcf, hS]
    have hpe : uPrintF2 a b c d ls ss = 0 := by rw [huPrintF2]; show prE ⟨a, b, c, d, unLv ls, unSm ss⟩ = _; rw [hcf, hE]
    rw [← htx, hpe]
    rw [← htx2] at hbk hle
    have hq : parC tx = C := by rw [parC, hbk]
    have z1 : uParseOk1 tx = a := by rw [huParseOk1]; show (parC tx).tt = a; rw [hq, ha]
    have z2 : uParseOk2 tx = b := by rw [huParseOk2]; show (parC tx).pe = b; rw [hq, hb]
    have z3 : uParseOk3 tx = c := by rw [huParseOk3]; show (parC tx).pr = c; rw [hq, hc]
    have z4 : uParseOk4 tx = d := by rw [huParseOk4]; show (parC tx).mo = d; rw [hq, hd]
    have z5 : uParseOk5 tx = ls := by rw [huParseOk5]; show lvDs (parC tx).ls = ls; rw [hq, hls]
    have z6 : uParseOk6 tx = ss := by rw [huParseOk6]; show smDs (parC tx).ss = ss; rw [hq, hss]
    rw [z1, z2, z3, z4, z5, z6]
    rw [← htx, hpe]
    have p1 : uParseOk s = true := by rw [huParseOk]; exact decide_eq_true hcode
    have p2 : uParseOk tx = true := by rw [huParseOk]; exact decide_eq_true (by rw [hbk])
    have p3 : uPFormed ls ss = true := by rw [huPFormed]; exact h
    have p4 : uPFormed1 a b c d ls ss = true := by rw [huPFormed1]; show formC ⟨a, b, c, d, unLv ls, unSm ss⟩ = true; rw [hcf]; exact hfm
    have p5 : uPrintF ls ss = true := by rw [huPrintF]; exact h
    have p6 : uSameCf ls ss ls ss = true := by rw [huSameCf]; show (isCf0 ls ss && isCf0 ls ss) = true; rw [h]; rfl
    have p7 : uSameCf1 a b c d ls ss a b c d ls ss = true := by rw [huSameCf1]; exact decide_eq_true rfl
    have p8 : F .eqS tx tx = true := by rw [hF, f_eqS]; exact beq_self_eq_true _
    have p9 : F .eqI 0 0 = true := by rw [hF]; rfl
    have p10 : F .leI (F .lenS tx) (F .wrap .i64 (F .add (F .lenS s) 1)) = true := by
      have e := inc_i hF (iv := F .lenS s) (i := s.length) (by rw [hF, f_lenS]) (by omega)
      rw [e, hF, f_leI, f_lenS]
      exact decide_eq_true (by omega)
    refine AKt.need p1 fun _ => AKt.no (by rw [hF]; rfl) ?_
    refine AKt.need p3 fun _ => AKt.no (by rw [p4, hF]; rfl) ?_
    repeat' (first | with_reducible (first | refine AKt.have ?_ | refine AKt.tt ?_ | refine AKt.ff ?_ | refine AKt.yes (by assumption) ?_ | refine AKt.no (by assumption) ?_ | refine AKt.node (fun hb => ?_) (fun hb => ?_) | refine AKt.need ?_ (fun hb => ?_) | refine AKt.leaf ?_) | ((with_reducible show _ = true); assumption))
    refine AKp.doneE tabOK hfr (by rfl) ?_
    show _ = _
    simp only [tupAV]
    first
      | exact congrArg (fun z => AV.d (.s (.bool z))) p10
      | (rw [p7]; exact congrArg (fun z => AV.d (.s (.bool z))) p10)
  · have hcode2 := hcode
    obtain ⟨uParseBad, huParseBad⟩ : ∃ u : Wd → Bool, u = badP := ⟨_, rfl⟩
    obtain ⟨uParseBad1, huParseBad1⟩ : ∃ u : Wd → Int, u = fun s => (parF s).2.2 := ⟨_, rfl⟩
    obtain ⟨uParseBad2, huParseBad2⟩ : ∃ u : Wd → Int, u = fun s => (parF s).2.1 := ⟨_, rfl⟩
    have hG : TblOK Tryd.prog [(7, .p (φAwake11 )), (15, .p (φParseBad uParseBad uParseBad1 uParseBad2))] := ⟨φAwake11_ok, (by rw [huParseBad, huParseBad1, huParseBad2]; exact φParseBad_ok), trivial⟩
    refine ESpec.enter Tryd.func6 (by kernel_rfl) rfl (Nat.le_of_ble_eq_true rfl) fun hok cx hnt hfr => ?_
    obtain ⟨F, hF⟩ := real_ex
    refine AK.runT hF tabOK hmix hnt hfr true _ hG ?_
    conv => arg 4; cbv
    refine AKt.need rfl fun _ => AKt.no (by rw [hF]; rfl) ?_
    refine AKt.node (fun c1 => ?_) (fun c1 => ?_)
    · repeat' (first | with_reducible (first | refine AKt.have ?_ | refine AKt.tt ?_ | refine AKt.ff ?_ | refine AKt.yes (by assumption) ?_ | refine AKt.no (by assumption) ?_ | refine AKt.node (fun hb => ?_) (fun hb => ?_) | refine AKt.need ?_ (fun hb => ?_) | refine AKt.leaf ?_) | ((with_reducible show _ = true); assumption))
      refine AKp.doneE tabOK hfr (by rfl) ?_
      show _ = _
      simp only [tupAV]
    have p1 : uParseBad s = true := by rw [huParseBad]; exact decide_eq_true hcode
    refine AKt.need p1 fun _ => AKt.yes (by rw [hF]; rfl) ?_
    repeat' (first | with_reducible (first | refine AKt.have ?_ | refine AKt.tt ?_ | refine AKt.ff ?_ | refine AKt.yes (by assumption) ?_ | refine AKt.no (by assumption) ?_ | refine AKt.node (fun hb => ?_) (fun hb => ?_) | refine AKt.need ?_ (fun hb => ?_) | refine AKt.leaf ?_) | ((with_reducible show _ = true); assumption))
    refine AKp.doneE tabOK hfr (by rfl) ?_
    show _ = _
    simp only [tupAV]
theorem PrintOneT_spec (s : Wd) : ESpec Tryd.prog 6 [.d (.s (.str s))] (fun x => x = .d (.s (.bool true))) := printOne_spec s
end Go.Proofs.YtflpgbkdjelaaaaDoor

