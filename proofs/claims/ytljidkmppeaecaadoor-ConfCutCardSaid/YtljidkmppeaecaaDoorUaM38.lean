/- The library of this claim and its walks, part 38, joined out of smaller texts. No statement stands in it. -/
import Derived.Test.YtljidkmppeaecaaDoorUaM37
/- Chapter 10: the first fault is that of the beginning. -/
namespace Go.Proofs.YtljidkmppeaecaaDoor
open Go Go.Proofs Go.Ua Go.Extern
set_option linter.unusedVariables false
set_option linter.unusedSimpArgs false
set_option maxRecDepth 10000
def φAwake10  : List AV → Option (Bool × AV)
  | [] => some (true, .d (.s (.bool true)))
  | _ => none
theorem φAwake10_ok : SpOK Tryd.prog 8 (φAwake10 ) := by
  intro xs b x h hb
  unfold φAwake10 at h
  split at h
  · simp only [Option.some.injEq, Prod.mk.injEq] at h
    obtain ⟨rfl, rfl⟩ := h
    exact awake10_spec
  · cases h
theorem linesOf_take (ws : List Wd) (k : Nat) : (linesOf (ws.take k)).length ≤ (linesOf ws).length := by
  have : linesOf ws = linesOf (ws.take k) ++ linesOf (ws.drop k) := by
    conv => lhs; rw [← List.take_append_drop k ws]
    simp only [linesOf, List.map_append, List.flatten_append]
  rw [this, List.length_append]
  omega
theorem parseOkX (s : Wd) (h : (parF s).2.1 = 0) : ∃ (a b c d : Int) (L S : List Dat), ESpec Tryd.prog 9 [.d (.s (.str s))] (fun x => x = .tup [.d (.agg [.s (.int .i64 a), .s (.int .i64 b), .s (.int .i64 c), .s (.int .i64 d), .view 10 L, .view 5 S]), .d (.s .if0)]) :=
  ⟨_, _, _, _, _, _, parseOk_spec s (decide_eq_true h)⟩
theorem parseBadX (s : Wd) (n e : Int) (h : ¬ (parF s).2.1 = 0) (hn : n = (parF s).2.2) (he : e = (parF s).2.1) : ESpec Tryd.prog 9 [.d (.s (.str s))] (fun x => x = .tup [.d (.agg [.s (.int .i64 0), .s (.int .i64 0), .s (.int .i64 0), .s (.int .i64 0), .view 10 [], .view 5 []]), .d (.iface 68 (.agg [.s (.int .i64 n), .s (.str []), .iface 45 (.s (.int .i64 e))]))]) := by
  rw [hn, he]
  exact parseBad_spec s (decide_eq_true h)
set_option maxHeartbeats 4000000 in
set_option cbv.maxSteps 10000000 in
set_option maxRecDepth 100000 in
theorem confCut_spec (s : Wd) (k : Int) : ESpec Tryd.prog 6 [.d (.s (.str s)), .d (.s (.int .i64 k))] (fun x => x = .d (.s (.bool true))) := by
  obtain ⟨uRefLines, huRefLines⟩ : ∃ u : List UInt8 → Bool, u = le32 := ⟨_, rfl⟩
  obtain ⟨uRefLines1, huRefLines1⟩ : ∃ u : List UInt8 → List Dat, u = fun w => strDs (linesF w) := ⟨_, rfl⟩
  have hG : TblOK Tryd.prog [(8, .p (φAwake10 )), (15, .p (φRefLines uRefLines uRefLines1)), (13, .p (φFCode )), (14, .p (φFLine ))] := ⟨φAwake10_ok, (by rw [huRefLines, huRefLines1]; exact φRefLines_ok), φFCode_ok, φFLine_ok, trivial⟩
  refine ESpec.enter Tryd.func6 (by kernel_rfl) rfl (Nat.le_of_ble_eq_true rfl) fun hok cx hnt hfr => ?_
  obtain ⟨F, hF⟩ := real_ex
  refine AK.runT hF tabOK hmix hnt hfr true _ hG ?_
  conv => arg 4; cbv
  refine AKt.need rfl fun _ => AKt.no (by rw [hF]; rfl) ?_
  refine AKt.node (fun c1 => ?_) (fun c1 => ?_)
  · repeat' (first | with_reducible (first | refine AKt.have ?_ | refine AKt.tt ?_ | refine AKt.ff ?_ | refine AKt.yes (by assumption) ?_ | refine AKt.no (by assumption) ?_ | refine AKt.node (fun hb => ?_) (fun hb => ?_) | refine AKt.need ?_ (fun hb => ?_) | refine AKt.leaf ?_) | ((with_reducible show _ = true); assumption))
    refine AKp.doneE tabOK hfr (by rfl) ?_
    show _ = _
    simp only [tupAV]
  have hsl : s.length ≤ 8000 := by rw [hF, f_ltI, f_lenS] at c1; have := of_decide_eq_false c1; omega
  obtain ⟨l, hl⟩ : ∃ z, z = linesF s := ⟨_, rfl⟩
  obtain ⟨es, hes⟩ : ∃ z, z = uRefLines1 s := ⟨_, rfl⟩
  have hsd : es = strDs l := by rw [hes, hl, huRefLines1]
  have hel : es.length = l.length := by rw [hsd, strDs_length]
  have hls := lines_sum s
  have hll := lines_num s
  rw [← hl] at hll
  rw [← hl] at hls
  rw [← hes]
  refine AKt.need (by rw [huRefLines]; exact decide_eq_true (by omega)) fun _ => ?_
  refine AKt.node (fun c2 => ?_) (fun c2 => ?_)
  · repeat' (first | with_reducible (first | refine AKt.have ?_ | refine AKt.tt ?_ | refine AKt.ff ?_ | refine AKt.yes (by assumption) ?_ | refine AKt.no (by assumption) ?_ | refine AKt.node (fun hb => ?_) (fun hb => ?_) | refine AKt.need ?_ (fun hb => ?_) | refine AKt.leaf ?_) | ((with_reducible show _ = true); assumption))
    refine AKp.doneE tabOK hfr (by rfl) ?_
    show _ = _
    simp only [tupAV]
  refine AKt.node (fun c3 => ?_) (fun c3 => ?_)
  · repeat' (first | with_reducible (first | refine AKt.have ?_ | refine AKt.tt ?_ | refine AKt.ff ?_ | refine AKt.yes (by assumption) ?_ | refine AKt.no (by assumption) ?_ | refine AKt.node (fun hb => ?_) (fun hb => ?_) | refine AKt.need ?_ (fun hb => ?_) | refine AKt.leaf ?_) | ((with_reducible show _ = true); assumption))
    refine AKp.doneE tabOK hfr (by rfl) ?_
    show _ = _
    simp only [tupAV]
  have n2 : 0 ≤ k := by rw [hF, f_ltI] at c2; have := of_decide_eq_false c2; omega
  have n3 : k ≤ l.length := by rw [hF, f_ltI, f_lenD, hel] at c3; have := of_decide_eq_false c3; omega
  obtain ⟨K, hK⟩ : ∃ z : Nat, k = z := ⟨k.toNat, by omega⟩
  repeat' (first | with_reducible (first | refine AKt.have ?_ | refine AKt.tt ?_ | refine AKt.ff ?_ | refine AKt.yes (by assumption) ?_ | refine AKt.no (by assumption) ?_ | refine AKt.node (fun hb => ?_) (fun hb => ?_) | refine AKt.need ?_ (fun hb => ?_) | refine AKt.leaf ?_) | ((with_reducible show _ = true); assumption))
  refine AKp.enterLoop 7 ?_
  conv => arg 7; cbv
  refine AKl.invT hF tabOK hmix hnt hfr true _ hG (fun n vs hs => ∃ (i : Nat) (iv : Int) (tx : Wd), i + n = K ∧ iv = i ∧ tx = linesOf (l.take i) ∧ vs = [(7, .d (.s (.int .i64 iv))), (6, .d (.s (.str tx)))] ∧ hs = []) K ⟨0, _, [], by omega, rfl, rfl, rfl, rfl⟩ (by repeat (first | exact True.intro | refine ⟨⟨rfl, rfl⟩, ?_⟩)) (by repeat (first | exact True.intro | refine ⟨⟨rfl, rfl, rfl⟩, ?_⟩)) ?_
  rintro J n vs hs hJ ⟨i, iv, tx, hi, hiv, htx, rfl, rfl⟩
  conv => arg 4; cbv
  refine AKt.node (fun hb1 => ?_) (fun hb1 => ?_)
  · have hlt : i < K := by rw [hF, f_ltI] at hb1; have := of_decide_eq_true hb1; omega
    obtain ⟨x, hx⟩ : ∃ x, l[i]? = some x := ⟨_, List.getElem?_eq_getElem (by omega)⟩
    have hx1 : F .strA es iv 0 = x := by rw [hsd, hiv, t_strG hF, List.getD_eq_getElem?_getD, hx]; rfl
    have hx2 : F .hasD es iv [.str] = true := by rw [hsd, hiv]; exact t_hasG hF (by omega)
    have hxl : x.length ≤ s.length := lines_le (by rw [← hl]; exact List.mem_of_getElem? hx)
    have htl : tx.length ≤ s.length + 1 := by rw [htx]; have := linesOf_take l i; omega
    rw [hx1, t_app hF]
    refine AKt.need hx2 fun _ => AKt.need (t_hasCat hF (by simp only [List.length_singleton]; omega)) fun _ => AKt.need (t_hasCat hF (by rw [List.length_append]; simp only [List.length_singleton]; omega)) fun _ => ?_
    rw [t_app hF]
    have hnx : tx ++ (x ++ [10]) = linesOf (l.take (i + 1)) := by
      rw [htx, List.take_add_one, hx]
      simp [linesOf]
    repeat' (first | with_reducible (first | refine AKt.have ?_ | refine AKt.tt ?_ | refine AKt.ff ?_ | refine AKt.yes (by assumption) ?_ | refine AKt.no (by assumption) ?_ | refine AKt.node (fun hb => ?_) (fun hb => ?_) | refine AKt.need ?_ (fun hb => ?_) | refine AKt.leaf ?_) | ((with_reducible show _ = true); assumption))
    refine AKp.again _ hfr (by repeat (first | exact True.intro | refine ⟨⟨rfl, rfl⟩, ?_⟩)) (by repeat (first | exact True.intro | refine ⟨⟨rfl, rfl, rfl⟩, ?_⟩)) (hJ (n - 1) _ _ (by omega) ⟨i + 1, _, _, by omega, inc_i hF hiv (by omega), hnx, rfl, rfl⟩)
  have hge : ¬ i < K := by rw [hF, f_ltI] at hb1; have := of_decide_eq_false hb1; omega
  have hiK : i = K := by omega
  rw [hiK] at htx
  have hpl : tx.length ≤ 65536 := by rw [htx]; have := linesOf_take l K; omega
  obtain ⟨t1, t2, t3⟩ := parF_take (s := s) (by omega) K (by rw [← hl, ← htx]; exact hpl)
  rw [← hl, ← htx] at t1 t2 t3
  repeat' (first | with_reducible (first | refine AKt.have ?_ | refine AKt.tt ?_ | refine AKt.ff ?_ | refine AKt.yes (by assumption) ?_ | refine AKt.no (by assumption) ?_ | refine AKt.node (fun hb => ?_) (fun hb => ?_) | refine AKt.need ?_ (fun hb => ?_) | refine AKt.leaf ?_) | ((with_reducible show _ = true); assumption))
  obtain ⟨ln, hln⟩ : ∃ z, z = (parF s).2.2 := ⟨_, rfl⟩
  obtain ⟨cd, hcd⟩ : ∃ z, z = (parF s).2.1 := ⟨_, rfl⟩
  by_cases hc : (parF s).2.1 = 0
  · have hc2 := t1 hc
    obtain ⟨a1, a2, a3, a4, a5, a6, sp1⟩ := parseOkX s hc
    obtain ⟨b1, b2, b3, b4, b5, b6, sp2⟩ := parseOkX tx hc2
    clear t1 t2 t3 hc hc2 hln hcd
    refine AKp.call hF tabOK hnt sp1 rfl rfl rfl rfl rfl rfl rfl (by repeat' first | exact .refl _ | constructor) ?_
    rintro _ rfl
    refine AK.runT hF tabOK hmix hnt hfr true _ hG ?_
    conv => arg 4; cbv
    repeat' (first | with_reducible (first | refine AKt.have ?_ | refine AKt.tt ?_ | refine AKt.ff ?_ | refine AKt.yes (by assumption) ?_ | refine AKt.no (by assumption) ?_ | refine AKt.node (fun hb => ?_) (fun hb => ?_) | refine AKt.need ?_ (fun hb => ?_) | refine AKt.leaf ?_) | ((with_reducible show _ = true); assumption))
    refine AKp.call hF tabOK hnt sp2 rfl rfl rfl rfl rfl rfl rfl (by repeat' first | exact .refl _ | constructor) ?_
    rintro _ rfl
    refine AK.runT hF tabOK hmix hnt hfr true _ hG ?_
    conv => arg 4; cbv
    repeat' (first | with_reducible (first | refine AKt.have ?_ | refine AKt.tt ?_ | refine AKt.ff ?_ | refine AKt.yes (by assumption) ?_ | refine AKt.no (by assumption) ?_ | refine AKt.node (fun hb => ?_) (fun hb => ?_) | refine AKt.need ?_ (fun hb => ?_) | refine AKt.leaf ?_) | ((with_reducible show _ = true); assumption))
    refine AKp.doneE tabOK hfr (by rfl) ?_
    show _ = _
    simp only [tupAV]
  · have sp1 := parseBadX s ln cd hc hln hcd
    refine AKp.call hF tabOK hnt sp1 rfl rfl rfl rfl rfl rfl rfl (by repeat' first | exact .refl _ | constructor) ?_
    rintro _ rfl
    refine AK.runT hF tabOK hmix hnt hfr true _ hG ?_
    conv => arg 4; cbv
    repeat' (first | with_reducible (first | refine AKt.have ?_ | refine AKt.tt ?_ | refine AKt.ff ?_ | refine AKt.yes (by assumption) ?_ | refine AKt.no (by assumption) ?_ | refine AKt.node (fun hb => ?_) (fun hb => ?_) | refine AKt.need ?_ (fun hb => ?_) | refine AKt.leaf ?_) | ((with_reducible show _ = true); assumption))
    by_cases hle : (K : Int) < (parF s).2.2
    · have hc2 := t2 hc hle
      have g1 : F .ltI k ln = true := by rw [hF, f_ltI]; exact decide_eq_true (by omega)
      obtain ⟨b1, b2, b3, b4, b5, b6, sp2⟩ := parseOkX tx hc2
      refine AKp.call hF tabOK hnt sp2 rfl rfl rfl rfl rfl rfl rfl (by repeat' first | exact .refl _ | constructor) ?_
      rintro _ rfl
      refine AK.runT hF tabOK hmix hnt hfr true _ hG ?_
      conv => arg 4; cbv
      repeat' (first | with_reducible (first | refine AKt.have ?_ | refine AKt.tt ?_ | refine AKt.ff ?_ | refine AKt.yes (by assumption) ?_ | refine AKt.no (by assumption) ?_ | refine AKt.node (fun hb => ?_) (fun hb => ?_) | refine AKt.need ?_ (fun hb => ?_) | refine AKt.leaf ?_) | ((with_reducible show _ = true); assumption))
      refine AKp.doneE tabOK hfr (by rfl) ?_
      show _ = _
      simp only [tupAV]
    · have h3 := t3 hc (by omega)
      have hc2 : ¬ (parF tx).2.1 = 0 := by rw [h3]; exact hc
      have sp2 := parseBadX tx ln cd hc2 (by rw [h3, hln]) (by rw [h3, hcd])
      have g1 : F .ltI k ln = false := by rw [hF, f_ltI]; exact decide_eq_false (by omega)
      have g2 : F .eqI cd cd = true := by rw [hF, f_eqI]; exact beq_self_eq_true _
      have g3 : F .eqI ln ln = true := by rw [hF, f_eqI]; exact beq_self_eq_true _
      have g4 : F .not false = true := by rw [hF]; rfl
      refine AKp.call hF tabOK hnt sp2 rfl rfl rfl rfl rfl rfl rfl (by repeat' first | exact .refl _ | constructor) ?_
      rintro _ rfl
      refine AK.runT hF tabOK hmix hnt hfr true _ hG ?_
      conv => arg 4; cbv
      repeat' (first | with_reducible (first | refine AKt.have ?_ | refine AKt.tt ?_ | refine AKt.ff ?_ | refine AKt.yes (by assumption) ?_ | refine AKt.no (by assumption) ?_ | refine AKt.node (fun hb => ?_) (fun hb => ?_) | refine AKt.need ?_ (fun hb => ?_) | refine AKt.leaf ?_) | ((with_reducible show _ = true); assumption))
      refine AKp.doneE tabOK hfr (by rfl) ?_
      show _ = _
      simp only [tupAV]
      exact congrArg (fun z => AV.d (.s (.bool z))) g3
end Go.Proofs.YtljidkmppeaecaaDoor

