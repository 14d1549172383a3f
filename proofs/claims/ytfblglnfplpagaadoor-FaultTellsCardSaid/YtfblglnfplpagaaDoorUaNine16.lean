/- The errors that the law makes, the chain's links in a row of their own; FaultTells: the function returns true. -/
import Derived.Test.YtfblglnfplpagaaDoorUaNine15
namespace Go.Proofs.YtfblglnfplpagaaDoor
open Go Go.Proofs Go.Ua Go.Extern
set_option linter.unusedVariables false

theorem chLine_ok : ∀ {l : List LinkF} {a : Int}, I64 a → (∀ x, x ∈ l → I64 x.line) → I64 (l.foldl (fun a x => if x.line ≠ 0 then x.line else a) a)
  | [], a, h, _ => h
  | x :: r, a, h, hl => by
    rw [List.foldl_cons]
    refine chLine_ok ?_ fun y hy => hl y (List.mem_cons_of_mem _ hy)
    split
    · exact hl x (by simp)
    · exact h
theorem chWhat_ok {N : Nat} : ∀ {l : List LinkF} {a : List UInt8}, a.length ≤ N → (∀ x, x ∈ l → x.what.length ≤ N) → (l.foldl (fun a x => if x.what ≠ [] then x.what else a) a).length ≤ N
  | [], a, h, _ => h
  | x :: r, a, h, hl => by
    rw [List.foldl_cons]
    refine chWhat_ok ?_ fun y hy => hl y (List.mem_cons_of_mem _ hy)
    split
    · exact hl x (by simp)
    · exact h

theorem FaultTells_spec (code : Int) (ws : List WrapF) (line : Int) (what : List UInt8) (hws : ∀ w, w ∈ ws → w.what.length ≤ 4611686018427387904) (hwh : what.length ≤ 4611686018427387904) :
    ESpec Tryd.prog 7 [.d (.s (.int .i64 code)), .d (.view 3 (wrapDs ws)), .d (.s (.int .i64 line)), .d (.s (.str what))] (fun x => x = .d (.s (.bool true))) := by
  have s0 := madeR_spec code ws
  have saw := ESpec.up awake_spec
  obtain ⟨ls2, hls2⟩ : ∃ z, z = linksOf ws ++ [⟨line, what⟩] := ⟨_, rfl⟩
  have hE : ErrF.flt line what (madeErr code ws) = errOf (baseF code) ls2 := by rw [hls2, errOf_snoc]; rfl
  have hEl : lineF (.flt line what (madeErr code ws)) = chLine ls2 := by
    rw [hE]; apply line_errOf; rcases baseF_cases code with ⟨_, h⟩ | ⟨_, h⟩ <;> rw [h] <;> rfl
  have hEw : whatF (.flt line what (madeErr code ws)) = chWhat ls2 := by
    rw [hE]; apply what_errOf; rcases baseF_cases code with ⟨_, h⟩ | ⟨_, h⟩ <;> rw [h] <;> rfl
  have hEc : codeF (.flt line what (madeErr code ws)) = chNum code := by
    rw [← codeF_made code ws]
    have := made_ne code ws
    cases he : madeErr code ws <;> first | rfl | exact absurd he this
  have hmem : ∀ x, x ∈ ls2 → x = ⟨line, what⟩ ∨ ∃ w, w ∈ ws ∧ x = normW w := by
    intro x hx
    rw [hls2] at hx
    rcases List.mem_append.1 hx with hx | hx
    · obtain ⟨w, hw, rfl⟩ := List.mem_map.1 hx
      exact .inr ⟨w, List.mem_of_mem_take hw, rfl⟩
    · exact .inl (List.mem_singleton.1 hx)
  have hwl : (chWhat ls2).length ≤ 4611686018427387904 := by
    refine chWhat_ok (by simp) fun x hx => ?_
    rcases hmem x hx with rfl | ⟨w, hw, rfl⟩
    · exact hwh
    · have := hws w hw
      unfold normW
      split
      · simp
      · split <;> exact this
  have s1 := ESpec.up (ChLine_spec code ls2)
  have s2 := ESpec.up (ChWhat_spec code ls2)
  have s3 := ESpec.up (Number_spec code (linkDs ls2))
  have s4 := Error_spec line what (madeErr code ws) (by rw [hEw]; exact hwl)
  rw [hEl, hEw, hEc] at s4
  have hwd : wrapDs ws = wrapDs ws := rfl
  obtain ⟨wd, hwd⟩ : ∃ d, d = wrapDs ws := ⟨_, rfl⟩
  have hwdl : wd.length = ws.length := by rw [hwd]; simp [wrapDs]
  obtain ⟨ed, hed⟩ : ∃ d, d = (madeErr code ws).dat := ⟨_, rfl⟩
  obtain ⟨ld, hld⟩ : ∃ d, d = linkDs (linksOf ws) := ⟨_, rfl⟩
  obtain ⟨ld2, hld2⟩ : ∃ d, d = linkDs ls2 := ⟨_, rfl⟩
  have hldl : ld.length ≤ 60 := by rw [hld]; simp [linkDs, linksOf]; omega
  rw [← hed] at s0 s4
  rw [← hld] at s0
  rw [← hld2] at s1 s2 s3
  rw [← hwd] at s0 ⊢
  obtain ⟨te, xe, rfl⟩ : ∃ t x, ed = .iface t x := by
    rcases (madeErr code ws).form with ⟨h, _⟩ | ⟨_, t, x, h⟩
    · exact absurd h (made_ne code ws)
    · exact ⟨t, x, by rw [hed, h]⟩
  obtain ⟨n, hn⟩ : ∃ z, z = chLine ls2 := ⟨_, rfl⟩
  obtain ⟨w, hw⟩ : ∃ z, z = chWhat ls2 := ⟨_, rfl⟩
  obtain ⟨c, hc⟩ : ∃ z, z = chNum code := ⟨_, rfl⟩
  have hc0 : 0 ≤ c := by rw [hc]; unfold chNum; split <;> omega
  rw [← hn] at s1 s4
  rw [← hw] at s2 s4 hwl
  rw [← hc] at s3 s4
  obtain ⟨T, hT⟩ : ∃ z, z = textOf n w c := ⟨_, rfl⟩
  rw [← hT] at s4
  refine ESpec.enter Tryd.func7 (by kernel_rfl) rfl (Nat.le_of_ble_eq_true rfl) fun hok cx hnt hfr => ?_
  have hcode : I64 code := hok.1
  have hlineok : I64 line := hok.2.2.1
  have hnok : I64 n := by
    rw [hn]
    refine chLine_ok ⟨by decide, by decide⟩ fun x hx => ?_
    rcases hmem x hx with rfl | ⟨w, hw, rfl⟩
    · exact hlineok
    · have : I64 w.line := by
        have h1 : Doks wd := hok.2.1.2
        rw [hwd] at h1
        have h2 := Doks_iff.1 h1 w.dat (List.mem_map.2 ⟨w, hw, rfl⟩)
        exact h2.2.1
      unfold normW
      split
      · exact this
      · split
        · exact ⟨by show (-9223372036854775808 : Int) ≤ 0; decide, by show (0 : Int) ≤ 9223372036854775807; decide⟩
        · exact this
  have hcok : I64 c := by
    rw [hc]; unfold chNum
    split
    · exact ⟨by decide, by decide⟩
    · exact hcode
  have hm : maxLen = 9223372036854775807 := by decide
  have hI : (Lib.itoa n).length ≤ 21 := itoa_ok hnok
  have hC : (Lib.itoa c).length ≤ 21 := itoa_ok hcok
  have s5 : ESpec Tryd.prog 20 [.d (.s (.int .i64 c))] (fun x => x = .d (.s (.str (Lib.itoa c)))) := by
    have := Digits_spec c.toNat (by unfold I64 at hcok; omega)
    rw [← itoa_nat, show ((c.toNat : Nat) : Int) = c by omega] at this
    exact this
  have s6 : 0 < n → ESpec Tryd.prog 20 [.d (.s (.int .i64 n))] (fun x => x = .d (.s (.str (Lib.itoa n)))) := by
    intro h
    have := Digits_spec n.toNat (by unfold I64 at hnok; omega)
    rw [← itoa_nat, show ((n.toNat : Nat) : Int) = n by omega] at this
    exact this
  unfold textOf at hT
  obtain ⟨I, hIe⟩ : ∃ z, z = Lib.itoa n := ⟨_, rfl⟩
  obtain ⟨C, hCe⟩ : ∃ z, z = Lib.itoa c := ⟨_, rfl⟩
  rw [← hIe] at s6 hT hI
  rw [← hCe] at s5 hT hC
  obtain ⟨F, hF⟩ := real_ex
  refine AK.run hF tabOK hnt ?_
  conv => arg 4; cbv
  refine AKp.call hF tabOK hnt saw rfl rfl rfl rfl rfl rfl rfl (by repeat' first | exact .refl _ | constructor) ?_
  rintro _ rfl
  conv => arg 4; cbv
  rw [f_not1 hF]
  conv => arg 4; cbv
  cases hb1 : F .ltI 1000000 code
  case' true =>
    conv => arg 4; cbv
    exact AKp.doneE tabOK hfr (by rfl) (by rfl)
  case' false =>
    conv => arg 4; cbv
    cases hb2 : F .ltI 1000000 line
    case' true =>
      conv => arg 4; cbv
      exact AKp.doneE tabOK hfr (by rfl) (by rfl)
  conv => arg 4; cbv
  refine AKp.enterLoop 4 ?_
  conv => arg 7; cbv
  refine AKl.inv hF tabOK hnt hfr (fun m vs hs => ∃ (i : Nat) (iv : Int), i + m = 60 ∧ iv = i ∧ vs = [(9, .d (.s (.int .i64 iv)))] ∧ hs = []) 60
    ⟨0, _, by omega, rfl, rfl, rfl⟩ (by repeat (first | exact True.intro | refine ⟨⟨rfl, rfl⟩, ?_⟩)) (by repeat (first | exact True.intro | refine ⟨⟨rfl, rfl, rfl⟩, ?_⟩)) ?_
  rintro J m vs hs hJ ⟨i, iv, hi, hiv, rfl, rfl⟩
  conv => arg 4; cbv
  cases hb : F .ltI iv (F .lenD wd)
  case' true =>
    have hlt := ltI_t hF hb
    rw [f_lenD hF] at hlt
    conv => arg 4; cbv
    cases hb3 : F .ltI iv 60
    case' true =>
      have hlt2 := ltI_t hF hb3
      have hil : i < ws.length := by omega
      obtain ⟨y, hy⟩ : ∃ y, y = ws[i] := ⟨_, rfl⟩
      have hg : F .getD wd iv = some (.agg [.s (.int .i64 y.kind), .s (.int .i64 y.line), .s (.str y.what)]) := by
        rw [hF]; exact fr_getD (by rw [hwd]; simp [wrapDs, WrapF.dat, hil, hy]) hiv
      conv => arg 4; cbv
      rw [hg]
      conv => arg 4; cbv
      cases hb4 : F .ltI 1000000 y.line
      case' true =>
        conv => arg 4; cbv
        exact AKp.doneE tabOK hfr (by rfl) (by rfl)
      conv => arg 4; cbv
      subst hF
      exact AKp.again _ hfr (by repeat (first | exact True.intro | refine ⟨⟨rfl, rfl⟩, ?_⟩)) (by repeat (first | exact True.intro | refine ⟨⟨rfl, rfl, rfl⟩, ?_⟩)) (hJ (m - 1) _ _ (by omega) ⟨i + 1, _, by omega, inc_i64 (n := 60) hiv (by omega) (by decide), rfl, rfl⟩)
  all_goals
    conv => arg 4; cbv
    refine AKp.call1 hF tabOK hnt s0 rfl rfl rfl rfl rfl rfl rfl rfl rfl trivial ?_
    rintro x h' fr' ⟨rfl, rfl, rfl⟩
    conv => arg 4; cbv
    have hld2l : ld2.length ≤ 61 := by rw [hld2, hls2]; simp [linkDs, linksOf]; omega
    have hap : F .appD ld [.agg [.s (.int .i64 line), .s (.str what)]] = ld2 := by
      rw [hF, hld2, hls2]
      show ld ++ [_] = _
      rw [hld]; simp [linkDs, LinkF.dat]
    have hft : F .fits 24 (F .appD ld [.agg [.s (.int .i64 line), .s (.str what)]]) = true := by rw [hap, hF]; exact decide_eq_true (by omega)
    rw [hft]
    conv => arg 4; cbv
    rw [hap]
    refine AKp.freeze 4 rfl ?_
    conv => arg 4; arg 2; cbv
    refine AKp.call hF tabOK hnt s1 rfl rfl rfl rfl rfl rfl rfl (by repeat' first | exact .refl _ | constructor) ?_
    rintro _ rfl
    conv => arg 4; cbv
    cases hb6 : F .ltI 0 n
    case' true =>
      have hlt6 := ltI_t hF hb6
      rw [if_pos hlt6] at hT
      conv => arg 4; cbv
      refine AKp.call hF tabOK hnt (s6 hlt6) rfl rfl rfl rfl rfl rfl rfl (by repeat' first | exact .refl _ | constructor) ?_
      rintro _ rfl
      conv => arg 4; cbv
      rw [f_cat hF (a := [108, 105, 110, 101, 32]) (b := I) (by simp; omega)]
      obtain ⟨a1, ha1⟩ : ∃ z, z = [108, 105, 110, 101, 32] ++ I := ⟨_, rfl⟩
      rw [← ha1]
      have hl1 : a1.length ≤ 26 := by rw [ha1]; simp; omega
      conv => arg 4; cbv
      rw [f_cat hF (a := a1) (b := [58, 32]) (by simp; omega)]
      obtain ⟨a2, ha2⟩ : ∃ z, z = a1 ++ [58, 32] := ⟨_, rfl⟩
      rw [← ha2]
      have hl2 : a2.length ≤ 28 := by rw [ha2]; simp; omega
      rw [show (lineT ++ I) ++ [58, 32] = a2 by rw [ha2, ha1]; rfl] at hT
    case' false =>
      have hlt6 := ltI_f hF hb6
      rw [if_neg hlt6] at hT
      obtain ⟨a2, ha2⟩ : ∃ z : List UInt8, z = [] := ⟨_, rfl⟩
      have hl2 : a2.length ≤ 28 := by rw [ha2]; simp
      have hT : T = a2 ++ ((if w ≠ [] then w ++ [58, 32] else []) ++ (errorT ++ C)) := by rw [ha2]; exact hT
    all_goals
      conv => arg 4; cbv
      refine AKp.call hF tabOK hnt s2 rfl rfl rfl rfl rfl rfl rfl (by repeat' first | exact .refl _ | constructor) ?_
      rintro _ rfl
      conv => arg 4; cbv
      cases hb7 : F .eqS w []
      case' false =>
        have he := eqS_f hF hb7
        rw [if_pos he] at hT
        rw [f_not0 hF]
        conv => arg 4; cbv
        rw [f_cat hF (a := w) (b := [58, 32]) (by simp; omega)]
        obtain ⟨a3, ha3⟩ : ∃ z, z = w ++ [58, 32] := ⟨_, rfl⟩
        rw [← ha3]
        have hl3 : a3.length ≤ 4611686018427387906 := by rw [ha3]; simp; omega
        conv => arg 4; cbv
        first
          | rw [f_cat hF (a := a2) (b := a3) (by omega)]
          | rw [f_cat hF (a := []) (b := a3) (by simp; omega), show [] ++ a3 = a2 ++ a3 by rw [ha2]]
        obtain ⟨a4, ha4⟩ : ∃ z, z = a2 ++ a3 := ⟨_, rfl⟩
        rw [← ha4]
        have hl4 : a4.length ≤ 4611686018427387936 := by rw [ha4]; simp; omega
        rw [← ha3, ← List.append_assoc, ← ha4] at hT
      case' true =>
        have he := eqS_t hF hb7
        rw [if_neg (by simpa using he), List.nil_append] at hT
        rw [f_not1 hF]
        obtain ⟨a4, ha4⟩ : ∃ z, z = a2 := ⟨_, rfl⟩
        have hl4 : a4.length ≤ 4611686018427387936 := by rw [ha4]; omega
        rw [← ha4] at hT
      all_goals
        conv => arg 4; cbv
        refine AKp.drawn ?_
        refine DK.runV hF tabOK hnt hfr 0 ?_
        conv => arg 8; cbv
        refine DK.call hF tabOK hnt hfr s4 1 rfl rfl rfl rfl rfl rfl rfl rfl (by repeat' first | exact .refl _ | constructor) ?_
        conv => arg 8; cbv
        obtain ⟨a5, ha5⟩ : ∃ z, z = a4 ++ [101, 114, 114, 111, 114, 32] := ⟨_, rfl⟩
        have hl5 : a5.length ≤ 4611686018427387946 := by rw [ha5]; simp; omega
        have hT5 : a5 ++ C = T := by rw [hT, ha5]; simp [errorT]
        first
          | rw [f_cat hF (a := a4) (b := [101, 114, 114, 111, 114, 32]) (by simp; omega), ← ha5]
          | rw [f_cat hF (a := a2) (b := [101, 114, 114, 111, 114, 32]) (by simp; omega), show a2 ++ [101, 114, 114, 111, 114, 32] = a5 by rw [ha5, ha4]]
          | rw [f_cat hF (a := []) (b := [101, 114, 114, 111, 114, 32]) (by simp; omega), show [] ++ [101, 114, 114, 111, 114, 32] = a5 by rw [ha5, ha4, ha2]]
        conv => arg 8; cbv
        refine DK.call hF tabOK hnt hfr s3 5 rfl rfl rfl rfl rfl rfl rfl rfl (by repeat' first | exact .refl _ | constructor) ?_
        conv => arg 8; cbv
        refine DK.call hF tabOK hnt hfr s5 6 rfl rfl rfl rfl rfl rfl rfl rfl (by repeat' first | exact .refl _ | constructor) ?_
        conv => arg 8; cbv
        rw [f_cat hF (a := a5) (b := C) (by omega), hT5]
        conv => arg 8; cbv
        rw [eqS_r hF]
        conv => arg 8; cbv
        refine DK.fin (by kernel_rfl) (by decide) ?_
        refine AK.run hF tabOK hnt ?_
        conv => arg 4; cbv
        exact AKp.doneE tabOK hfr (by rfl) (by rfl)
end Go.Proofs.YtfblglnfplpagaaDoor
