/- The errors that the law makes, the chain's links in a row of their own; FaultTells: the function returns true. -/
import Derived.Test.YtfblglnfplpagaaDoorUaNine14
namespace Go.Proofs.YtfblglnfplpagaaDoor
open Go Go.Proofs Go.Ua Go.Extern
set_option linter.unusedVariables false

theorem madeR_spec (code : Int) (ws : List WrapF) : ASpec Tryd.prog 15 [.d (.s (.int .i64 code)), .d (.view 3 (wrapDs ws))] [] 0
    (fun x h' fr' => x = .tup [.d (madeErr code ws).dat, .agg [.d (.s (.int .i64 code)), .row 0 2]] ∧ h' = [(0, .ds 50 2 (linkDs (linksOf ws)))] ∧ fr' = 1) := by
  obtain ⟨wd, hwd⟩ : ∃ d, d = wrapDs ws := ⟨_, rfl⟩
  rw [← hwd]
  have hwl : wd.length = ws.length := by rw [hwd]; simp [wrapDs]
  obtain ⟨base, hbase⟩ : ∃ b, b = baseF code := ⟨_, rfl⟩
  have hbn : base ≠ .nil := by rw [hbase]; unfold baseF; split <;> simp
  obtain ⟨bd, hbd⟩ : ∃ d, d = base.dat := ⟨_, rfl⟩
  have sn := ESpec.up (New_spec anotherS)
  unfold anotherS at sn
  unfold madeErr
  rw [← hbase]
  refine ASpec.enter Tryd.func15 (by kernel_rfl) rfl (Nat.le_of_ble_eq_true rfl) fun cx hnt hfr => ?_
  obtain ⟨F, hF⟩ := real_ex
  refine AK.run hF tabOK hnt ?_
  conv => arg 4; cbv
  cases hb0 : F .ltI code 0
  case' true =>
    have hlt := ltI_t hF hb0
    have hbd' : (ErrF.other [97, 110, 111, 116, 104, 101, 114]).dat = bd := by rw [hbd, hbase, baseF, if_pos hlt]; rfl
    rw [hbd'] at sn
    conv => arg 4; cbv
    refine AKp.call hF tabOK hnt sn rfl rfl rfl rfl rfl rfl rfl (by repeat' first | exact .refl _ | constructor) ?_
    rintro _ rfl
  case' false =>
    have hlt := ltI_f hF hb0
    have hbd' : Dat.iface 28 (.s (.int .i64 code)) = bd := by rw [hbd, hbase, baseF, if_neg hlt]; rfl
  all_goals
    conv => arg 4; cbv
    first | rw [hbd'] | skip
    refine AKp.asRowB 1 1 50 2 (by decide) rfl rfl (Nat.le_of_ble_eq_true rfl) ?_
    conv => arg 4; arg 2; cbv
    refine AKp.enterLoop 10 ?_
    conv => arg 7; cbv
    refine AKl.inv hF tabOK hnt hfr (fun n vs hs => ∃ (i : Nat) (iv : Int) (e : ErrF) (ed : Dat) (ls : List LinkF) (es : List Dat), i + n = 60 ∧ i ≤ ws.length ∧ iv = i ∧ e = errOf base ls ∧ ed = e.dat ∧ ls = (ws.take i).map normW ∧ es = linkDs ls ∧
        vs = [(8, .d (.s (.int .i64 iv))), (7, .d ed)] ∧ hs = [(2, .ds 50 2 es), (1, .cs 38 [.d (.s (.int .i64 code)), .row 2 2]), (0, .cs 38 [.d (.s (.int .i64 0)), .d (.s .sl0)])]) 60
      ⟨0, _, base, bd, [], [], by omega, Nat.zero_le _, rfl, rfl, hbd, rfl, rfl, rfl, rfl⟩ (by repeat (first | exact True.intro | refine ⟨⟨rfl, rfl⟩, ?_⟩)) (by repeat (first | exact True.intro | refine ⟨⟨rfl, rfl, rfl⟩, ?_⟩)) ?_
    rintro J n vs hs hJ ⟨i, iv, e, ed, ls, es, hi, hil0, hiv, he, hed, hls, hes, rfl, rfl⟩
    have hen : e ≠ .nil := by rw [he]; exact errOf_ne hbn ls
    obtain ⟨te, xe, rfl⟩ : ∃ t x, ed = .iface t x := by
      rcases e.form with ⟨h, _⟩ | ⟨_, t, x, h⟩
      · exact absurd h hen
      · exact ⟨t, x, by rw [hed, h]⟩
    have hesl : es.length ≤ 60 := by rw [hes, hls]; simp [linkDs]; omega
    conv => arg 4; cbv
    cases hb : F .ltI iv (F .lenD wd)
    case' true =>
      have hlt := ltI_t hF hb
      rw [f_lenD hF] at hlt
      conv => arg 4; cbv
      cases hb2 : F .ltI iv 60
      case' true =>
        have hlt2 := ltI_t hF hb2
        have hil : i < ws.length := by omega
        obtain ⟨y, hy⟩ : ∃ y, y = ws[i] := ⟨_, rfl⟩
        have htake : ws.take (i + 1) = ws.take i ++ [y] := by rw [hy]; exact List.take_succ_eq_append_getElem hil
        have hg : F .getD wd iv = some (.agg [.s (.int .i64 y.kind), .s (.int .i64 y.line), .s (.str y.what)]) := by
          rw [hF]; exact fr_getD (by rw [hwd]; simp [wrapDs, WrapF.dat, hil, hy]) hiv
        conv => arg 4; cbv
        rw [hg]
        conv => arg 4; cbv
        cases hk0 : F .eqI (F .tmod (F .wrap .u64 y.kind) 3) 0
        case' true =>
          have hk := eqI_t hF hk0
          have hnw : normW y = ⟨y.line, []⟩ := by unfold normW; rw [if_pos (by rw [hF] at hk; exact hk)]
          have sa := ESpec.up (At_spec y.line e)
          rw [show atF y.line e = errOf base (ls ++ [⟨y.line, []⟩]) by rw [errOf_snoc, ← he]; cases e <;> first | rfl | exact absurd rfl hen, ← hed] at sa
          obtain ⟨d3, hd3⟩ : ∃ d, d = (errOf base (ls ++ [⟨y.line, []⟩])).dat := ⟨_, rfl⟩
          rw [← hd3] at sa
          conv => arg 4; cbv
          refine AKp.call hF tabOK hnt sa rfl rfl rfl rfl rfl rfl rfl (by repeat' first | exact .refl _ | constructor) ?_
          rintro _ rfl
          conv => arg 4; cbv
          have hap : F .appD es [.agg [.s (.int .i64 y.line), .s (.str [])]] = es ++ [LinkF.dat ⟨y.line, []⟩] := by rw [hF]; rfl
          have hft : F .fits 24 (F .appD es [.agg [.s (.int .i64 y.line), .s (.str [])]]) = true := by rw [hap, hF]; exact decide_eq_true (by simp; omega)
          rw [hft]
          conv => arg 4; cbv
          rw [hap]
          subst hF
          refine AKp.againR [(2, 5)] _ hfr (by repeat (first | exact True.intro | refine ⟨⟨rfl, rfl⟩, ?_⟩)) (by repeat (first | exact True.intro | refine ⟨⟨Nat.le_of_ble_eq_true rfl, rfl, rfl⟩, ?_⟩)) rfl (hJ (n - 1) _ _ (by omega) ⟨i + 1, _, errOf base (ls ++ [⟨y.line, []⟩]), _, ls ++ [⟨y.line, []⟩], es ++ [LinkF.dat ⟨y.line, []⟩], by omega, by omega, inc_i64 (n := 60) hiv (by omega) (by decide), rfl, hd3, by rw [htake, List.map_append, ← hls, List.map_singleton, hnw], by rw [hes]; simp [linkDs], rfl, rfl⟩)
        case' false =>
          have hk := eqI_f hF hk0
          conv => arg 4; cbv
          cases hk1 : F .eqI (F .tmod (F .wrap .u64 y.kind) 3) 1
          case' true =>
            have hk2 := eqI_t hF hk1
            have hnw : normW y = ⟨0, y.what⟩ := by unfold normW; rw [if_neg (by rw [hF] at hk; exact hk), if_pos (by rw [hF] at hk2; exact hk2)]
            have sa := ESpec.up (Of_spec y.what e)
            rw [show ofF y.what e = errOf base (ls ++ [⟨0, y.what⟩]) by rw [errOf_snoc, ← he]; cases e <;> first | rfl | exact absurd rfl hen, ← hed] at sa
            obtain ⟨d3, hd3⟩ : ∃ d, d = (errOf base (ls ++ [⟨0, y.what⟩])).dat := ⟨_, rfl⟩
            rw [← hd3] at sa
            conv => arg 4; cbv
            refine AKp.call hF tabOK hnt sa rfl rfl rfl rfl rfl rfl rfl (by repeat' first | exact .refl _ | constructor) ?_
            rintro _ rfl
            conv => arg 4; cbv
            have hap : F .appD es [.agg [.s (.int .i64 0), .s (.str y.what)]] = es ++ [LinkF.dat ⟨0, y.what⟩] := by rw [hF]; rfl
            have hft : F .fits 24 (F .appD es [.agg [.s (.int .i64 0), .s (.str y.what)]]) = true := by rw [hap, hF]; exact decide_eq_true (by simp; omega)
            rw [hft]
            conv => arg 4; cbv
            rw [hap]
            subst hF
            refine AKp.againR [(2, 5)] _ hfr (by repeat (first | exact True.intro | refine ⟨⟨rfl, rfl⟩, ?_⟩)) (by repeat (first | exact True.intro | refine ⟨⟨Nat.le_of_ble_eq_true rfl, rfl, rfl⟩, ?_⟩)) rfl (hJ (n - 1) _ _ (by omega) ⟨i + 1, _, errOf base (ls ++ [⟨0, y.what⟩]), _, ls ++ [⟨0, y.what⟩], es ++ [LinkF.dat ⟨0, y.what⟩], by omega, by omega, inc_i64 (n := 60) hiv (by omega) (by decide), rfl, hd3, by rw [htake, List.map_append, ← hls, List.map_singleton, hnw], by rw [hes]; simp [linkDs], rfl, rfl⟩)
          case' false =>
            have hk2 := eqI_f hF hk1
            have hnw : normW y = ⟨y.line, y.what⟩ := by unfold normW; rw [if_neg (by rw [hF] at hk; exact hk), if_neg (by rw [hF] at hk2; exact hk2)]
            have hd3 : Dat.iface 27 (.agg [.s (.int .i64 y.line), .s (.str y.what), .iface te xe]) = (errOf base (ls ++ [⟨y.line, y.what⟩])).dat := by rw [errOf_snoc, ← he, hed]; rfl
            conv => arg 4; cbv
            have hap : F .appD es [.agg [.s (.int .i64 y.line), .s (.str y.what)]] = es ++ [LinkF.dat ⟨y.line, y.what⟩] := by rw [hF]; rfl
            have hft : F .fits 24 (F .appD es [.agg [.s (.int .i64 y.line), .s (.str y.what)]]) = true := by rw [hap, hF]; exact decide_eq_true (by simp; omega)
            rw [hft]
            conv => arg 4; cbv
            rw [hap]
            subst hF
            refine AKp.againR [(2, 5)] _ hfr (by repeat (first | exact True.intro | refine ⟨⟨rfl, rfl⟩, ?_⟩)) (by repeat (first | exact True.intro | refine ⟨⟨Nat.le_of_ble_eq_true rfl, rfl, rfl⟩, ?_⟩)) rfl (hJ (n - 1) _ _ (by omega) ⟨i + 1, _, errOf base (ls ++ [⟨y.line, y.what⟩]), _, ls ++ [⟨y.line, y.what⟩], es ++ [LinkF.dat ⟨y.line, y.what⟩], by omega, by omega, inc_i64 (n := 60) hiv (by omega) (by decide), rfl, hd3, by rw [htake, List.map_append, ← hls, List.map_singleton, hnw], by rw [hes]; simp [linkDs], rfl, rfl⟩)
      have hlt2 := ltI_f hF hb2
      have hfin : ls = linksOf ws := by rw [hls, linksOf, show i = 60 by omega]
      conv => arg 4; cbv
      refine AKp.drawn ?_
      refine DK.runV hF tabOK hnt hfr 0 ?_
      conv => arg 8; cbv
      refine DK.fin (by kernel_rfl) (by decide) ?_
      refine AK.run hF tabOK hnt ?_
      conv => arg 4; cbv
      rw [← hfin, ← he, ← hed, ← hes]
      exact AKp.doneR (x := .tup [.d (.iface te xe), .agg [.d (.s (.int .i64 code)), .row 0 2]]) (h' := [(0, .ds 50 2 es)]) (fr' := 1) tabOK [(0, 2)] hfr (by rfl) (by rfl) (by rfl) (by repeat (first | exact True.intro | refine ⟨⟨Nat.le_of_ble_eq_true rfl, rfl, rfl⟩, ?_⟩)) (by rfl) ⟨rfl, rfl, rfl⟩
    have hlt := ltI_f hF hb
    rw [f_lenD hF] at hlt
    have hfin : ls = linksOf ws := by rw [hls, linksOf, List.take_of_length_le (by omega), List.take_of_length_le (by omega)]
    conv => arg 4; cbv
    refine AKp.drawn ?_
    refine DK.runV hF tabOK hnt hfr 0 ?_
    conv => arg 8; cbv
    refine DK.fin (by kernel_rfl) (by decide) ?_
    refine AK.run hF tabOK hnt ?_
    conv => arg 4; cbv
    rw [← hfin, ← he, ← hed, ← hes]
    exact AKp.doneR (x := .tup [.d (.iface te xe), .agg [.d (.s (.int .i64 code)), .row 0 2]]) (h' := [(0, .ds 50 2 es)]) (fr' := 1) tabOK [(0, 2)] hfr (by rfl) (by rfl) (by rfl) (by repeat (first | exact True.intro | refine ⟨⟨Nat.le_of_ble_eq_true rfl, rfl, rfl⟩, ?_⟩)) (by rfl) ⟨rfl, rfl, rfl⟩
end Go.Proofs.YtfblglnfplpagaaDoor
