/- The document's chain. -/
import Derived.Test.YtfblglnfplpagaaDoorUaNine7
namespace Go.Proofs.YtfblglnfplpagaaDoor
open Go Go.Proofs Go.Ua Go.Extern
set_option linter.unusedVariables false

theorem fr_getD {es : List Dat} {i : Nat} {d : Dat} {iv : Int} (h : es[i]? = some d) (hi : iv = i) : Fam.real .getD es iv = some d := by
  subst hi
  show getI es i = _
  simp [getI, h]

theorem wrap_s64 {n : Int} (h0 : -9223372036854775808 ≤ n) (h : n ≤ 9223372036854775807) : IntKind.i64.wrap n = n := by
  simp only [IntKind.wrap, IntKind.bits, IntKind.signed]
  simp
  split <;> omega

structure LinkF where
  line : Int
  what : List UInt8

def LinkF.dat (l : LinkF) : Dat := .agg [.s (.int .i64 l.line), .s (.str l.what)]
def linkDs (l : List LinkF) : List Dat := l.map LinkF.dat

def chNum (c : Int) : Int := if c < 0 then 1 else c
def chLine (l : List LinkF) : Int := l.foldl (fun a x => if x.line ≠ 0 then x.line else a) 0
def chWhat (l : List LinkF) : List UInt8 := l.foldl (fun a x => if x.what ≠ [] then x.what else a) []
theorem chLine_snoc (l : List LinkF) (x : LinkF) : chLine (l ++ [x]) = if x.line ≠ 0 then x.line else chLine l := by simp [chLine, List.foldl_append]
theorem chWhat_snoc (l : List LinkF) (x : LinkF) : chWhat (l ++ [x]) = if x.what ≠ [] then x.what else chWhat l := by simp [chWhat, List.foldl_append]

theorem Number_spec (code : Int) (es : List Dat) : ESpec Tryd.prog 16 [.d (.agg [.s (.int .i64 code), .view 2 es])] (fun x => x = .d (.s (.int .i64 (chNum code)))) := by
  refine ESpec.enter Tryd.func16 (by kernel_rfl) rfl (Nat.le_of_ble_eq_true rfl) fun _ cx hnt hfr => ?_
  obtain ⟨F, hF⟩ := real_ex
  refine AK.run hF tabOK hnt ?_
  conv => arg 4; cbv
  cases hb : F .ltI code 0
  · conv => arg 4; cbv
    rw [chNum, if_neg (ltI_f hF hb)]
    exact AKp.doneE tabOK hfr (by rfl) (by rfl)
  · conv => arg 4; cbv
    rw [chNum, if_pos (ltI_t hF hb)]
    exact AKp.doneE tabOK hfr (by rfl) (by rfl)

theorem ChLine_spec (code : Int) (ls : List LinkF) : ESpec Tryd.prog 17 [.d (.agg [.s (.int .i64 code), .view 2 (linkDs ls)])] (fun x => x = .d (.s (.int .i64 (chLine ls)))) := by
  obtain ⟨es, hes⟩ : ∃ e, e = linkDs ls := ⟨_, rfl⟩
  rw [← hes]
  have hel : es.length = ls.length := by rw [hes]; simp [linkDs]
  refine ESpec.enter Tryd.func17 (by kernel_rfl) rfl (Nat.le_of_ble_eq_true rfl) fun hok cx hnt hfr => ?_
  obtain ⟨F, hF⟩ := real_ex
  have hl' : ls.length ≤ maxLen := hel ▸ hok.1.2.1.1
  simp only [maxLen] at hl'
  refine AK.run hF tabOK hnt ?_
  conv => arg 4; cbv
  refine AKp.freezeBox 0 rfl rfl ?_
  conv => arg 4; arg 2; cbv
  refine AKp.enterLoop 4 ?_
  conv => arg 7; cbv
  subst hF
  refine AKl.inv rfl tabOK hnt hfr (fun n vs hs => ∃ iv : Int, iv = (n : Int) - 1 ∧ n ≤ ls.length ∧ chLine ls = chLine (ls.take n) ∧ vs = [(3, .d (.s (.int .i64 iv)))] ∧ hs = []) ls.length
    ⟨_, by show IntKind.i64.wrap ((es.length : Int) - 1) = _; rw [hel]; exact wrap_s64 (by omega) (by omega), Nat.le_refl _, by rw [List.take_length], rfl, rfl⟩ (by repeat (first | exact True.intro | refine ⟨⟨rfl, rfl⟩, ?_⟩)) (by repeat (first | exact True.intro | refine ⟨⟨rfl, rfl, rfl⟩, ?_⟩)) ?_
  rintro J n vs hs hJ ⟨iv, hiv, hn, htk, rfl, rfl⟩
  obtain ⟨F, hF⟩ := real_ex
  rw [← hF]
  conv => arg 4; cbv
  cases hb : F .leI 0 iv
  · have hlt : ¬ 0 ≤ iv := by rw [hF] at hb; exact of_decide_eq_false hb
    have hn0 : n = 0 := by omega
    conv => arg 4; cbv
    rw [htk, hn0, show chLine (ls.take 0) = 0 from rfl]
    exact AKp.doneE tabOK hfr (by rfl) (by rfl)
  · have hlt : 0 ≤ iv := by rw [hF] at hb; exact of_decide_eq_true hb
    have hil : n - 1 < ls.length := by omega
    obtain ⟨y, hy⟩ : ∃ y, y = ls[n - 1] := ⟨_, rfl⟩
    have htake : ls.take n = ls.take (n - 1) ++ [y] := by
      rw [hy]
      conv => lhs; rw [show n = (n - 1) + 1 by omega]
      exact List.take_succ_eq_append_getElem hil
    have hg : F .getD es iv = some (.agg [.s (.int .i64 y.line), .s (.str y.what)]) := by
      rw [hF]; exact fr_getD (i := n - 1) (by rw [hes]; simp [linkDs, LinkF.dat, hil, hy]) (by omega)
    conv => arg 4; cbv
    rw [hg]
    conv => arg 4; cbv
    cases hc : F .eqI y.line 0
    · have hc' := eqI_f hF hc
      rw [f_not0 hF]
      conv => arg 4; cbv
      rw [hg]
      conv => arg 4; cbv
      rw [htk, htake, chLine_snoc, if_pos hc']
      exact AKp.doneE tabOK hfr (by rfl) (by rfl)
    · have hc' := eqI_t hF hc
      rw [f_not1 hF]
      conv => arg 4; cbv
      subst hF
      exact AKp.again _ hfr (by repeat (first | exact True.intro | refine ⟨⟨rfl, rfl⟩, ?_⟩)) (by repeat (first | exact True.intro | refine ⟨⟨rfl, rfl, rfl⟩, ?_⟩)) (hJ (n - 1) _ _ (by omega) ⟨_, by show IntKind.i64.wrap (iv - 1) = _; rw [show IntKind.i64.wrap (iv - 1) = iv - 1 from wrap_s64 (by omega) (by omega)]; omega, by omega, by rw [htk, htake, chLine_snoc, if_neg (by simpa using hc')], rfl, rfl⟩)


theorem ChWhat_spec (code : Int) (ls : List LinkF) : ESpec Tryd.prog 18 [.d (.agg [.s (.int .i64 code), .view 2 (linkDs ls)])] (fun x => x = .d (.s (.str (chWhat ls)))) := by
  obtain ⟨es, hes⟩ : ∃ e, e = linkDs ls := ⟨_, rfl⟩
  rw [← hes]
  have hel : es.length = ls.length := by rw [hes]; simp [linkDs]
  refine ESpec.enter Tryd.func18 (by kernel_rfl) rfl (Nat.le_of_ble_eq_true rfl) fun hok cx hnt hfr => ?_
  obtain ⟨F, hF⟩ := real_ex
  have hl' : ls.length ≤ maxLen := hel ▸ hok.1.2.1.1
  simp only [maxLen] at hl'
  refine AK.run hF tabOK hnt ?_
  conv => arg 4; cbv
  refine AKp.freezeBox 0 rfl rfl ?_
  conv => arg 4; arg 2; cbv
  refine AKp.enterLoop 4 ?_
  conv => arg 7; cbv
  subst hF
  refine AKl.inv rfl tabOK hnt hfr (fun n vs hs => ∃ iv : Int, iv = (n : Int) - 1 ∧ n ≤ ls.length ∧ chWhat ls = chWhat (ls.take n) ∧ vs = [(3, .d (.s (.int .i64 iv)))] ∧ hs = []) ls.length
    ⟨_, by show IntKind.i64.wrap ((es.length : Int) - 1) = _; rw [hel]; exact wrap_s64 (by omega) (by omega), Nat.le_refl _, by rw [List.take_length], rfl, rfl⟩ (by repeat (first | exact True.intro | refine ⟨⟨rfl, rfl⟩, ?_⟩)) (by repeat (first | exact True.intro | refine ⟨⟨rfl, rfl, rfl⟩, ?_⟩)) ?_
  rintro J n vs hs hJ ⟨iv, hiv, hn, htk, rfl, rfl⟩
  obtain ⟨F, hF⟩ := real_ex
  rw [← hF]
  conv => arg 4; cbv
  cases hb : F .leI 0 iv
  · have hlt : ¬ 0 ≤ iv := by rw [hF] at hb; exact of_decide_eq_false hb
    have hn0 : n = 0 := by omega
    conv => arg 4; cbv
    rw [htk, hn0, show chWhat (ls.take 0) = [] from rfl]
    exact AKp.doneE tabOK hfr (by rfl) (by rfl)
  · have hlt : 0 ≤ iv := by rw [hF] at hb; exact of_decide_eq_true hb
    have hil : n - 1 < ls.length := by omega
    obtain ⟨y, hy⟩ : ∃ y, y = ls[n - 1] := ⟨_, rfl⟩
    have htake : ls.take n = ls.take (n - 1) ++ [y] := by
      rw [hy]
      conv => lhs; rw [show n = (n - 1) + 1 by omega]
      exact List.take_succ_eq_append_getElem hil
    have hg : F .getD es iv = some (.agg [.s (.int .i64 y.line), .s (.str y.what)]) := by
      rw [hF]; exact fr_getD (i := n - 1) (by rw [hes]; simp [linkDs, LinkF.dat, hil, hy]) (by omega)
    conv => arg 4; cbv
    rw [hg]
    conv => arg 4; cbv
    cases hc : F .eqS y.what []
    · have hc' := eqS_f hF hc
      rw [f_not0 hF]
      conv => arg 4; cbv
      rw [hg]
      conv => arg 4; cbv
      rw [htk, htake, chWhat_snoc, if_pos hc']
      exact AKp.doneE tabOK hfr (by rfl) (by rfl)
    · have hc' := eqS_t hF hc
      rw [f_not1 hF]
      conv => arg 4; cbv
      subst hF
      exact AKp.again _ hfr (by repeat (first | exact True.intro | refine ⟨⟨rfl, rfl⟩, ?_⟩)) (by repeat (first | exact True.intro | refine ⟨⟨rfl, rfl, rfl⟩, ?_⟩)) (hJ (n - 1) _ _ (by omega) ⟨_, by show IntKind.i64.wrap (iv - 1) = _; rw [show IntKind.i64.wrap (iv - 1) = iv - 1 from wrap_s64 (by omega) (by omega)]; omega, by omega, by rw [htk, htake, chWhat_snoc, if_neg (by simpa using hc')], rfl, rfl⟩)

theorem New_spec (m : List UInt8) : ESpec Tryd.prog 23 [.d (.s (.str m))] (fun x => x = .d (ErrF.other m).dat) := by
  refine ESpec.enter Tryd.func23 (by kernel_rfl) rfl (Nat.le_of_ble_eq_true rfl) fun _ cx hnt hfr => ?_
  obtain ⟨F, hF⟩ := real_ex
  refine AK.run hF tabOK hnt ?_
  conv => arg 4; cbv
  refine AKp.freezeBox 0 rfl rfl ?_
  conv => arg 4; arg 2; cbv
  exact AKp.doneE tabOK hfr (by rfl) (by rfl)
end Go.Proofs.YtfblglnfplpagaaDoor
