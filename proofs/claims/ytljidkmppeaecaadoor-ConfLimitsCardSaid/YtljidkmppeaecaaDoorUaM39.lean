/- The library of this claim and its walks, part 39, joined out of smaller texts. No statement stands in it. -/
import Derived.Test.YtljidkmppeaecaaDoorUaM29
import Derived.Test.YtljidkmppeaecaaDoorUaM30
import Derived.Test.YtljidkmppeaecaaDoorUaM31
import Derived.Test.YtljidkmppeaecaaDoorUaM38
/- A level by a line, as the document tells it. -/
namespace Go.Proofs.YtljidkmppeaecaaDoor
open Go Go.Proofs Go.Ua Go.Extern
set_option linter.unusedVariables false
set_option linter.unusedSimpArgs false
set_option maxRecDepth 10000

end Go.Proofs.YtljidkmppeaecaaDoor

/- A schema by a line, as the document tells it. -/
namespace Go.Proofs.YtljidkmppeaecaaDoor
open Go Go.Proofs Go.Ua Go.Extern
set_option linter.unusedVariables false
set_option linter.unusedSimpArgs false
set_option maxRecDepth 10000

end Go.Proofs.YtljidkmppeaecaaDoor

/- A rule by a line, as the document tells it. -/
namespace Go.Proofs.YtljidkmppeaecaaDoor
open Go Go.Proofs Go.Ua Go.Extern
set_option linter.unusedVariables false
set_option linter.unusedSimpArgs false
set_option maxRecDepth 10000

end Go.Proofs.YtljidkmppeaecaaDoor

/- A line, as the document tells it. -/
namespace Go.Proofs.YtljidkmppeaecaaDoor
open Go Go.Proofs Go.Ua Go.Extern
set_option linter.unusedVariables false
set_option linter.unusedSimpArgs false
set_option maxRecDepth 10000
end Go.Proofs.YtljidkmppeaecaaDoor

/- Configurations copied. -/
namespace Go.Proofs.YtljidkmppeaecaaDoor
open Go Go.Proofs Go.Ua Go.Extern
set_option linter.unusedVariables false
set_option linter.unusedSimpArgs false
set_option maxRecDepth 10000

end Go.Proofs.YtljidkmppeaecaaDoor

/- Are two configurations the same? -/
namespace Go.Proofs.YtljidkmppeaecaaDoor
open Go Go.Proofs Go.Ua Go.Extern
set_option linter.unusedVariables false
set_option linter.unusedSimpArgs false
set_option maxRecDepth 10000

end Go.Proofs.YtljidkmppeaecaaDoor

/- Are two configurations the same? (the whole) -/
namespace Go.Proofs.YtljidkmppeaecaaDoor
open Go Go.Proofs Go.Ua Go.Extern
set_option linter.unusedVariables false
set_option linter.unusedSimpArgs false
set_option maxRecDepth 10000

end Go.Proofs.YtljidkmppeaecaaDoor

/- Chapter 10: the document's reading, and any text is read as the document says. -/
namespace Go.Proofs.YtljidkmppeaecaaDoor
open Go Go.Proofs Go.Ua Go.Extern
set_option linter.unusedVariables false
set_option linter.unusedSimpArgs false
set_option maxRecDepth 10000
end Go.Proofs.YtljidkmppeaecaaDoor

/- Chapter 10: any text is read as the document says. -/
namespace Go.Proofs.YtljidkmppeaecaaDoor
open Go Go.Proofs Go.Ua Go.Extern
set_option linter.unusedVariables false
set_option linter.unusedSimpArgs false
set_option maxRecDepth 10000
end Go.Proofs.YtljidkmppeaecaaDoor

/- Chapter 10: as many as there may be, and one more. -/
namespace Go.Proofs.YtljidkmppeaecaaDoor
open Go Go.Proofs Go.Ua Go.Extern
set_option linter.unusedVariables false
set_option linter.unusedSimpArgs false
def lmT (hd on tl : Wd) (n : Nat) : Wd := hd ++ ((List.range n).map fun (i : Nat) => on ++ (digI (i : Int) ++ tl)).flatten
def lmH : Wd := [115,99,104,101,109,97,32,97,32,97,32,49,32,110,111,110,101,10]
theorem lm00 : (parF (lmT [] [108,101,118,101,108,32,97] [32,101,120,101,109,112,116,10] 16)).2.1 = 0 := by kernel_rfl
theorem lm01 : (parF (lmT [] [108,101,118,101,108,32,97] [32,101,120,101,109,112,116,10] 16)).1.ls.length = 16 := by kernel_rfl
theorem lm02 : (parF (lmT [] [108,101,118,101,108,32,97] [32,101,120,101,109,112,116,10] 17)).2 = (3, 17) := by kernel_rfl
theorem lm10 : (parF (lmT [] [115,99,104,101,109,97,32,97] [32,97,32,49,32,110,111,110,101,10] 32)).2.1 = 0 := by kernel_rfl
theorem lm11 : (parF (lmT [] [115,99,104,101,109,97,32,97] [32,97,32,49,32,110,111,110,101,10] 32)).1.ss.length = 32 := by kernel_rfl
theorem lm12 : (parF (lmT [] [115,99,104,101,109,97,32,97] [32,97,32,49,32,110,111,110,101,10] 33)).2 = (3, 33) := by kernel_rfl
theorem lm20 : (parF (lmT lmH [114,117,108,101,32,42,32,42,32,42,32,42,32,117] [10] 8)).2.1 = 0 := by kernel_rfl
theorem lm21 : (parF (lmT lmH [114,117,108,101,32,42,32,42,32,42,32,42,32,117] [10] 8)).1.ss.length = 1 := by kernel_rfl
theorem lm22 : (parF (lmT lmH [114,117,108,101,32,42,32,42,32,42,32,42,32,117] [10] 9)).2 = (3, 10) := by kernel_rfl
theorem lm03 : decide ((parF (lmT [] [108,101,118,101,108,32,97] [32,101,120,101,109,112,116,10] 16)).1.ls.length + (parF (lmT [] [108,101,118,101,108,32,97] [32,101,120,101,109,112,116,10] 16)).1.ss.length ≤ 1000) = true := by kernel_rfl
theorem lm13 : decide ((parF (lmT [] [115,99,104,101,109,97,32,97] [32,97,32,49,32,110,111,110,101,10] 32)).1.ls.length + (parF (lmT [] [115,99,104,101,109,97,32,97] [32,97,32,49,32,110,111,110,101,10] 32)).1.ss.length ≤ 1000) = true := by kernel_rfl
theorem lm23 : decide ((parF (lmT lmH [114,117,108,101,32,42,32,42,32,42,32,42,32,117] [10] 8)).1.ls.length + (parF (lmT lmH [114,117,108,101,32,42,32,42,32,42,32,42,32,117] [10] 8)).1.ss.length ≤ 1000) = true := by kernel_rfl
end Go.Proofs.YtljidkmppeaecaaDoor

/- Chapter 10: ConfLimits. -/
namespace Go.Proofs.YtljidkmppeaecaaDoor
open Go Go.Proofs Go.Ua Go.Extern
set_option linter.unusedVariables false
set_option linter.unusedSimpArgs false
set_option maxRecDepth 10000
theorem lmT_succ (hd on tl : Wd) (n : Nat) : lmT hd on tl (n + 1) = lmT hd on tl n ++ ((on ++ digI (n : Int)) ++ tl) := by
  unfold lmT
  rw [List.range_succ]
  simp
theorem dig40_len : ∀ n : Nat, n ≤ 40 → (digI (n : Int)).length ≤ 3 := by
  have h : ((List.range 41).all fun n => decide ((digI ((n : Nat) : Int)).length ≤ 3)) = true := by kernel_rfl
  intro n hn
  exact of_decide_eq_true (List.all_eq_true.1 h n (List.mem_range.2 (by omega)))
structure LimOK (hd on tl : Wd) (mo : Nat) (at_ : Int) : Prop where
  h1 : hd.length ≤ 100
  h2 : on.length ≤ 100
  h3 : tl.length ≤ 100
  h4 : mo ≤ 32
  ok : (parF (lmT hd on tl mo)).2.1 = 0
  ge : 1 ≤ (parF (lmT hd on tl mo)).1.ls.length + (parF (lmT hd on tl mo)).1.ss.length
  le : (parF (lmT hd on tl mo)).1.ls.length + (parF (lmT hd on tl mo)).1.ss.length ≤ 1000
  bad : (parF (lmT hd on tl (mo + 1))).2 = (3, at_)
  at1 : at_ = if hd = [] then (mo : Int) + 1 else (mo : Int) + 2
theorem lmT_len {hd on tl : Wd} (h1 : hd.length ≤ 100) (h2 : on.length ≤ 100) (h3 : tl.length ≤ 100) : ∀ n : Nat, n ≤ 40 → (lmT hd on tl n).length ≤ 100 + 203 * n
  | 0, _ => by unfold lmT; simp; omega
  | n + 1, h => by
    rw [lmT_succ]
    have := lmT_len h1 h2 h3 n (by omega)
    have := dig40_len n (by omega)
    simp only [List.length_append]
    omega
theorem not_iffX {F : Fam} (hF : F = Fam.real) {b : Bool} : (F .not b = true ↔ b = false) ∧ (F .not b = false ↔ b = true) := by
  rw [hF]
  show ((!b) = true ↔ b = false) ∧ ((!b) = false ↔ b = true)
  cases b <;> simp
theorem eqS_iffX {F : Fam} (hF : F = Fam.real) {a b : Wd} : (F .eqS a b = true ↔ a = b) ∧ (F .eqS a b = false ↔ ¬ a = b) := by
  rw [hF, f_eqS]; simp
set_option maxHeartbeats 4000000 in
set_option cbv.maxSteps 10000000 in
set_option maxRecDepth 100000 in
theorem confLimits_spec (kd : Int) : ESpec Tryd.prog 7 [.d (.s (.int .i64 kd))] (fun x => x = .d (.s (.bool true))) := by
  obtain ⟨uRefDigits, huRefDigits⟩ : ∃ u : Int → List UInt8, u = fun n => Lib.decDigits n.toNat := ⟨_, rfl⟩
  have hG : TblOK Tryd.prog [(8, .p (φAwake10 )), (16, .p (φRefDigits uRefDigits)), (13, .p (φFCode )), (14, .p (φFLine ))] := ⟨φAwake10_ok, (by rw [huRefDigits]; exact φRefDigits_ok), φFCode_ok, φFLine_ok, trivial⟩
  refine ESpec.enter Tryd.func7 (by kernel_rfl) rfl (Nat.le_of_ble_eq_true rfl) fun hok cx hnt hfr => ?_
  obtain ⟨F, hF⟩ := real_ex
  refine AK.runTs hF tabOK hmix hnt hfr [10] true _ hG ?_
  conv => arg 4; cbv
  refine AKt.need rfl fun _ => AKt.no (by rw [hF]; rfl) ?_
  refine exK ?K10 fun k10 hK10 => ?_
  rotate_left
  have rest10 : ∀ (hd on tl : Wd) (mo : Nat) (mv at_ : Int), mv = mo → LimOK hd on tl mo at_ → AK Tryd.prog cx (finE Tryd.prog Tryd.f7 cx fun x => x = .d (.s (.bool true))) k10 ⟨[(3, .d (.s (.str hd))), (4, .d (.s (.str on))), (5, .d (.s (.int .i64 mv))), (6, .d (.s (.str tl)))], [], 0⟩ := ?r10
  · refine AKt.node (fun q1 => ?_) (fun q1 => ?_)
    · refine AKt.leaf ?_
      refine AKp.join hK10 _ hfr ?_ ?_ (rest10 [] [115,99,104,101,109,97,32,97] [32,97,32,49,32,110,111,110,101,10] 32 32 33 rfl ⟨by decide, by decide, by decide, by decide, lm10, by rw [lm11]; omega, of_decide_eq_true lm13, lm12, by decide⟩)
      · repeat (first | exact True.intro | refine ⟨⟨rfl, rfl⟩, ?_⟩)
      · repeat (first | exact True.intro | refine ⟨⟨rfl, rfl, rfl⟩, ?_⟩)
    refine AKt.node (fun q2 => ?_) (fun q2 => ?_)
    · refine AKt.leaf ?_
      refine AKp.join hK10 _ hfr ?_ ?_ (rest10 lmH [114,117,108,101,32,42,32,42,32,42,32,42,32,117] [10] 8 8 10 rfl ⟨by decide, by decide, by decide, by decide, lm20, by rw [lm21]; omega, of_decide_eq_true lm23, lm22, by decide⟩)
      · repeat (first | exact True.intro | refine ⟨⟨rfl, rfl⟩, ?_⟩)
      · repeat (first | exact True.intro | refine ⟨⟨rfl, rfl, rfl⟩, ?_⟩)
    · refine AKt.leaf ?_
      refine AKp.join hK10 _ hfr ?_ ?_ (rest10 [] [108,101,118,101,108,32,97] [32,101,120,101,109,112,116,10] 16 16 17 rfl ⟨by decide, by decide, by decide, by decide, lm00, by rw [lm01]; omega, of_decide_eq_true lm03, lm02, by decide⟩)
      · repeat (first | exact True.intro | refine ⟨⟨rfl, rfl⟩, ?_⟩)
      · repeat (first | exact True.intro | refine ⟨⟨rfl, rfl, rfl⟩, ?_⟩)
  case' r10 =>
    intro hd on tl mo mv at_ hmv H
    rw [hK10]
    obtain ⟨b1, b2, b3, b4, hok1, hge, hle, hbad, hat⟩ := H
    have dg : ∀ n : Nat, uRefDigits (n : Int) = digI (n : Int) := fun n => by rw [huRefDigits]; rfl
    refine AK.runT hF tabOK hmix hnt hfr true _ hG ?_
    conv => arg 4; cbv
    repeat' (first | with_reducible (first | refine AKt.have ?_ | refine AKt.tt ?_ | refine AKt.ff ?_ | refine AKt.yes (by assumption) ?_ | refine AKt.no (by assumption) ?_ | refine AKt.node (fun hb => ?_) (fun hb => ?_) | refine AKt.need ?_ (fun hb => ?_) | refine AKt.leaf ?_) | ((with_reducible show _ = true); assumption))
    refine AKp.enterLoop 9 ?_
    conv => arg 7; cbv
    refine AKl.invT hF tabOK hmix hnt hfr true _ hG (fun n vs hs => ∃ (i : Nat) (iv : Int) (tx : Wd), i + n = mo ∧ iv = i ∧ tx = lmT hd on tl i ∧ vs = [(8, .d (.s (.int .i64 iv))), (7, .d (.s (.str tx)))] ∧ hs = []) mo ⟨0, _, hd, by omega, rfl, by unfold lmT; simp, rfl, rfl⟩ (by repeat (first | exact True.intro | refine ⟨⟨rfl, rfl⟩, ?_⟩)) (by repeat (first | exact True.intro | refine ⟨⟨rfl, rfl, rfl⟩, ?_⟩)) ?_
    rintro J n vs hs hJ ⟨i, iv, tx, hi, hiv, htx, rfl, rfl⟩
    conv => arg 4; cbv
    have htl := lmT_len b1 b2 b3 i (by omega)
    have hdl := dig40_len i (by omega)
    rw [← htx] at htl
    refine AKt.node (fun hbb => ?_) (fun hbb => ?_)
    · have hlt : i < mo := by rw [hF, f_ltI, hiv, hmv] at hbb; have := of_decide_eq_true hbb; omega
      have dgi : uRefDigits iv = digI (i : Int) := by rw [hiv]; exact dg i
      rw [dgi]
      simp only [t_app hF]
      refine AKt.need rfl fun _ => AKt.need (t_hasCat hF (by omega)) fun _ => AKt.need (t_hasCat hF (by simp only [List.length_append]; omega)) fun _ => AKt.need (t_hasCat hF (by simp only [List.length_append]; omega)) fun _ => ?_
      have hnx : tx ++ ((on ++ digI (i : Int)) ++ tl) = lmT hd on tl (i + 1) := by rw [lmT_succ, htx]
      repeat' (first | with_reducible (first | refine AKt.have ?_ | refine AKt.tt ?_ | refine AKt.ff ?_ | refine AKt.yes (by assumption) ?_ | refine AKt.no (by assumption) ?_ | refine AKt.node (fun hb => ?_) (fun hb => ?_) | refine AKt.need ?_ (fun hb => ?_) | refine AKt.leaf ?_) | ((with_reducible show _ = true); assumption))
      refine AKp.again _ hfr (by repeat (first | exact True.intro | refine ⟨⟨rfl, rfl⟩, ?_⟩)) (by repeat (first | exact True.intro | refine ⟨⟨rfl, rfl, rfl⟩, ?_⟩)) (hJ (n - 1) _ _ (by omega) ⟨i + 1, _, _, by omega, inc_i hF hiv (by omega), hnx, rfl, rfl⟩)
    have hge2 : ¬ i < mo := by rw [hF, f_ltI, hiv, hmv] at hbb; have := of_decide_eq_false hbb; omega
    have him : i = mo := by omega
    rw [him] at htx htl
    have hdm := dig40_len mo (by omega)
    obtain ⟨ty, hty⟩ : ∃ z, z = lmT hd on tl (mo + 1) := ⟨_, rfl⟩
    have hyl := lmT_len b1 b2 b3 (mo + 1) (by omega)
    rw [← hty] at hyl
    have ht2 : ((tx ++ on) ++ digI (mo : Int)) ++ tl = ty := by rw [hty, lmT_succ, htx]; simp
    repeat' (first | with_reducible (first | refine AKt.have ?_ | refine AKt.tt ?_ | refine AKt.ff ?_ | refine AKt.yes (by assumption) ?_ | refine AKt.no (by assumption) ?_ | refine AKt.node (fun hb => ?_) (fun hb => ?_) | refine AKt.need ?_ (fun hb => ?_) | refine AKt.leaf ?_) | ((with_reducible show _ = true); assumption))
    have hok2 : okP tx = true := decide_eq_true (by rw [htx]; exact hok1)
    have hbad2 : badP ty = true := decide_eq_true (by rw [hty, hbad]; exact (by decide : ¬ (3 : Int) = 0))
    have dgm : uRefDigits mv = digI (mo : Int) := by rw [hmv]; exact dg mo
    have _ := hok2
    obtain ⟨uParseOk, huParseOk⟩ : ∃ u : Wd → Bool, u = okP := ⟨_, rfl⟩
    obtain ⟨uParseOk1, huParseOk1⟩ : ∃ u : Wd → Int, u = fun s => (parC s).tt := ⟨_, rfl⟩
    obtain ⟨uParseOk2, huParseOk2⟩ : ∃ u : Wd → Int, u = fun s => (parC s).pe := ⟨_, rfl⟩
    obtain ⟨uParseOk3, huParseOk3⟩ : ∃ u : Wd → Int, u = fun s => (parC s).pr := ⟨_, rfl⟩
    obtain ⟨uParseOk4, huParseOk4⟩ : ∃ u : Wd → Int, u = fun s => (parC s).mo := ⟨_, rfl⟩
    obtain ⟨uParseOk5, huParseOk5⟩ : ∃ u : Wd → List Dat, u = fun s => lvDs (parC s).ls := ⟨_, rfl⟩
    obtain ⟨uParseOk6, huParseOk6⟩ : ∃ u : Wd → List Dat, u = fun s => smDs (parC s).ss := ⟨_, rfl⟩
    obtain ⟨uRefDigits, huRefDigits⟩ : ∃ u : Int → List UInt8, u = fun n => Lib.decDigits n.toNat := ⟨_, rfl⟩
    have hG : TblOK Tryd.prog [(9, .p (φParseOk uParseOk uParseOk1 uParseOk2 uParseOk3 uParseOk4 uParseOk5 uParseOk6)), (16, .p (φRefDigits uRefDigits)), (13, .p (φFCode )), (14, .p (φFLine ))] := ⟨(by rw [huParseOk, huParseOk1, huParseOk2, huParseOk3, huParseOk4, huParseOk5, huParseOk6]; exact φParseOk_ok), (by rw [huRefDigits]; exact φRefDigits_ok), φFCode_ok, φFLine_ok, trivial⟩
    have dgm2 : uRefDigits mv = digI (mo : Int) := by rw [hmv, huRefDigits]; rfl
    have p1 : uParseOk tx = true := by rw [huParseOk]; exact hok2
    refine AK.runTs hF tabOK hmix hnt hfr [16] true _ hG ?_
    conv => arg 4; cbv
    refine AKt.need p1 fun _ => AKt.leaf ?_
    obtain ⟨l5, hl5⟩ : ∃ z, z = uParseOk5 tx := ⟨_, rfl⟩
    obtain ⟨l6, hl6⟩ : ∃ z, z = uParseOk6 tx := ⟨_, rfl⟩
    rw [← hl5, ← hl6]
    rw [huParseOk5] at hl5
    rw [huParseOk6] at hl6
    have n5 : l5.length = (parF tx).1.ls.length := by rw [hl5]; exact lvDs_len _
    have n6 : l6.length = (parF tx).1.ss.length := by rw [hl6]; exact smDs_len _
    clear hG
    obtain ⟨uParseBad, huParseBad⟩ : ∃ u : Wd → Bool, u = badP := ⟨_, rfl⟩
    obtain ⟨uParseBad1, huParseBad1⟩ : ∃ u : Wd → Int, u = fun s => (parF s).2.2 := ⟨_, rfl⟩
    obtain ⟨uParseBad2, huParseBad2⟩ : ∃ u : Wd → Int, u = fun s => (parF s).2.1 := ⟨_, rfl⟩
    obtain ⟨uRefDigits, huRefDigits⟩ : ∃ u : Int → List UInt8, u = fun n => Lib.decDigits n.toNat := ⟨_, rfl⟩
    have hG : TblOK Tryd.prog [(9, .p (φParseBad uParseBad uParseBad1 uParseBad2)), (16, .p (φRefDigits uRefDigits)), (13, .p (φFCode )), (14, .p (φFLine ))] := ⟨(by rw [huParseBad, huParseBad1, huParseBad2]; exact φParseBad_ok), (by rw [huRefDigits]; exact φRefDigits_ok), φFCode_ok, φFLine_ok, trivial⟩
    have dgm3 : uRefDigits mv = digI (mo : Int) := by rw [hmv, huRefDigits]; rfl
    have p2 : uParseBad ty = true := by rw [huParseBad]; exact hbad2
    have v1 : uParseBad1 ty = at_ := by rw [huParseBad1, hty]; show (parF _).2.2 = at_; rw [hbad]
    have v2 : uParseBad2 ty = 3 := by rw [huParseBad2, hty]; show (parF _).2.1 = 3; rw [hbad]
    refine AK.runT hF tabOK hmix hnt hfr true _ hG ?_
    conv => arg 4; cbv
    rw [dgm3]
    simp only [t_app hF]
    rw [ht2, v1, v2]
    have hc1 : F .hasCat tx on = true := t_hasCat hF (by omega)
    have hc2 : F .hasCat (tx ++ on) (digI (mo : Int)) = true := t_hasCat hF (by simp only [List.length_append]; omega)
    have hc3 : F .hasCat (tx ++ on ++ digI (mo : Int)) tl = true := t_hasCat hF (by simp only [List.length_append]; omega)
    have e33 : F .eqI 3 3 = true := by rw [hF]; rfl
    have enf : F .not false = true := by rw [hF]; rfl
    have wad : ∀ x y : Int, 0 ≤ x + y → x + y ≤ 9223372036854775807 → F .wrap .i64 (F .add x y) = x + y := fun x y h1 h2 => by
      rw [hF]
      show IntKind.i64.wrap (x + y) = _
      exact w_i64 (by omega) (by omega)
    have l5b : l5.length + l6.length ≤ 1000 := by rw [n5, n6, htx]; exact hle
    have e1 : F .leI 1 (F .wrap .i64 (F .add (F .lenD l5) (F .lenD l6))) = true := by
      have a5 : F .lenD l5 = (l5.length : Int) := by rw [hF, f_lenD]
      have a6 : F .lenD l6 = (l6.length : Int) := by rw [hF, f_lenD]
      rw [a5, a6, wad _ _ (by omega) (by omega), hF, f_leI]
      exact decide_eq_true (by rw [n5, n6, htx]; omega)
    refine AKt.need hc1 fun _ => AKt.need rfl fun _ => AKt.need hc2 fun _ => AKt.need hc3 fun _ => AKt.need p2 fun _ => ?_
    refine AKt.node (fun qh => ?_) (fun qh => ?_)
    · simp only [not_iffX hF, eqS_iffX hF] at qh
      repeat' (first | with_reducible (first | refine AKt.have ?_ | refine AKt.tt ?_ | refine AKt.ff ?_ | refine AKt.yes (by assumption) ?_ | refine AKt.no (by assumption) ?_ | refine AKt.node (fun hb => ?_) (fun hb => ?_) | refine AKt.need ?_ (fun hb => ?_) | refine AKt.leaf ?_) | ((with_reducible show _ = true); assumption))
      refine AKp.doneE tabOK hfr (by rfl) ?_
      show _ = _
      simp only [tupAV]
      rw [if_neg qh] at hat
      rw [wad mv 1 (by omega) (by omega), wad _ 1 (by omega) (by omega), hat, hmv, hF, f_eqI]
      refine avb ?_
      simp
      omega
    · simp only [not_iffX hF, eqS_iffX hF] at qh
      repeat' (first | with_reducible (first | refine AKt.have ?_ | refine AKt.tt ?_ | refine AKt.ff ?_ | refine AKt.yes (by assumption) ?_ | refine AKt.no (by assumption) ?_ | refine AKt.node (fun hb => ?_) (fun hb => ?_) | refine AKt.need ?_ (fun hb => ?_) | refine AKt.leaf ?_) | ((with_reducible show _ = true); assumption))
      refine AKp.doneE tabOK hfr (by rfl) ?_
      show _ = _
      simp only [tupAV]
      rw [if_pos qh] at hat
      rw [wad mv 1 (by omega) (by omega), hat, hmv, hF, f_eqI]
      refine avb ?_
      simp
end Go.Proofs.YtljidkmppeaecaaDoor

