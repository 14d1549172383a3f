/- FaultChains: the function returns true. -/
import Derived.Test.YtfblglnfplpagaaDoorUaNine9
namespace Go.Proofs.YtfblglnfplpagaaDoor
open Go Go.Proofs Go.Ua Go.Extern
set_option linter.unusedVariables false

theorem baseF_cases (code : Int) : (code < 0 ∧ baseF code = .other anotherS) ∨ (¬ code < 0 ∧ baseF code = .num code) := by
  unfold baseF
  by_cases h : code < 0
  · exact .inl ⟨h, if_pos h⟩
  · exact .inr ⟨h, if_neg h⟩

theorem num_errOf (b : ErrF) (ls : List LinkF) : (errOf b ls).num? = b.num? := by
  rcases List.eq_nil_or_concat ls with rfl | ⟨l, x, rfl⟩
  · rfl
  · rw [List.concat_eq_append, errOf_snoc]
    exact num_errOf b l
termination_by ls.length
decreasing_by simp_all

theorem line_errOf (b : ErrF) (hb : lineF b = 0) (ls : List LinkF) : lineF (errOf b ls) = chLine ls := by
  rcases List.eq_nil_or_concat ls with rfl | ⟨l, x, rfl⟩
  · exact hb
  · rw [List.concat_eq_append, errOf_snoc, chLine_snoc, lineF, line_errOf b hb l]
termination_by ls.length
decreasing_by simp_all

theorem what_errOf (b : ErrF) (hb : whatF b = []) (ls : List LinkF) : whatF (errOf b ls) = chWhat ls := by
  rcases List.eq_nil_or_concat ls with rfl | ⟨l, x, rfl⟩
  · exact hb
  · rw [List.concat_eq_append, errOf_snoc, chWhat_snoc, whatF, what_errOf b hb l]
termination_by ls.length
decreasing_by simp_all

theorem base_ne (code : Int) : baseF code ≠ .nil := by
  rcases baseF_cases code with ⟨_, h⟩ | ⟨_, h⟩ <;> rw [h] <;> simp

theorem made_ne (code : Int) (ws : List WrapF) : madeErr code ws ≠ .nil := errOf_ne (base_ne code) _

theorem codeF_made (code : Int) (ws : List WrapF) : codeF (madeErr code ws) = chNum code := by
  have h : codeF (madeErr code ws) = (madeErr code ws).num?.getD 1 := by
    have := made_ne code ws
    cases he : madeErr code ws <;> first | rfl | exact absurd he this
  rw [h, madeErr, num_errOf, chNum]
  rcases baseF_cases code with ⟨h0, h⟩ | ⟨h0, h⟩ <;> rw [h]
  · rw [if_pos h0]; rfl
  · rw [if_neg h0]; rfl

theorem lineF_made (code : Int) (ws : List WrapF) : lineF (madeErr code ws) = chLine (linksOf ws) := by
  apply line_errOf
  rcases baseF_cases code with ⟨_, h⟩ | ⟨_, h⟩ <;> rw [h] <;> rfl

theorem whatF_made (code : Int) (ws : List WrapF) : whatF (madeErr code ws) = chWhat (linksOf ws) := by
  apply what_errOf
  rcases baseF_cases code with ⟨_, h⟩ | ⟨_, h⟩ <;> rw [h] <;> rfl

theorem FaultChains_spec (code : Int) (ws : List WrapF) : ESpec Tryd.prog 4 [.d (.s (.int .i64 code)), .d (.view 3 (wrapDs ws))] (fun x => x = .d (.s (.bool true))) := by
  have s0 := made_spec code ws
  have s1 := Code_spec (madeErr code ws)
  have s2 := Line_spec (madeErr code ws)
  have s3 := What_spec (madeErr code ws)
  have t1 := Number_spec code (linkDs (linksOf ws))
  have t2 := ChLine_spec code (linksOf ws)
  have t3 := ChWhat_spec code (linksOf ws)
  rw [codeF_made] at s1
  rw [lineF_made] at s2
  rw [whatF_made] at s3
  obtain ⟨ed, hed⟩ : ∃ d, d = (madeErr code ws).dat := ⟨_, rfl⟩
  obtain ⟨wd, hwd⟩ : ∃ d, d = wrapDs ws := ⟨_, rfl⟩
  obtain ⟨ld, hld⟩ : ∃ d, d = linkDs (linksOf ws) := ⟨_, rfl⟩
  obtain ⟨n, hn⟩ : ∃ d, d = chNum code := ⟨_, rfl⟩
  obtain ⟨l, hl⟩ : ∃ d, d = chLine (linksOf ws) := ⟨_, rfl⟩
  obtain ⟨w, hw⟩ : ∃ d, d = chWhat (linksOf ws) := ⟨_, rfl⟩
  rw [← hn] at s1 t1
  rw [← hl] at s2 t2
  rw [← hw] at s3 t3
  rw [← hld] at t1 t2 t3 s0
  rw [← hed] at s0 s1 s2 s3
  rw [← hwd] at s0 ⊢
  obtain ⟨te, xe, rfl⟩ : ∃ t x, ed = .iface t x := by
    rcases (madeErr code ws).form with ⟨h, _⟩ | ⟨_, t, x, h⟩
    · exact absurd h (made_ne code ws)
    · exact ⟨t, x, by rw [hed, h]⟩
  refine ESpec.enter Tryd.func4 (by kernel_rfl) rfl (Nat.le_of_ble_eq_true rfl) fun _ cx hnt hfr => ?_
  obtain ⟨F, hF⟩ := real_ex
  refine AK.run hF tabOK hnt ?_
  conv => arg 4; cbv
  refine AKp.call hF tabOK hnt awake_spec rfl rfl rfl rfl rfl rfl rfl (by repeat' first | exact .refl _ | constructor) ?_
  rintro _ rfl
  conv => arg 4; cbv
  rw [f_not1 hF]
  conv => arg 4; cbv
  refine AKp.call hF tabOK hnt s0 rfl rfl rfl rfl rfl rfl rfl (by repeat' first | exact .refl _ | constructor) ?_
  rintro _ rfl
  conv => arg 4; cbv
  refine AKp.drawn ?_
  refine DK.runV hF tabOK hnt hfr 0 ?_
  conv => arg 8; cbv
  first | rw [f_not0 hF] | rw [f_not1 hF] | skip
  conv => arg 8; cbv
  refine DK.call hF tabOK hnt hfr s1 4 rfl rfl rfl rfl rfl rfl rfl rfl (by repeat' first | exact .refl _ | constructor) ?_
  conv => arg 8; cbv
  refine DK.call hF tabOK hnt hfr t1 6 rfl rfl rfl rfl rfl rfl rfl rfl (by repeat' first | exact .refl _ | constructor) ?_
  conv => arg 8; cbv
  rw [eqI_r hF]
  conv => arg 8; cbv
  refine DK.call hF tabOK hnt hfr s2 11 rfl rfl rfl rfl rfl rfl rfl rfl (by repeat' first | exact .refl _ | constructor) ?_
  conv => arg 8; cbv
  refine DK.call hF tabOK hnt hfr t2 13 rfl rfl rfl rfl rfl rfl rfl rfl (by repeat' first | exact .refl _ | constructor) ?_
  conv => arg 8; cbv
  rw [eqI_r hF]
  conv => arg 8; cbv
  refine DK.call hF tabOK hnt hfr s3 18 rfl rfl rfl rfl rfl rfl rfl rfl (by repeat' first | exact .refl _ | constructor) ?_
  conv => arg 8; cbv
  refine DK.call hF tabOK hnt hfr t3 20 rfl rfl rfl rfl rfl rfl rfl rfl (by repeat' first | exact .refl _ | constructor) ?_
  conv => arg 8; cbv
  rw [eqS_r hF]
  conv => arg 8; cbv
  refine DK.fin (by kernel_rfl) (by decide) ?_
  refine AK.run hF tabOK hnt ?_
  conv => arg 4; cbv
  exact AKp.doneE tabOK hfr (by rfl) (by rfl)
end Go.Proofs.YtfblglnfplpagaaDoor
