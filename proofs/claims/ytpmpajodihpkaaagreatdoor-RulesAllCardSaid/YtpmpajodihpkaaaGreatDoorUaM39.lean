/- The library of this claim and its walks, part 39, joined out of smaller texts. No statement stands in it. -/
import Derived.Test.YtpmpajodihpkaaaGreatDoorUaM29
import Derived.Test.YtpmpajodihpkaaaGreatDoorUaM34
import Derived.Test.YtpmpajodihpkaaaGreatDoorUaM37
set_option linter.unusedSimpArgs false
set_option linter.unusedVariables false
namespace Go.Proofs.YtpmpajodihpkaaaGreatDoor
open Go Go.Proofs Go.Ua Go.Extern
set_option maxRecDepth 10000
def schC (c : Cf) (w : List Wd) : List Sm := if schE c w = 0 then c.ss ++ [smOf w] else c.ss
set_option maxHeartbeats 8000000 in
set_option cbv.maxSteps 10000000 in
theorem rschema_spec (c : Cf) (ws : List Wd) (hcl : c.ss.length ≤ 1000) : ESpec Tryz.prog 57 [.d (.agg [.s (.int .i64 c.tt), .s (.int .i64 c.pe), .s (.int .i64 c.pr), .s (.int .i64 c.mo), .view 10 (lvDs c.ls), .view 5 (smDs c.ss)]), .d (.view 1 (strDs ws))] (fun x => x = .tup [.d (.agg [.s (.int .i64 c.tt), .s (.int .i64 c.pe), .s (.int .i64 c.pr), .s (.int .i64 c.mo), .view 10 (lvDs c.ls), .view 5 (smDs (schC c ws))]), .d (.s (.int .i64 (schE c ws)))]) := by
 obtain ⟨uRefNumber, huRefNumber⟩ : ∃ u : List UInt8 → Int → Int → Int, u = numV := ⟨_, rfl⟩
 obtain ⟨uRefNumber1, huRefNumber1⟩ : ∃ u : List UInt8 → Int → Int → Bool, u = numB := ⟨_, rfl⟩
 obtain ⟨uRefName, huRefName⟩ : ∃ u : List UInt8 → Bool, u = nameF := ⟨_, rfl⟩
 have hG : TblOK Tryz.prog [(69, .p (φRefNumber uRefNumber uRefNumber1)), (70, .p (φRefName uRefName))] := ⟨(by rw [huRefNumber, huRefNumber1]; exact φRefNumber_ok), (by rw [huRefName]; exact φRefName_ok), trivial⟩
 obtain ⟨R, hR⟩ : ∃ z, z = smDs (schC c ws) := ⟨_, rfl⟩
 obtain ⟨E, hE⟩ : ∃ z, z = schE c ws := ⟨_, rfl⟩
 unfold schC at hR
 rw [← hE] at hR
 have hR' : R = if E = 0 then smDs (c.ss ++ [smOf ws]) else smDs c.ss := by rw [hR]; split <;> rfl
 rw [show smDs (schC c ws) = R by rw [hR, schC, ← hE], ← hE]
 clear hR
 unfold schE at hE
 obtain ⟨tt, pe, pr, mo, ls, ss⟩ := c
 simp only at hE hR' hcl ⊢
 obtain ⟨ld, hld⟩ : ∃ z, z = lvDs ls := ⟨_, rfl⟩
 obtain ⟨sd, hsd⟩ : ∃ z, z = smDs ss := ⟨_, rfl⟩
 obtain ⟨es, hes⟩ : ∃ z, z = strDs ws := ⟨_, rfl⟩
 rw [← hld, ← hsd, ← hes]
 rw [← hsd] at hR'
 have hsl : sd.length = ss.length := by rw [hsd, smDs_len]
 have hel : es.length = ws.length := by rw [hes, strDs_length]
 refine ESpec.enter Tryz.func57 (by kernel_rfl) rfl (Nat.le_of_ble_eq_true rfl) fun hok cx hnt hfr => ?_
 obtain ⟨F, hF⟩ := real_ex
 refine AK.runT hF tabOK hmix hnt hfr true _ hG ?_
 conv => arg 4; cbv
 have S : ∀ a b : Wd, F .eqS a b = true → a = b := fun a b h => by rw [hF, f_eqS] at h; exact eq_of_beq h
 have NS : ∀ a b : Wd, F .eqS a b = false → a ≠ b := fun a b h e => by rw [hF, f_eqS, e] at h; simp at h
 have SS : ∀ a b : Wd, F .eqS a b = decide (a = b) := fun a b => by
   rw [hF, f_eqS]
   by_cases e : a = b <;> simp [e]
 have hd : ∀ (n : Nat) (z : Int), n < ws.length → z = n → F .hasD es z [.str] = true := fun n z h hz => by rw [hes, hz]; exact t_hasG hF h
 have sa : ∀ (n : Nat) (z : Int), z = n → F .strA es z 0 = wAt ws n := fun n z hz => by rw [hes, hz]; exact w_at hF ws n
 have err : ∀ e : Int, E = e → e ≠ 0 → R = sd ∧ E = e := fun e h1 h2 => ⟨by rw [hR', h1, if_neg h2], h1⟩
 obtain ⟨w1, hw1⟩ : ∃ z, z = wAt ws 1 := ⟨_, rfl⟩
 obtain ⟨w2, hw2⟩ : ∃ z, z = wAt ws 2 := ⟨_, rfl⟩
 obtain ⟨w3, hw3⟩ : ∃ z, z = wAt ws 3 := ⟨_, rfl⟩
 obtain ⟨w4, hw4⟩ : ∃ z, z = wAt ws 4 := ⟨_, rfl⟩
 rw [← hw1, ← hw2, ← hw3, ← hw4] at hE
 rw [show F .strA es 1 0 = w1 by rw [hw1]; exact sa 1 1 rfl, show F .strA es 2 0 = w2 by rw [hw2]; exact sa 2 2 rfl, show F .strA es 3 0 = w3 by rw [hw3]; exact sa 3 3 rfl]
 refine AKt.node (fun hb => ?_) (fun hb => ?_)
 · have hne : ws.length ≠ 5 := by rw [hF, f_not, f_eqI, f_lenD, hel] at hb; intro e; rw [e] at hb; simp at hb
   rw [if_pos hne] at hE
   obtain ⟨g1, g2⟩ := err 2 hE (by decide)
   repeat' (first|with_reducible (first|refine qAh ?_|refine qAt ?_|refine qAf ?_|refine qAy (by assumption) ?_|refine qAn (by assumption) ?_|refine qAd (fun hb => ?_) (fun hb => ?_)|refine qAe ?_ (fun hb => ?_)|refine qAl ?_)|((with_reducible show _=true); assumption))
   refine AKp.doneE tabOK hfr (by rfl) ?_
   show _ = _
   simp only [tupAV]
   rw [g1, g2]
   rfl
 have h5 : ws.length = 5 := by rw [hF, f_not, f_eqI, f_lenD, hel] at hb; simp at hb; omega
 rw [if_neg (fun h => h h5)] at hE
 have u3 : uRefNumber w3 1 10000 = numV w3 1 10000 := by subst huRefNumber huRefNumber1 huRefName; rfl
 have b3 : uRefNumber1 w3 1 10000 = numB w3 1 10000 := by subst huRefNumber huRefNumber1 huRefName; rfl
 have n1 : uRefName w1 = nameF w1 := by subst huRefNumber huRefNumber1 huRefName; rfl
 have n2 : uRefName w2 = nameF w2 := by subst huRefNumber huRefNumber1 huRefName; rfl
 rw [u3, b3, n1, n2]
 obtain ⟨v3, hv3⟩ : ∃ z, z = numV w3 1 10000 := ⟨_, rfl⟩
 obtain ⟨c3, hc3⟩ : ∃ z, z = numB w3 1 10000 := ⟨_, rfl⟩
 obtain ⟨m1, hm1⟩ : ∃ z, z = nameF w1 := ⟨_, rfl⟩
 obtain ⟨m2, hm2⟩ : ∃ z, z = nameF w2 := ⟨_, rfl⟩
 rw [← hv3, ← hc3, ← hm1, ← hm2]
 rw [← hc3, ← hm1, ← hm2] at hE
 have g1 : F .hasD es 1 [.str] = true := hd 1 1 (by omega) rfl
 have g2 : F .hasD es 2 [.str] = true := hd 2 2 (by omega) rfl
 have g3 : F .hasD es 3 [.str] = true := hd 3 3 (by omega) rfl
 have g4 : F .hasD es 4 [.str] = true := hd 4 4 (by omega) rfl
 have e4 : F .strA es 4 0 = w4 := by rw [hw4]; exact sa 4 4 rfl
 repeat' (first|with_reducible (first|refine qAh ?_|refine qAt ?_|refine qAf ?_|refine qAy (by assumption) ?_|refine qAn (by assumption) ?_|refine qAd (fun hb => ?_) (fun hb => ?_)|refine qAe ?_ (fun hb => ?_)|refine qAl ?_)|((with_reducible show _=true); assumption))
 · have hx : m1 = false := by have h : F .not m1 = true := by assumption
                              rw [hF, f_not] at h; simpa using h
   obtain ⟨q1, q2⟩ := err 4 (by rw [hE, hx]; rfl) (by decide)
   refine AKp.doneE tabOK hfr (by rfl) ?_
   show _ = _
   simp only [tupAV]
   rw [q1, q2]
   rfl
 · have hx : m2 = false := by have h : F .not m2 = true := by assumption
                              rw [hF, f_not] at h; simpa using h
   obtain ⟨q1, q2⟩ := err 4 (by rw [hE, hx, Bool.and_false]; rfl) (by decide)
   refine AKp.doneE tabOK hfr (by rfl) ?_
   show _ = _
   simp only [tupAV]
   rw [q1, q2]
   rfl
 · have hx : c3 = false := by have h : F .not c3 = true := by assumption
                              rw [hF, f_not] at h; simpa using h
   have y1 : m1 = true := by have h : F .not m1 = false := by assumption
                             rw [hF, f_not] at h; simpa using h
   have y2 : m2 = true := by have h : F .not m2 = false := by assumption
                             rw [hF, f_not] at h; simpa using h
   obtain ⟨q1, q2⟩ := err 8 (by rw [hE, hx, y1, y2]; rfl) (by decide)
   refine AKp.doneE tabOK hfr (by rfl) ?_
   show _ = _
   simp only [tupAV]
   rw [q1, q2]
   rfl
 have y1 : m1 = true := by have h : F .not m1 = false := by assumption
                           rw [hF, f_not] at h; simpa using h
 have y2 : m2 = true := by have h : F .not m2 = false := by assumption
                           rw [hF, f_not] at h; simpa using h
 have y3 : c3 = true := by have h : F .not c3 = false := by assumption
                           rw [hF, f_not] at h; simpa using h
 rw [y1, y2, y3, if_neg (by decide), if_neg (by decide)] at hE
 refine exK ?K18 fun k18 hK18 => ?_
 rotate_left
 have rest18 : ∀ bv : Int, byB w4 = true → bv = byV w4 → AK Tryz.prog cx (finE Tryz.prog Tryz.f57 cx (fun x => x = .tup [.d (.agg [.s (.int .i64 tt), .s (.int .i64 pe), .s (.int .i64 pr), .s (.int .i64 mo), .view 10 ld, .view 5 R]), .d (.s (.int .i64 E))])) k18
     ⟨[(11, .d (.s (.int .i64 0))), (1, .d (.view 1 es)), (6, .d (.s (.int .i64 v3))), (8, .d (.s (.int .i64 bv))), (2, .ptr 0 0 0 6), (4, .ptr 1 0 0 6)], [(0, .cs 25 [.d (.s (.int .i64 tt)), .d (.s (.int .i64 pe)), .d (.s (.int .i64 pr)), .d (.s (.int .i64 mo)), .d (.view 10 ld), .d (.view 5 sd)]), (1, .cs 25 [.d (.s (.int .i64 0)), .d (.s (.int .i64 0)), .d (.s (.int .i64 0)), .d (.s (.int .i64 0)), .d (.s .sl0), .d (.s .sl0)])], 2⟩ := ?r18
 have by4 : (w4 = NONE ∧ byB w4 = true ∧ byV w4 = 0) ∨ (w4 = USER ∧ byB w4 = true ∧ byV w4 = 1) ∨ (w4 = SPACE ∧ byB w4 = true ∧ byV w4 = 2) ∨ (w4 ≠ NONE ∧ w4 ≠ USER ∧ w4 ≠ SPACE ∧ byB w4 = false) := by
   by_cases h1 : w4 = NONE
   · exact .inl ⟨h1, by rw [h1]; rfl, by rw [h1]; rfl⟩
   by_cases h2 : w4 = USER
   · exact .inr (.inl ⟨h2, by rw [h2]; rfl, by rw [h2]; rfl⟩)
   by_cases h3 : w4 = SPACE
   · exact .inr (.inr (.inl ⟨h3, by rw [h3]; rfl, by rw [h3]; rfl⟩))
   exact .inr (.inr (.inr ⟨h1, h2, h3, by rw [byB, decide_eq_false h1, decide_eq_false h2, decide_eq_false h3]; rfl⟩))
 have three : F .inB 0 3 = some 0 ∧ F .inB 1 3 = some 1 ∧ F .inB 2 3 = some 2 := by rw [hF]; exact ⟨rfl, rfl, rfl⟩
 have lt3 : F .ltI 0 3 = true ∧ F .ltI 1 3 = true ∧ F .ltI 2 3 = true ∧ F .ltI 3 3 = false := by rw [hF]; exact ⟨rfl, rfl, rfl, rfl⟩
 have ad3 : F .wrap .i64 (F .add 0 1) = 1 ∧ F .wrap .i64 (F .add 1 1) = 2 ∧ F .wrap .i64 (F .add 2 1) = 3 := by rw [hF]; exact ⟨rfl, rfl, rfl⟩
 obtain ⟨t0, t1, t2⟩ := three
 obtain ⟨l0, l1, l2, l3⟩ := lt3
 obtain ⟨a0, a1, a2⟩ := ad3
 have ng : F .ltI 0 0 = false ∧ F .ltI 1 0 = false ∧ F .ltI 2 0 = false ∧ F .ltI (-1) 0 = true := by rw [hF]; exact ⟨rfl, rfl, rfl, rfl⟩
 obtain ⟨ng0, ng1, ng2, ng3⟩ := ng
 have q0 : F .eqS w4 [110, 111, 110, 101] = decide (w4 = NONE) := SS _ _
 have q1 : F .eqS w4 [117, 115, 101, 114] = decide (w4 = USER) := SS _ _
 have q2 : F .eqS w4 [115, 112, 97, 99, 101] = decide (w4 = SPACE) := SS _ _
 refine AKp.unroll 4 fun J0 n0 => ?_
 refine AK.runT hF tabOK hmix hnt hfr true _ hG ?_
 conv => arg 4; cbv
 refine AKt.yes l0 ?_
 refine AKt.need g4 fun _ => ?_
 rw [t0]
 conv => arg 4; cbv
 rw [e4]
 rcases by4 with ⟨h4, bb, bvv⟩ | ⟨h4, bb, bvv⟩ | ⟨h4, bb, bvv⟩ | ⟨h4, h4b, h4c, bb⟩
 · have f0 : F .eqS w4 [110, 111, 110, 101] = true := by rw [q0, h4]; rfl
   have f1 : F .eqS w4 [117, 115, 101, 114] = false := by rw [q1, h4]; rfl
   have f2 : F .eqS w4 [115, 112, 97, 99, 101] = false := by rw [q2, h4]; rfl
   refine AKt.yes f0 ?_
   repeat' (first|with_reducible (first|refine qAh ?_|refine qAt ?_|refine qAf ?_|refine qAy (by assumption) ?_|refine qAn (by assumption) ?_|refine qAd (fun hb => ?_) (fun hb => ?_)|refine qAe ?_ (fun hb => ?_)|refine qAl ?_)|((with_reducible show _=true); assumption))
   rw [a0]
   obtain ⟨J1, n1, nx⟩ := n0
   refine AKp.backTo (nx _ ?_)
   clear nx
   refine AK.runT hF tabOK hmix hnt hfr true _ hG ?_
   conv => arg 4; cbv
   refine AKt.yes l1 ?_
   refine AKt.need g4 fun _ => ?_
   rw [t1]
   conv => arg 4; cbv
   rw [e4]
   refine AKt.no f1 ?_
   repeat' (first|with_reducible (first|refine qAh ?_|refine qAt ?_|refine qAf ?_|refine qAy (by assumption) ?_|refine qAn (by assumption) ?_|refine qAd (fun hb => ?_) (fun hb => ?_)|refine qAe ?_ (fun hb => ?_)|refine qAl ?_)|((with_reducible show _=true); assumption))
   rw [a1]
   obtain ⟨J2, n2, nx⟩ := n1
   refine AKp.backTo (nx _ ?_)
   clear nx
   refine AK.runT hF tabOK hmix hnt hfr true _ hG ?_
   conv => arg 4; cbv
   refine AKt.yes l2 ?_
   refine AKt.need g4 fun _ => ?_
   rw [t2]
   conv => arg 4; cbv
   rw [e4]
   refine AKt.no f2 ?_
   repeat' (first|with_reducible (first|refine qAh ?_|refine qAt ?_|refine qAf ?_|refine qAy (by assumption) ?_|refine qAn (by assumption) ?_|refine qAd (fun hb => ?_) (fun hb => ?_)|refine qAe ?_ (fun hb => ?_)|refine qAl ?_)|((with_reducible show _=true); assumption))
   rw [a2]
   obtain ⟨J3, n3, nx⟩ := n2
   refine AKp.backTo (nx _ ?_)
   clear nx
   refine AK.runT hF tabOK hmix hnt hfr true _ hG ?_
   conv => arg 4; cbv
   refine AKt.no l3 ?_
   refine AKt.no ng0 ?_
   repeat' (first|with_reducible (first|refine qAh ?_|refine qAt ?_|refine qAf ?_|refine qAy (by assumption) ?_|refine qAn (by assumption) ?_|refine qAd (fun hb => ?_) (fun hb => ?_)|refine qAe ?_ (fun hb => ?_)|refine qAl ?_)|((with_reducible show _=true); assumption))
   refine AKp.join hK18 _ hfr ?_ ?_ (rest18 0 bb bvv.symm)
   · repeat (first | exact True.intro | refine ⟨⟨rfl, rfl⟩, ?_⟩)
   · repeat (first | exact True.intro | refine ⟨⟨rfl, rfl, rfl⟩, ?_⟩)
 · have f0 : F .eqS w4 [110, 111, 110, 101] = false := by rw [q0, h4]; rfl
   have f1 : F .eqS w4 [117, 115, 101, 114] = true := by rw [q1, h4]; rfl
   have f2 : F .eqS w4 [115, 112, 97, 99, 101] = false := by rw [q2, h4]; rfl
   refine AKt.no f0 ?_
   repeat' (first|with_reducible (first|refine qAh ?_|refine qAt ?_|refine qAf ?_|refine qAy (by assumption) ?_|refine qAn (by assumption) ?_|refine qAd (fun hb => ?_) (fun hb => ?_)|refine qAe ?_ (fun hb => ?_)|refine qAl ?_)|((with_reducible show _=true); assumption))
   rw [a0]
   obtain ⟨J1, n1, nx⟩ := n0
   refine AKp.backTo (nx _ ?_)
   clear nx
   refine AK.runT hF tabOK hmix hnt hfr true _ hG ?_
   conv => arg 4; cbv
   refine AKt.yes l1 ?_
   refine AKt.need g4 fun _ => ?_
   rw [t1]
   conv => arg 4; cbv
   rw [e4]
   refine AKt.yes f1 ?_
   repeat' (first|with_reducible (first|refine qAh ?_|refine qAt ?_|refine qAf ?_|refine qAy (by assumption) ?_|refine qAn (by assumption) ?_|refine qAd (fun hb => ?_) (fun hb => ?_)|refine qAe ?_ (fun hb => ?_)|refine qAl ?_)|((with_reducible show _=true); assumption))
   rw [a1]
   obtain ⟨J2, n2, nx⟩ := n1
   refine AKp.backTo (nx _ ?_)
   clear nx
   refine AK.runT hF tabOK hmix hnt hfr true _ hG ?_
   conv => arg 4; cbv
   refine AKt.yes l2 ?_
   refine AKt.need g4 fun _ => ?_
   rw [t2]
   conv => arg 4; cbv
   rw [e4]
   refine AKt.no f2 ?_
   repeat' (first|with_reducible (first|refine qAh ?_|refine qAt ?_|refine qAf ?_|refine qAy (by assumption) ?_|refine qAn (by assumption) ?_|refine qAd (fun hb => ?_) (fun hb => ?_)|refine qAe ?_ (fun hb => ?_)|refine qAl ?_)|((with_reducible show _=true); assumption))
   rw [a2]
   obtain ⟨J3, n3, nx⟩ := n2
   refine AKp.backTo (nx _ ?_)
   clear nx
   refine AK.runT hF tabOK hmix hnt hfr true _ hG ?_
   conv => arg 4; cbv
   refine AKt.no l3 ?_
   refine AKt.no ng1 ?_
   repeat' (first|with_reducible (first|refine qAh ?_|refine qAt ?_|refine qAf ?_|refine qAy (by assumption) ?_|refine qAn (by assumption) ?_|refine qAd (fun hb => ?_) (fun hb => ?_)|refine qAe ?_ (fun hb => ?_)|refine qAl ?_)|((with_reducible show _=true); assumption))
   refine AKp.join hK18 _ hfr ?_ ?_ (rest18 1 bb bvv.symm)
   · repeat (first | exact True.intro | refine ⟨⟨rfl, rfl⟩, ?_⟩)
   · repeat (first | exact True.intro | refine ⟨⟨rfl, rfl, rfl⟩, ?_⟩)
 · have f0 : F .eqS w4 [110, 111, 110, 101] = false := by rw [q0, h4]; rfl
   have f1 : F .eqS w4 [117, 115, 101, 114] = false := by rw [q1, h4]; rfl
   have f2 : F .eqS w4 [115, 112, 97, 99, 101] = true := by rw [q2, h4]; rfl
   refine AKt.no f0 ?_
   repeat' (first|with_reducible (first|refine qAh ?_|refine qAt ?_|refine qAf ?_|refine qAy (by assumption) ?_|refine qAn (by assumption) ?_|refine qAd (fun hb => ?_) (fun hb => ?_)|refine qAe ?_ (fun hb => ?_)|refine qAl ?_)|((with_reducible show _=true); assumption))
   rw [a0]
   obtain ⟨J1, n1, nx⟩ := n0
   refine AKp.backTo (nx _ ?_)
   clear nx
   refine AK.runT hF tabOK hmix hnt hfr true _ hG ?_
   conv => arg 4; cbv
   refine AKt.yes l1 ?_
   refine AKt.need g4 fun _ => ?_
   rw [t1]
   conv => arg 4; cbv
   rw [e4]
   refine AKt.no f1 ?_
   repeat' (first|with_reducible (first|refine qAh ?_|refine qAt ?_|refine qAf ?_|refine qAy (by assumption) ?_|refine qAn (by assumption) ?_|refine qAd (fun hb => ?_) (fun hb => ?_)|refine qAe ?_ (fun hb => ?_)|refine qAl ?_)|((with_reducible show _=true); assumption))
   rw [a1]
   obtain ⟨J2, n2, nx⟩ := n1
   refine AKp.backTo (nx _ ?_)
   clear nx
   refine AK.runT hF tabOK hmix hnt hfr true _ hG ?_
   conv => arg 4; cbv
   refine AKt.yes l2 ?_
   refine AKt.need g4 fun _ => ?_
   rw [t2]
   conv => arg 4; cbv
   rw [e4]
   refine AKt.yes f2 ?_
   repeat' (first|with_reducible (first|refine qAh ?_|refine qAt ?_|refine qAf ?_|refine qAy (by assumption) ?_|refine qAn (by assumption) ?_|refine qAd (fun hb => ?_) (fun hb => ?_)|refine qAe ?_ (fun hb => ?_)|refine qAl ?_)|((with_reducible show _=true); assumption))
   rw [a2]
   obtain ⟨J3, n3, nx⟩ := n2
   refine AKp.backTo (nx _ ?_)
   clear nx
   refine AK.runT hF tabOK hmix hnt hfr true _ hG ?_
   conv => arg 4; cbv
   refine AKt.no l3 ?_
   refine AKt.no ng2 ?_
   repeat' (first|with_reducible (first|refine qAh ?_|refine qAt ?_|refine qAf ?_|refine qAy (by assumption) ?_|refine qAn (by assumption) ?_|refine qAd (fun hb => ?_) (fun hb => ?_)|refine qAe ?_ (fun hb => ?_)|refine qAl ?_)|((with_reducible show _=true); assumption))
   refine AKp.join hK18 _ hfr ?_ ?_ (rest18 2 bb bvv.symm)
   · repeat (first | exact True.intro | refine ⟨⟨rfl, rfl⟩, ?_⟩)
   · repeat (first | exact True.intro | refine ⟨⟨rfl, rfl, rfl⟩, ?_⟩)
 · have f0 : F .eqS w4 [110, 111, 110, 101] = false := by rw [q0]; exact decide_eq_false h4
   have f1 : F .eqS w4 [117, 115, 101, 114] = false := by rw [q1]; exact decide_eq_false h4b
   have f2 : F .eqS w4 [115, 112, 97, 99, 101] = false := by rw [q2]; exact decide_eq_false h4c
   refine AKt.no f0 ?_
   repeat' (first|with_reducible (first|refine qAh ?_|refine qAt ?_|refine qAf ?_|refine qAy (by assumption) ?_|refine qAn (by assumption) ?_|refine qAd (fun hb => ?_) (fun hb => ?_)|refine qAe ?_ (fun hb => ?_)|refine qAl ?_)|((with_reducible show _=true); assumption))
   rw [a0]
   obtain ⟨J1, n1, nx⟩ := n0
   refine AKp.backTo (nx _ ?_)
   clear nx
   refine AK.runT hF tabOK hmix hnt hfr true _ hG ?_
   conv => arg 4; cbv
   refine AKt.yes l1 ?_
   refine AKt.need g4 fun _ => ?_
   rw [t1]
   conv => arg 4; cbv
   rw [e4]
   refine AKt.no f1 ?_
   repeat' (first|with_reducible (first|refine qAh ?_|refine qAt ?_|refine qAf ?_|refine qAy (by assumption) ?_|refine qAn (by assumption) ?_|refine qAd (fun hb => ?_) (fun hb => ?_)|refine qAe ?_ (fun hb => ?_)|refine qAl ?_)|((with_reducible show _=true); assumption))
   rw [a1]
   obtain ⟨J2, n2, nx⟩ := n1
   refine AKp.backTo (nx _ ?_)
   clear nx
   refine AK.runT hF tabOK hmix hnt hfr true _ hG ?_
   conv => arg 4; cbv
   refine AKt.yes l2 ?_
   refine AKt.need g4 fun _ => ?_
   rw [t2]
   conv => arg 4; cbv
   rw [e4]
   refine AKt.no f2 ?_
   repeat' (first|with_reducible (first|refine qAh ?_|refine qAt ?_|refine qAf ?_|refine qAy (by assumption) ?_|refine qAn (by assumption) ?_|refine qAd (fun hb => ?_) (fun hb => ?_)|refine qAe ?_ (fun hb => ?_)|refine qAl ?_)|((with_reducible show _=true); assumption))
   rw [a2]
   obtain ⟨J3, n3, nx⟩ := n2
   refine AKp.backTo (nx _ ?_)
   clear nx
   refine AK.runT hF tabOK hmix hnt hfr true _ hG ?_
   conv => arg 4; cbv
   refine AKt.no l3 ?_
   refine AKt.yes ng3 ?_
   obtain ⟨z1, z2⟩ := err 2 (by rw [hE, bb]; rfl) (by decide)
   repeat' (first|with_reducible (first|refine qAh ?_|refine qAt ?_|refine qAf ?_|refine qAy (by assumption) ?_|refine qAn (by assumption) ?_|refine qAd (fun hb => ?_) (fun hb => ?_)|refine qAe ?_ (fun hb => ?_)|refine qAl ?_)|((with_reducible show _=true); assumption))
   refine AKp.doneE tabOK hfr (by rfl) ?_
   show _ = _
   simp only [tupAV]
   rw [z1, z2]
   rfl
 case' r18 =>
   intro bv hb hbv
   rw [if_neg (by rw [hb]; decide)] at hE
   have hin : ∀ l : List Dat, F .appD [] l = l := fun l => by rw [hF]; rfl
   have e1 : F .strA es 1 0 = w1 := by rw [hw1]; exact sa 1 1 rfl
   have e2 : F .strA es 2 0 = w2 := by rw [hw2]; exact sa 2 2 rfl
   rw [hK18]
   refine AKp.enterLoop 55 ?_
   conv => arg 7; cbv
   refine AKl.invT hF tabOK hmix hnt hfr true _ hG (fun n vs hs => ∃ (i : Nat) (iv : Int), i + n = ss.length ∧ iv = i ∧ hasM (ss.take i) w1 = false ∧ vs = [(11, .d (.s (.int .i64 iv)))] ∧ hs = [(0, .cs 25 [.d (.s (.int .i64 tt)), .d (.s (.int .i64 pe)), .d (.s (.int .i64 pr)), .d (.s (.int .i64 mo)), .d (.view 10 ld), .d (.view 5 sd)]), (1, .cs 25 [.d (.s (.int .i64 0)), .d (.s (.int .i64 0)), .d (.s (.int .i64 0)), .d (.s (.int .i64 0)), .d (.s .sl0), .d (.s .sl0)])]) ss.length ⟨0, _, by omega, rfl, by rfl, rfl, rfl⟩ (by repeat (first | exact True.intro | refine ⟨⟨rfl, rfl⟩, ?_⟩)) (by repeat (first | exact True.intro | refine ⟨⟨rfl, rfl, rfl⟩, ?_⟩)) ?_
   rintro J n vs hs hJ ⟨i, iv, hi, hiv, hno, rfl, rfl⟩
   conv => arg 4; cbv
   rw [e1]
   refine AKt.node (fun hb => ?_) (fun hb => ?_)
   · have hlt : i < ss.length := by rw [hF, f_ltI, f_lenD, hsl, hiv] at hb; have := of_decide_eq_true hb; omega
     obtain ⟨y, hy⟩ : ∃ y, ss[i]? = some y := ⟨_, List.getElem?_eq_getElem hlt⟩
     have hdy : sd[i]? = some y.dat := by rw [hsd]; exact smDs_get hy
     have hhy : F .hasD sd iv [.str, .str, .int .i64, .int .i64, .view 5] = true := t_hasD hF hdy hiv rfl
     rw [show F .strA sd iv 0 = y.nm by exact t_strA hF hdy hiv rfl]
     refine AKt.need hhy fun _ => ?_
     refine AKt.need g1 fun _ => ?_
     refine AKt.node (fun he => ?_) (fun he => ?_)
     · have e := S _ _ he
       have : hasM ss w1 = true := by
         unfold hasM
         rw [List.any_eq_true]
         exact ⟨y, List.mem_of_getElem? hy, decide_eq_true e⟩
       obtain ⟨z1, z2⟩ := err 5 (by rw [hE, if_pos this]) (by decide)
       repeat' (first|with_reducible (first|refine qAh ?_|refine qAt ?_|refine qAf ?_|refine qAy (by assumption) ?_|refine qAn (by assumption) ?_|refine qAd (fun hb => ?_) (fun hb => ?_)|refine qAe ?_ (fun hb => ?_)|refine qAl ?_)|((with_reducible show _=true); assumption))
       refine AKp.doneE tabOK hfr (by rfl) ?_
       show _ = _
       simp only [tupAV]
       rw [z1, z2]
       rfl
     · have e := NS _ _ he
       repeat' (first|with_reducible (first|refine qAh ?_|refine qAt ?_|refine qAf ?_|refine qAy (by assumption) ?_|refine qAn (by assumption) ?_|refine qAd (fun hb => ?_) (fun hb => ?_)|refine qAe ?_ (fun hb => ?_)|refine qAl ?_)|((with_reducible show _=true); assumption))
       refine AKp.again _ hfr (by repeat (first | exact True.intro | refine ⟨⟨rfl, rfl⟩, ?_⟩)) (by repeat (first | exact True.intro | refine ⟨⟨rfl, rfl, rfl⟩, ?_⟩)) (hJ (n - 1) _ _ (by omega) ⟨i + 1, _, by omega, inc_i hF hiv (by omega), by rw [hasM_take hy, hno, decide_eq_false e]; rfl, rfl, rfl⟩)
   have hge : ¬ i < ss.length := by rw [hF, f_ltI, f_lenD, hsl, hiv] at hb; have := of_decide_eq_false hb; omega
   rw [List.take_of_length_le (by omega)] at hno
   rw [if_neg (by rw [hno]; decide)] at hE
   refine AKt.node (fun hl => ?_) (fun hl => ?_)
   · have h16 : 32 ≤ ss.length := by rw [hF, f_leI, f_lenD, hsl] at hl; have := of_decide_eq_true hl; omega
     rw [if_pos h16] at hE
     obtain ⟨z1, z2⟩ := err 3 hE (by decide)
     repeat' (first|with_reducible (first|refine qAh ?_|refine qAt ?_|refine qAf ?_|refine qAy (by assumption) ?_|refine qAn (by assumption) ?_|refine qAd (fun hb => ?_) (fun hb => ?_)|refine qAe ?_ (fun hb => ?_)|refine qAl ?_)|((with_reducible show _=true); assumption))
     refine AKp.doneE tabOK hfr (by rfl) ?_
     show _ = _
     simp only [tupAV]
     rw [z1, z2]
     rfl
   have h16 : ¬ 32 ≤ ss.length := by rw [hF, f_leI, f_lenD, hsl] at hl; have := of_decide_eq_false hl; omega
   rw [if_neg h16] at hE
   have hRv : R = sd ++ [.agg [.s (.str w1), .s (.str w2), .s (.int .i64 v3), .s (.int .i64 bv), .view 5 []]] := by
     rw [hR', if_pos hE, hsd, hw1, hw2, hv3, hbv, hw3, hw4]
     simp [smDs, Sm.dat, smOf, rlDs]
   obtain ⟨T, hT⟩ : ∃ z, z = F .appD sd [.agg [.s (.str w1), .s (.str w2), .s (.int .i64 v3), .s (.int .i64 bv), .s .sl0]] := ⟨_, rfl⟩
   have hT2 : T = sd ++ [.agg [.s (.str w1), .s (.str w2), .s (.int .i64 v3), .s (.int .i64 bv), .s .sl0]] := by rw [hT, hF, f_appD]
   have f1 : F .fits 72 sd = true := t_fits hF (by omega)
   have f2 : F .fits 72 T = true := t_fits hF (by rw [hT2]; simp; omega)
   refine AKt.leaf ?_
   refine AKp.runD2 hF tabOK hmix hnt true _ hG (Nat.le_trans (Nat.le_of_eq hfr) (Nat.le_of_ble_eq_true rfl)) ?_
   conv => arg 4; cbv
   rw [hin, e1, e2, ← hT]
   repeat' (first|with_reducible (first|refine qAh ?_|refine qAt ?_|refine qAf ?_|refine qAy (by assumption) ?_|refine qAn (by assumption) ?_|refine qAd (fun hb => ?_) (fun hb => ?_)|refine qAe ?_ (fun hb => ?_)|refine qAl ?_)|((with_reducible show _=true); assumption))
   refine AKp.freeze 4 rfl ?_
   conv => arg 4; arg 2; cbv
   refine AKp.doneL tabOK hfr (by rfl) ?_
   rw [hE, hT2, hRv]
   refine .tup (.cons (.d (.agg ?_)) (.cons (.refl _) .nil))
   refine .cons (.refl _) (.cons (.refl _) (.cons (.refl _) (.cons (.refl _) (.cons (.refl _) (.cons (.view ?_) .nil)))))
   refine (LesD.rfl' _).app (.cons (.agg ?_) .nil)
   exact .cons (.refl _) (.cons (.refl _) (.cons (.refl _) (.cons (.refl _) (.cons (.nil _) .nil))))
def scP (ls ss w : List Dat) : Bool := (isLv ls && isSm ss) && (isStrs w && decide (ss.length ≤ 1000))
def smRV (ss w : List Dat) : List Dat := smDs (schC ⟨0, 0, 0, 0, [], unSm ss⟩ (unStr w))
def smRE (ss w : List Dat) : Int := schE ⟨0, 0, 0, 0, [], unSm ss⟩ (unStr w)
theorem rschemaD_spec (a b c d : Int) (ls ss w : List Dat) (h : scP ls ss w = true) : ESpec Tryz.prog 57 [.d (.agg [.s (.int .i64 a), .s (.int .i64 b), .s (.int .i64 c), .s (.int .i64 d), .view 10 ls, .view 5 ss]), .d (.view 1 w)] (fun x => x = .tup [.d (.agg [.s (.int .i64 a), .s (.int .i64 b), .s (.int .i64 c), .s (.int .i64 d), .view 10 ls, .view 5 (smRV ss w)]), .d (.s (.int .i64 (smRE ss w)))]) := by
 simp only [scP, Bool.and_eq_true, decide_eq_true_eq] at h
 have hl : (unSm ss).length ≤ 1000 := by simp [unSm]; exact h.2.2
 have := rschema_spec ⟨a, b, c, d, unLv ls, unSm ss⟩ (unStr w) hl
 simp only [lv_un h.1.1, sm_un h.1.2, strDs_unStr h.2.1] at this
 exact this
def φRSchema (p : List Dat → List Dat → List Dat → Bool) (u : List Dat → List Dat → List Dat) (e : List Dat → List Dat → Int) : List AV → Option (Bool × AV)
 | [.d (.agg [.s (.int .i64 a), .s (.int .i64 b), .s (.int .i64 c), .s (.int .i64 d), .view 10 ls, .view 5 ss]), .d (.view 1 w)] => some (p ls ss w, .tup [.d (.agg [.s (.int .i64 a), .s (.int .i64 b), .s (.int .i64 c), .s (.int .i64 d), .view 10 ls, .view 5 (u ss w)]), .d (.s (.int .i64 (e ss w)))])
 | _ => none
theorem φRSchema_ok : SpOK Tryz.prog 57 (φRSchema (scP) (smRV) (smRE)) := by
 intro xs b x h hb
 unfold φRSchema at h
 split at h
 · simp only [Option.some.injEq, Prod.mk.injEq] at h
   obtain ⟨rfl, rfl⟩ := h
   exact rschemaD_spec _ _ _ _ _ _ _ hb
 · cases h
end Go.Proofs.YtpmpajodihpkaaaGreatDoor
