/- The library of this claim and its walks, part 38, joined out of smaller texts. No statement stands in it. -/
import Derived.Test.YtpmpajodihpkaaaGreatDoorUaM29
import Derived.Test.YtpmpajodihpkaaaGreatDoorUaM34
import Derived.Test.YtpmpajodihpkaaaGreatDoorUaM37
set_option linter.unusedSimpArgs false
set_option linter.unusedVariables false
namespace Go.Proofs.YtpmpajodihpkaaaGreatDoor
open Go Go.Proofs Go.Ua Go.Extern
set_option maxRecDepth 10000
theorem kind_len {w : List Wd} : (kindL w = 0 ∨ kindL w = 1 ∨ kindL w = 2 ∨ kindL w = 3) ∧ (kindL w = 1 → w.length = 3) ∧ (kindL w = 2 → w.length = 6) ∧ (kindL w = 3 → w.length = 11) := by
 unfold kindL
 split
 · rename_i h; simp [h.1]
 · split
   · rename_i h; simp [h.1]
   · split
     · rename_i h; simp [h.1]
     · simp
def levC (c : Cf) (w : List Wd) : List Lv := if levE c w = 0 then c.ls ++ [lvOf w] else c.ls
set_option maxHeartbeats 8000000 in
set_option cbv.maxSteps 10000000 in
theorem rlevel_spec (c : Cf) (ws : List Wd) (hcl : c.ls.length ≤ 1000) : ESpec Tryz.prog 56 [.d (.agg [.s (.int .i64 c.tt), .s (.int .i64 c.pe), .s (.int .i64 c.pr), .s (.int .i64 c.mo), .view 10 (lvDs c.ls), .view 5 (smDs c.ss)]), .d (.view 1 (strDs ws))] (fun x => x = .tup [.d (.agg [.s (.int .i64 c.tt), .s (.int .i64 c.pe), .s (.int .i64 c.pr), .s (.int .i64 c.mo), .view 10 (lvDs (levC c ws)), .view 5 (smDs c.ss)]), .d (.s (.int .i64 (levE c ws)))]) := by
 obtain ⟨uRefNumber, huRefNumber⟩ : ∃ u : List UInt8 → Int → Int → Int, u = numV := ⟨_, rfl⟩
 obtain ⟨uRefNumber1, huRefNumber1⟩ : ∃ u : List UInt8 → Int → Int → Bool, u = numB := ⟨_, rfl⟩
 obtain ⟨uRefName, huRefName⟩ : ∃ u : List UInt8 → Bool, u = nameF := ⟨_, rfl⟩
 have hG : TblOK Tryz.prog [(69, .p (φRefNumber uRefNumber uRefNumber1)), (70, .p (φRefName uRefName))] := ⟨(by rw [huRefNumber, huRefNumber1]; exact φRefNumber_ok), (by rw [huRefName]; exact φRefName_ok), trivial⟩
 obtain ⟨R, hR⟩ : ∃ z, z = lvDs (levC c ws) := ⟨_, rfl⟩
 obtain ⟨E, hE⟩ : ∃ z, z = levE c ws := ⟨_, rfl⟩
 unfold levC at hR
 rw [← hE] at hR
 have hR' : R = if E = 0 then lvDs (c.ls ++ [lvOf ws]) else lvDs c.ls := by rw [hR]; split <;> rfl
 rw [show lvDs (levC c ws) = R by rw [hR, levC, ← hE], ← hE]
 clear hR
 unfold levE at hE
 obtain ⟨tt, pe, pr, mo, ls, ss⟩ := c
 simp only at hE hR' hcl ⊢
 obtain ⟨ld, hld⟩ : ∃ z, z = lvDs ls := ⟨_, rfl⟩
 obtain ⟨sd, hsd⟩ : ∃ z, z = smDs ss := ⟨_, rfl⟩
 obtain ⟨es, hes⟩ : ∃ z, z = strDs ws := ⟨_, rfl⟩
 rw [← hld, ← hsd, ← hes]
 rw [← hld] at hR'
 have hll : ld.length = ls.length := by rw [hld, lvDs_len]
 have hel : es.length = ws.length := by rw [hes, strDs_length]
 refine ESpec.enter Tryz.func56 (by kernel_rfl) rfl (Nat.le_of_ble_eq_true rfl) fun hok cx hnt hfr => ?_
 obtain ⟨F, hF⟩ := real_ex
 refine AK.runTs hF tabOK hmix hnt hfr [9] true _ hG ?_
 conv => arg 4; cbv
 have hd : ∀ (n : Nat) (z : Int), n < ws.length → z = n → F .hasD es z [.str] = true := fun n z h hz => by rw [hes, hz]; exact t_hasG hF h
 have sa : ∀ (n : Nat) (z : Int), z = n → F .strA es z 0 = wAt ws n := fun n z hz => by rw [hes, hz]; exact w_at hF ws n
 have L : ∀ k : Nat, F .eqI (F .lenD es) (k : Int) = true → ws.length = k := fun k h => by rw [hF, f_eqI, f_lenD, hel] at h; have := eq_of_beq h; omega
 have NL : ∀ k : Nat, F .eqI (F .lenD es) (k : Int) = false → ¬ ws.length = k := fun k h e => by rw [hF, f_eqI, f_lenD, hel, e] at h; simp at h
 have S : ∀ a b : Wd, F .eqS a b = true → a = b := fun a b h => by rw [hF, f_eqS] at h; exact eq_of_beq h
 have NS : ∀ a b : Wd, F .eqS a b = false → a ≠ b := fun a b h e => by rw [hF, f_eqS, e] at h; simp at h
 have err : ∀ e : Int, E = e → e ≠ 0 → R = ld ∧ E = e := fun e h1 h2 => ⟨by rw [hR', h1, if_neg h2], h1⟩
 obtain ⟨w1, hw1⟩ : ∃ z, z = wAt ws 1 := ⟨_, rfl⟩
 obtain ⟨w2, hw2⟩ : ∃ z, z = wAt ws 2 := ⟨_, rfl⟩
 obtain ⟨w5, hw5⟩ : ∃ z, z = wAt ws 5 := ⟨_, rfl⟩
 rw [show F .strA es 2 0 = w2 by rw [hw2]; exact sa 2 2 rfl, show F .strA es 5 0 = w5 by rw [hw5]; exact sa 5 5 rfl]
 refine exK ?K33 fun k33 hK33 => ?_
 rotate_left
 have rest33 : ∀ x : Lv, x = lvOf ws → x.nm = w1 → E = (if hasL ls w1 = true then 5 else if 16 ≤ ls.length then 3 else 0) → AK Tryz.prog cx (finE Tryz.prog Tryz.f56 cx (fun x => x = .tup [.d (.agg [.s (.int .i64 tt), .s (.int .i64 pe), .s (.int .i64 pr), .s (.int .i64 mo), .view 10 R, .view 5 sd]), .d (.s (.int .i64 E))])) k33
     ⟨[(18, .d (.s (.int .i64 0))), (2, .ptr 0 0 0 6), (4, .ptr 1 0 0 6), (6, .ptr 2 0 0 10)], [(2, .cs 40 [.d (.s (.str x.nm)), .d (.s (.int .i64 x.kd)), .d (.s (.int .i64 x.sh)), .d (.s (.int .i64 x.ld)), .d (.s (.int .i64 x.bo)), .d (.s (.int .i64 x.qu)), .d (.s (.int .i64 x.ha)), .d (.s (.int .i64 x.le)), .d (.s (.int .i64 x.wa)), .d (.s (.int .i64 x.gu))]), (0, .cs 25 [.d (.s (.int .i64 tt)), .d (.s (.int .i64 pe)), .d (.s (.int .i64 pr)), .d (.s (.int .i64 mo)), .d (.view 10 ld), .d (.view 5 sd)]), (1, .cs 25 [.d (.s (.int .i64 0)), .d (.s (.int .i64 0)), .d (.s (.int .i64 0)), .d (.s (.int .i64 0)), .d (.s .sl0), .d (.s .sl0)])], 3⟩ := ?r33
 refine exK ?K9 fun k9 hK9 => ?_
 rotate_left
 have rest9 : ∀ kd : Int, kindL ws = kd → kd ≠ 0 → AK Tryz.prog cx (finE Tryz.prog Tryz.f56 cx (fun x => x = .tup [.d (.agg [.s (.int .i64 tt), .s (.int .i64 pe), .s (.int .i64 pr), .s (.int .i64 mo), .view 10 R, .view 5 sd]), .d (.s (.int .i64 E))])) k9
     ⟨[(1, .d (.view 1 es)), (2, .ptr 0 0 0 6), (4, .ptr 1 0 0 6), (6, .ptr 2 0 0 10)], [(2, .cs 40 [.d (.s (.str [])), .d (.s (.int .i64 kd)), .d (.s (.int .i64 0)), .d (.s (.int .i64 0)), .d (.s (.int .i64 0)), .d (.s (.int .i64 0)), .d (.s (.int .i64 0)), .d (.s (.int .i64 0)), .d (.s (.int .i64 0)), .d (.s (.int .i64 0))]), (0, .cs 25 [.d (.s (.int .i64 tt)), .d (.s (.int .i64 pe)), .d (.s (.int .i64 pr)), .d (.s (.int .i64 mo)), .d (.view 10 ld), .d (.view 5 sd)]), (1, .cs 25 [.d (.s (.int .i64 0)), .d (.s (.int .i64 0)), .d (.s (.int .i64 0)), .d (.s (.int .i64 0)), .d (.s .sl0), .d (.s .sl0)])], 3⟩ := ?r9
 have kind : kindL ws = if ws.length = 3 ∧ w2 = [101, 120, 101, 109, 112, 116] then 1 else if ws.length = 6 ∧ w5 = [114, 101, 106, 101, 99, 116] then 2 else if ws.length = 11 ∧ w5 = [113, 117, 101, 117, 101] then 3 else 0 := by rw [hw2, hw5]; rfl
 have e2 : kindL ws = 0 → R = ld ∧ E = 2 := fun h => err 2 (by rw [hE, if_pos h]) (by decide)
 have hk1 : F .eqI (F .lenD es) 3 = true → F .eqS w2 [101, 120, 101, 109, 112, 116] = true → kindL ws = 1 := fun h1 h2 => by rw [kind, if_pos ⟨L 3 h1, S _ _ h2⟩]
 have hk2 : F .eqI (F .lenD es) 6 = true → F .eqS w5 [114, 101, 106, 101, 99, 116] = true → kindL ws = 2 := fun h1 h2 => by
   have := L 6 h1
   rw [kind, if_neg (fun h => by omega), if_pos ⟨L 6 h1, S _ _ h2⟩]
 have hk3 : F .eqI (F .lenD es) 11 = true → F .eqS w5 [113, 117, 101, 117, 101] = true → kindL ws = 3 := fun h1 h2 => by
   have := L 11 h1
   rw [kind, if_neg (fun h => by omega), if_neg (fun h => by omega), if_pos ⟨L 11 h1, S _ _ h2⟩]
 have hk0 : (F .eqI (F .lenD es) 3 = false ∨ F .eqS w2 [101, 120, 101, 109, 112, 116] = false) → (F .eqI (F .lenD es) 6 = false ∨ F .eqS w5 [114, 101, 106, 101, 99, 116] = false) →
     (F .eqI (F .lenD es) 11 = false ∨ F .eqS w5 [113, 117, 101, 117, 101] = false) → kindL ws = 0 := fun h1 h2 h3 => by
   rw [kind, if_neg, if_neg, if_neg]
   · rintro ⟨g1, g2⟩; rcases h3 with h | h; exact NL 11 h g1; exact NS _ _ h g2
   · rintro ⟨g1, g2⟩; rcases h2 with h | h; exact NL 6 h g1; exact NS _ _ h g2
   · rintro ⟨g1, g2⟩; rcases h1 with h | h; exact NL 3 h g1; exact NS _ _ h g2
 repeat' (first|with_reducible (first|refine qAh ?_|refine qAt ?_|refine qAf ?_|refine qAy (by assumption) ?_|refine qAn (by assumption) ?_|refine qAd (fun hb => ?_) (fun hb => ?_)|refine qAe ?_ (fun hb => ?_)|refine qAl ?_)|((with_reducible show _=true); assumption))
 all_goals first
   | exact hd 2 2 (by have := L 3 (by assumption); omega) rfl
   | exact hd 5 5 (by have := L 6 (by assumption); omega) rfl
   | exact hd 5 5 (by have := L 11 (by assumption); omega) rfl
   | skip
 all_goals first
   | (refine AKp.join hK9 _ hfr ?_ ?_ (rest9 1 (hk1 (by assumption) (by assumption)) (by decide))
      · repeat (first | exact True.intro | refine ⟨⟨rfl, rfl⟩, ?_⟩)
      · repeat (first | exact True.intro | refine ⟨⟨rfl, rfl, rfl⟩, ?_⟩))
   | (refine AKp.join hK9 _ hfr ?_ ?_ (rest9 2 (hk2 (by assumption) (by assumption)) (by decide))
      · repeat (first | exact True.intro | refine ⟨⟨rfl, rfl⟩, ?_⟩)
      · repeat (first | exact True.intro | refine ⟨⟨rfl, rfl, rfl⟩, ?_⟩))
   | (refine AKp.join hK9 _ hfr ?_ ?_ (rest9 3 (hk3 (by assumption) (by assumption)) (by decide))
      · repeat (first | exact True.intro | refine ⟨⟨rfl, rfl⟩, ?_⟩)
      · repeat (first | exact True.intro | refine ⟨⟨rfl, rfl, rfl⟩, ?_⟩))
   | skip
 all_goals try (
   have hz : kindL ws = 0 := hk0 (by first | exact .inl (by assumption) | exact .inr (by assumption)) (by first | exact .inl (by assumption) | exact .inr (by assumption)) (by first | exact .inl (by assumption) | exact .inr (by assumption))
   refine AKp.doneE tabOK hfr (by rfl) ?_
   show _ = _
   simp only [tupAV]
   rw [(e2 hz).1, (e2 hz).2]
   rfl)
 case' r9 =>
   intro kd hkd hkd0
   have hkl := @kind_len ws
   rw [hkd] at hkl
   obtain ⟨k0, k1, k2, k3⟩ := hkl
   have hkr : kd = 1 ∨ kd = 2 ∨ kd = 3 := k0.resolve_left hkd0
   have hlen : 3 ≤ ws.length := by rcases hkr with h | h | h; have := k1 h; omega; have := k2 h; omega; have := k3 h; omega
   have hE2 : E = if nameF w1 = false then 4 else if kd ≠ 1 ∧ limB ws = false then 8 else if kd = 3 ∧ queB ws = false then 8 else if hasL ls w1 = true then 5 else if 16 ≤ ls.length then 3 else 0 := by rw [hE, hkd, if_neg hkd0, hw1]
   obtain ⟨w3, hw3⟩ : ∃ z, z = wAt ws 3 := ⟨_, rfl⟩
   obtain ⟨w4, hw4⟩ : ∃ z, z = wAt ws 4 := ⟨_, rfl⟩
   rw [hK9]
   refine AK.runTs hF tabOK hmix hnt hfr [18] true _ hG ?_
   conv => arg 4; cbv
   rw [show F .strA es 1 0 = w1 by rw [hw1]; exact sa 1 1 rfl, show F .strA es 2 0 = w2 by rw [hw2]; exact sa 2 2 rfl, show F .strA es 3 0 = w3 by rw [hw3]; exact sa 3 3 rfl, show F .strA es 4 0 = w4 by rw [hw4]; exact sa 4 4 rfl]
   have h1 : F .hasD es 1 [.str] = true := hd 1 1 (by omega) rfl
   refine exK ?K18 fun k18 hK18 => ?_
   rotate_left
   have rest18 : ∀ (bo : Int) (bok : Bool), kd ≠ 1 → nameF w1 = true → bok = borB w4 → (bok = true → bo = borV w4) → AK Tryz.prog cx (finE Tryz.prog Tryz.f56 cx (fun x => x = .tup [.d (.agg [.s (.int .i64 tt), .s (.int .i64 pe), .s (.int .i64 pr), .s (.int .i64 mo), .view 10 R, .view 5 sd]), .d (.s (.int .i64 E))])) k18
     ⟨[(1, .d (.view 1 es)), (7, .d (.s (.int .i64 (uRefNumber w2 0 10000)))), (8, .d (.s (.bool (uRefNumber1 w2 0 10000)))), (9, .d (.s (.int .i64 (uRefNumber w3 0 100)))), (10, .d (.s (.bool (uRefNumber1 w3 0 100)))), (11, .d (.s (.int .i64 bo))), (12, .d (.s (.bool bok))), (2, .ptr 0 0 0 6), (4, .ptr 1 0 0 6), (6, .ptr 2 0 0 10)],
       [(2, .cs 40 [.d (.s (.str w1)), .d (.s (.int .i64 kd)), .d (.s (.int .i64 0)), .d (.s (.int .i64 0)), .d (.s (.int .i64 0)), .d (.s (.int .i64 0)), .d (.s (.int .i64 0)), .d (.s (.int .i64 0)), .d (.s (.int .i64 0)), .d (.s (.int .i64 0))]), (0, .cs 25 [.d (.s (.int .i64 tt)), .d (.s (.int .i64 pe)), .d (.s (.int .i64 pr)), .d (.s (.int .i64 mo)), .d (.view 10 ld), .d (.view 5 sd)]), (1, .cs 25 [.d (.s (.int .i64 0)), .d (.s (.int .i64 0)), .d (.s (.int .i64 0)), .d (.s (.int .i64 0)), .d (.s .sl0), .d (.s .sl0)])], 3⟩ := ?r18
   refine AKt.need h1 fun _ => AKt.have ?_
   refine AKt.node (fun hc => ?_) (fun hc => ?_)
   · have hn : nameF w1 = false := by rw [hF, f_not, huRefName] at hc; simpa using hc
     rw [if_pos hn] at hE2
     obtain ⟨g1, g2⟩ := err 4 hE2 (by decide)
     repeat' (first|with_reducible (first|refine qAh ?_|refine qAt ?_|refine qAf ?_|refine qAy (by assumption) ?_|refine qAn (by assumption) ?_|refine qAd (fun hb => ?_) (fun hb => ?_)|refine qAe ?_ (fun hb => ?_)|refine qAl ?_)|((with_reducible show _=true); assumption))
     refine AKp.doneE tabOK hfr (by rfl) ?_
     show _ = _
     simp only [tupAV]
     rw [g1, g2]
     rfl
   have hn : nameF w1 = true := by rw [hF, f_not, huRefName] at hc; simpa using hc
   rw [if_neg (by rw [hn]; decide)] at hE2
   refine AKt.need h1 fun _ => ?_
   refine AKt.node (fun hk => ?_) (fun hk => ?_)
   · have hk1 : kd ≠ 1 := by rw [hF, f_ltI] at hk; have := of_decide_eq_true hk; omega
     have hl6 : 6 ≤ ws.length := by rcases hkr with h | h | h; exact absurd h hk1; have := k2 h; omega; have := k3 h; omega
     have g2 : F .hasD es 2 [.str] = true := hd 2 2 (by omega) rfl
     have g3 : F .hasD es 3 [.str] = true := hd 3 3 (by omega) rfl
     have g4 : F .hasD es 4 [.str] = true := hd 4 4 (by omega) rfl
     have e4 : uRefNumber w4 0 1000 = numV w4 0 1000 := by subst huRefNumber huRefNumber1 huRefName; rfl
     have e5 : uRefNumber1 w4 0 1000 = numB w4 0 1000 := by subst huRefNumber huRefNumber1 huRefName; rfl
     repeat' (first|with_reducible (first|refine qAh ?_|refine qAt ?_|refine qAf ?_|refine qAy (by assumption) ?_|refine qAn (by assumption) ?_|refine qAd (fun hb => ?_) (fun hb => ?_)|refine qAe ?_ (fun hb => ?_)|refine qAl ?_)|((with_reducible show _=true); assumption))
     · refine AKp.join hK18 _ hfr ?_ ?_ (rest18 (-1) true hk1 hn ?_ ?_)
       · repeat (first | exact True.intro | refine ⟨⟨rfl, rfl⟩, ?_⟩)
       · repeat (first | exact True.intro | refine ⟨⟨rfl, rfl, rfl⟩, ?_⟩)
       · have : w4 = ALLW := S _ _ (by assumption)
         rw [this]; rfl
       · have : w4 = ALLW := S _ _ (by assumption)
         rw [this]; exact fun _ => rfl
     · refine AKp.join hK18 _ hfr ?_ ?_ (rest18 (uRefNumber w4 0 1000) (uRefNumber1 w4 0 1000) hk1 hn ?_ ?_)
       · repeat (first | exact True.intro | refine ⟨⟨rfl, rfl⟩, ?_⟩)
       · repeat (first | exact True.intro | refine ⟨⟨rfl, rfl, rfl⟩, ?_⟩)
       · have : w4 ≠ ALLW := NS _ _ (by assumption)
         rw [borB, decide_eq_false this, e5]; rfl
       · have : w4 ≠ ALLW := NS _ _ (by assumption)
         intro _
         rw [borV, if_neg this, e4]
   · have hk1 : kd = 1 := by rw [hF, f_ltI] at hk; have := of_decide_eq_false hk; omega
     have hk3 : F .eqI kd 3 = false := by rw [hF, f_eqI, hk1]; rfl
     rw [if_neg (fun h => h.1 hk1), if_neg (by rw [hk1]; rintro ⟨h, _⟩; cases h)] at hE2
     repeat' (first|with_reducible (first|refine qAh ?_|refine qAt ?_|refine qAf ?_|refine qAy (by assumption) ?_|refine qAn (by assumption) ?_|refine qAd (fun hb => ?_) (fun hb => ?_)|refine qAe ?_ (fun hb => ?_)|refine qAl ?_)|((with_reducible show _=true); assumption))
     refine AKp.join hK33 _ hfr ?_ ?_ (rest33 ⟨w1, kd, 0, 0, 0, 0, 0, 0, 0, 0⟩ ?_ rfl hE2)
     · repeat (first | exact True.intro | refine ⟨⟨rfl, rfl⟩, ?_⟩)
     · repeat (first | exact True.intro | refine ⟨⟨rfl, rfl, rfl⟩, ?_⟩)
     · rw [lvOf, if_pos (by rw [hkd, hk1]), hk1, hw1]
   case' r18 =>
     intro bo bok hk1 hn hbok hbo
     have hlim : limB ws = (numB w2 0 10000 && (numB w3 0 100 && bok)) := by rw [limB, ← hw2, ← hw3, ← hw4, hbok]
     rw [if_neg (by rw [hn]; decide)] at hE2
     have u2 : uRefNumber w2 0 10000 = numV w2 0 10000 := by subst huRefNumber huRefNumber1 huRefName; rfl
     have u3 : uRefNumber w3 0 100 = numV w3 0 100 := by subst huRefNumber huRefNumber1 huRefName; rfl
     have b2 : uRefNumber1 w2 0 10000 = numB w2 0 10000 := by subst huRefNumber huRefNumber1 huRefName; rfl
     have b3 : uRefNumber1 w3 0 100 = numB w3 0 100 := by subst huRefNumber huRefNumber1 huRefName; rfl
     have bad8 : limB ws = false → R = ld ∧ E = 8 := fun h => err 8 (by rw [hE2, if_pos ⟨hk1, h⟩]) (by decide)
     rw [u2, u3, b2, b3]
     obtain ⟨v2, hv2⟩ : ∃ z, z = numV w2 0 10000 := ⟨_, rfl⟩
     obtain ⟨v3, hv3⟩ : ∃ z, z = numV w3 0 100 := ⟨_, rfl⟩
     obtain ⟨c2, hc2⟩ : ∃ z, z = numB w2 0 10000 := ⟨_, rfl⟩
     obtain ⟨c3, hc3⟩ : ∃ z, z = numB w3 0 100 := ⟨_, rfl⟩
     rw [← hv2, ← hv3, ← hc2, ← hc3]
     rw [← hc2, ← hc3] at hlim
     rw [hK18]
     refine AK.runT hF tabOK hmix hnt hfr true _ hG ?_
     conv => arg 4; cbv
     have hb8 : (F .not c2 = true ∨ F .not c3 = true ∨ F .not bok = true) → R = ld ∧ E = 8 := fun h => bad8 (by
       rw [hlim]
       simp only [hF, f_not, Bool.not_eq_true'] at h
       rcases h with h | h | h <;> rw [h] <;> simp)
     have fin8 : ∀ {kk : List KI} {S1 : St}, (R = ld ∧ E = 8 → AKp Tryz.prog cx (finE Tryz.prog Tryz.f56 cx (fun x => x = .tup [.d (.agg [.s (.int .i64 tt), .s (.int .i64 pe), .s (.int .i64 pr), .s (.int .i64 mo), .view 10 R, .view 5 sd]), .d (.s (.int .i64 E))])) (kk, S1)) → (F .not c2 = true ∨ F .not c3 = true ∨ F .not bok = true) → AKp Tryz.prog cx (finE Tryz.prog Tryz.f56 cx (fun x => x = .tup [.d (.agg [.s (.int .i64 tt), .s (.int .i64 pe), .s (.int .i64 pr), .s (.int .i64 mo), .view 10 R, .view 5 sd]), .d (.s (.int .i64 E))])) (kk, S1) := fun h h2 => h (hb8 h2)
     refine AKt.node (fun hx => ?_) (fun hx => ?_)
     · obtain ⟨g1, g2⟩ := hb8 (.inl hx)
       repeat' (first|with_reducible (first|refine qAh ?_|refine qAt ?_|refine qAf ?_|refine qAy (by assumption) ?_|refine qAn (by assumption) ?_|refine qAd (fun hb => ?_) (fun hb => ?_)|refine qAe ?_ (fun hb => ?_)|refine qAl ?_)|((with_reducible show _=true); assumption))
       refine AKp.doneE tabOK hfr (by rfl) ?_
       show _ = _
       simp only [tupAV]
       rw [g1, g2]
       rfl
     refine AKt.node (fun hy => ?_) (fun hy => ?_)
     · obtain ⟨g1, g2⟩ := hb8 (.inr (.inl hy))
       repeat' (first|with_reducible (first|refine qAh ?_|refine qAt ?_|refine qAf ?_|refine qAy (by assumption) ?_|refine qAn (by assumption) ?_|refine qAd (fun hb => ?_) (fun hb => ?_)|refine qAe ?_ (fun hb => ?_)|refine qAl ?_)|((with_reducible show _=true); assumption))
       refine AKp.doneE tabOK hfr (by rfl) ?_
       show _ = _
       simp only [tupAV]
       rw [g1, g2]
       rfl
     refine AKt.node (fun hz => ?_) (fun hz => ?_)
     · obtain ⟨g1, g2⟩ := hb8 (.inr (.inr hz))
       repeat' (first|with_reducible (first|refine qAh ?_|refine qAt ?_|refine qAf ?_|refine qAy (by assumption) ?_|refine qAn (by assumption) ?_|refine qAd (fun hb => ?_) (fun hb => ?_)|refine qAe ?_ (fun hb => ?_)|refine qAl ?_)|((with_reducible show _=true); assumption))
       refine AKp.doneE tabOK hfr (by rfl) ?_
       show _ = _
       simp only [tupAV]
       rw [g1, g2]
       rfl
     have x2 : c2 = true := by rw [hF, f_not] at hx; simpa using hx
     have x3 : c3 = true := by rw [hF, f_not] at hy; simpa using hy
     have x4 : bok = true := by rw [hF, f_not] at hz; simpa using hz
     have hlim2 : limB ws = true := by rw [hlim, x2, x3, x4]; rfl
     rw [if_neg (fun h => by rw [hlim2] at h; cases h.2)] at hE2
     have hbo2 := hbo x4
     refine AKt.node (fun hk => ?_) (fun hk => ?_)
     rotate_left
     · have hk3 : ¬ kd = 3 := by rw [hF, f_eqI] at hk; intro e; rw [e] at hk; simp at hk
       have hk2 : kd = 2 := by omega
       rw [if_neg (fun h => hk3 h.1)] at hE2
       repeat' (first|with_reducible (first|refine qAh ?_|refine qAt ?_|refine qAf ?_|refine qAy (by assumption) ?_|refine qAn (by assumption) ?_|refine qAd (fun hb => ?_) (fun hb => ?_)|refine qAe ?_ (fun hb => ?_)|refine qAl ?_)|((with_reducible show _=true); assumption))
       refine AKp.join hK33 _ hfr ?_ ?_ (rest33 ⟨w1, kd, v2, v3, bo, 0, 0, 0, 0, 0⟩ ?_ rfl hE2)
       · repeat (first | exact True.intro | refine ⟨⟨rfl, rfl⟩, ?_⟩)
       · repeat (first | exact True.intro | refine ⟨⟨rfl, rfl, rfl⟩, ?_⟩)
       · rw [lvOf, if_neg (by rw [hkd, hk2]; decide), if_pos (by rw [hkd, hk2]), hk2, hw1, hv2, hv3, hbo2, hw2, hw3, hw4]
     have hk3 : kd = 3 := by rw [hF, f_eqI] at hk; simpa using hk
     have hl11 : ws.length = 11 := k3 hk3
     have bad2 : queB ws = false → R = ld ∧ E = 8 := fun h => err 8 (by rw [hE2, if_pos ⟨hk3, h⟩]) (by decide)
     have k0 : F .inB 0 5 = some 0 := by rw [hF]; rfl
     have k1 : F .inB 1 5 = some 1 := by rw [hF]; rfl
     have k2 : F .inB 2 5 = some 2 := by rw [hF]; rfl
     have k3 : F .inB 3 5 = some 3 := by rw [hF]; rfl
     have k4 : F .inB 4 5 = some 4 := by rw [hF]; rfl
     have l0 : F .ltI 0 5 = true := by rw [hF]; rfl
     have l1 : F .ltI 1 5 = true := by rw [hF]; rfl
     have l2 : F .ltI 2 5 = true := by rw [hF]; rfl
     have l3 : F .ltI 3 5 = true := by rw [hF]; rfl
     have l4 : F .ltI 4 5 = true := by rw [hF]; rfl
     have l5 : F .ltI 5 5 = false := by rw [hF]; rfl
     have a0 : F .wrap .i64 (F .add 0 1) = 1 := by rw [hF]; rfl
     have a1 : F .wrap .i64 (F .add 1 1) = 2 := by rw [hF]; rfl
     have a2 : F .wrap .i64 (F .add 2 1) = 3 := by rw [hF]; rfl
     have a3 : F .wrap .i64 (F .add 3 1) = 4 := by rw [hF]; rfl
     have a4 : F .wrap .i64 (F .add 4 1) = 5 := by rw [hF]; rfl
     have six : ∀ i : Nat, i < 5 → F .wrap .i64 (F .add 6 (i : Int)) = ((6 + i : Nat) : Int) := fun i hi => add_nn hF (m := 6) (n := i) rfl rfl (by omega)
     have s0 : F .wrap .i64 (F .add 6 0) = 6 := six 0 (by decide)
     have s1 : F .wrap .i64 (F .add 6 1) = 7 := six 1 (by decide)
     have s2 : F .wrap .i64 (F .add 6 2) = 8 := six 2 (by decide)
     have s3 : F .wrap .i64 (F .add 6 3) = 9 := six 3 (by decide)
     have s4 : F .wrap .i64 (F .add 6 4) = 10 := six 4 (by decide)
     obtain ⟨z0, hz0⟩ : ∃ z, z = wAt ws 6 := ⟨_, rfl⟩
     have d0 : F .hasD es 6 [.str] = true := hd 6 _ (by omega) rfl
     have y0 : F .strA es 6 0 = z0 := by rw [hz0]; exact sa 6 _ rfl
     obtain ⟨z1, hz1⟩ : ∃ z, z = wAt ws 7 := ⟨_, rfl⟩
     have d1 : F .hasD es 7 [.str] = true := hd 7 _ (by omega) rfl
     have y1 : F .strA es 7 0 = z1 := by rw [hz1]; exact sa 7 _ rfl
     obtain ⟨z2, hz2⟩ : ∃ z, z = wAt ws 8 := ⟨_, rfl⟩
     have d2 : F .hasD es 8 [.str] = true := hd 8 _ (by omega) rfl
     have y2 : F .strA es 8 0 = z2 := by rw [hz2]; exact sa 8 _ rfl
     obtain ⟨z3, hz3⟩ : ∃ z, z = wAt ws 9 := ⟨_, rfl⟩
     have d3 : F .hasD es 9 [.str] = true := hd 9 _ (by omega) rfl
     have y3 : F .strA es 9 0 = z3 := by rw [hz3]; exact sa 9 _ rfl
     obtain ⟨z4, hz4⟩ : ∃ z, z = wAt ws 10 := ⟨_, rfl⟩
     have d4 : F .hasD es 10 [.str] = true := hd 10 _ (by omega) rfl
     have y4 : F .strA es 10 0 = z4 := by rw [hz4]; exact sa 10 _ rfl
     have hque : queB ws = (numB z0 1 64 && (numB z1 1 8 && (numB z2 1 64 && (numB z3 1 1000 && numB z4 1 1000)))) := by rw [queB, hz0, hz1, hz2, hz3, hz4]
     have un1 : ∀ z a b, uRefNumber1 z a b = numB z a b := fun z a b => by subst huRefNumber huRefNumber1 huRefName; rfl
     have un0 : ∀ z a b, uRefNumber z a b = numV z a b := fun z a b => by subst huRefNumber huRefNumber1 huRefName; rfl
     refine AKt.leaf ?_
     refine AKp.unroll 6 fun J0 n0 => ?_
     refine AK.runT hF tabOK hmix hnt hfr true _ hG ?_
     conv => arg 4; cbv
     refine AKt.yes l0 ?_
     rw [s0]
     refine AKt.need d0 fun _ => ?_
     rw [k0]
     conv => arg 4; cbv
     rw [y0]
     refine AKt.have ?_
     refine AKt.node (fun c0 => ?_) (fun c0 => ?_)
     · obtain ⟨g1, g2⟩ := bad2 (by
         rw [hF, f_not, un1] at c0
         rw [hque]
         simp only [Bool.not_eq_true'] at c0
         rw [c0]
         simp)
       repeat' (first|with_reducible (first|refine qAh ?_|refine qAt ?_|refine qAf ?_|refine qAy (by assumption) ?_|refine qAn (by assumption) ?_|refine qAd (fun hb => ?_) (fun hb => ?_)|refine qAe ?_ (fun hb => ?_)|refine qAl ?_)|((with_reducible show _=true); assumption))
       refine AKp.doneE tabOK hfr (by rfl) ?_
       show _ = _
       simp only [tupAV]
       rw [g1, g2]
       rfl
     rw [k0]
     conv => arg 4; cbv
     repeat' (first|with_reducible (first|refine qAh ?_|refine qAt ?_|refine qAf ?_|refine qAy (by assumption) ?_|refine qAn (by assumption) ?_|refine qAd (fun hb => ?_) (fun hb => ?_)|refine qAe ?_ (fun hb => ?_)|refine qAl ?_)|((with_reducible show _=true); assumption))
     rw [a0]
     obtain ⟨J1, n1, nx⟩ := n0
     refine AKp.backTo (nx _ ?_)
     clear nx
     refine AK.runT hF tabOK hmix hnt hfr true _ hG ?_
     conv => arg 4; cbv
     refine AKt.yes l1 ?_
     rw [s1]
     refine AKt.need d1 fun _ => ?_
     rw [k1]
     conv => arg 4; cbv
     rw [y1]
     refine AKt.have ?_
     refine AKt.node (fun c1 => ?_) (fun c1 => ?_)
     · obtain ⟨g1, g2⟩ := bad2 (by
         rw [hF, f_not, un1] at c1
         rw [hque]
         simp only [Bool.not_eq_true'] at c1
         rw [c1]
         simp)
       repeat' (first|with_reducible (first|refine qAh ?_|refine qAt ?_|refine qAf ?_|refine qAy (by assumption) ?_|refine qAn (by assumption) ?_|refine qAd (fun hb => ?_) (fun hb => ?_)|refine qAe ?_ (fun hb => ?_)|refine qAl ?_)|((with_reducible show _=true); assumption))
       refine AKp.doneE tabOK hfr (by rfl) ?_
       show _ = _
       simp only [tupAV]
       rw [g1, g2]
       rfl
     rw [k1]
     conv => arg 4; cbv
     repeat' (first|with_reducible (first|refine qAh ?_|refine qAt ?_|refine qAf ?_|refine qAy (by assumption) ?_|refine qAn (by assumption) ?_|refine qAd (fun hb => ?_) (fun hb => ?_)|refine qAe ?_ (fun hb => ?_)|refine qAl ?_)|((with_reducible show _=true); assumption))
     rw [a1]
     obtain ⟨J2, n2, nx⟩ := n1
     refine AKp.backTo (nx _ ?_)
     clear nx
     refine AK.runT hF tabOK hmix hnt hfr true _ hG ?_
     conv => arg 4; cbv
     refine AKt.yes l2 ?_
     rw [s2]
     refine AKt.need d2 fun _ => ?_
     rw [k2]
     conv => arg 4; cbv
     rw [y2]
     refine AKt.have ?_
     refine AKt.node (fun c2 => ?_) (fun c2 => ?_)
     · obtain ⟨g1, g2⟩ := bad2 (by
         rw [hF, f_not, un1] at c2
         rw [hque]
         simp only [Bool.not_eq_true'] at c2
         rw [c2]
         simp)
       repeat' (first|with_reducible (first|refine qAh ?_|refine qAt ?_|refine qAf ?_|refine qAy (by assumption) ?_|refine qAn (by assumption) ?_|refine qAd (fun hb => ?_) (fun hb => ?_)|refine qAe ?_ (fun hb => ?_)|refine qAl ?_)|((with_reducible show _=true); assumption))
       refine AKp.doneE tabOK hfr (by rfl) ?_
       show _ = _
       simp only [tupAV]
       rw [g1, g2]
       rfl
     rw [k2]
     conv => arg 4; cbv
     repeat' (first|with_reducible (first|refine qAh ?_|refine qAt ?_|refine qAf ?_|refine qAy (by assumption) ?_|refine qAn (by assumption) ?_|refine qAd (fun hb => ?_) (fun hb => ?_)|refine qAe ?_ (fun hb => ?_)|refine qAl ?_)|((with_reducible show _=true); assumption))
     rw [a2]
     obtain ⟨J3, n3, nx⟩ := n2
     refine AKp.backTo (nx _ ?_)
     clear nx
     refine AK.runT hF tabOK hmix hnt hfr true _ hG ?_
     conv => arg 4; cbv
     refine AKt.yes l3 ?_
     rw [s3]
     refine AKt.need d3 fun _ => ?_
     rw [k3]
     conv => arg 4; cbv
     rw [y3]
     refine AKt.have ?_
     refine AKt.node (fun c3 => ?_) (fun c3 => ?_)
     · obtain ⟨g1, g2⟩ := bad2 (by
         rw [hF, f_not, un1] at c3
         rw [hque]
         simp only [Bool.not_eq_true'] at c3
         rw [c3]
         simp)
       repeat' (first|with_reducible (first|refine qAh ?_|refine qAt ?_|refine qAf ?_|refine qAy (by assumption) ?_|refine qAn (by assumption) ?_|refine qAd (fun hb => ?_) (fun hb => ?_)|refine qAe ?_ (fun hb => ?_)|refine qAl ?_)|((with_reducible show _=true); assumption))
       refine AKp.doneE tabOK hfr (by rfl) ?_
       show _ = _
       simp only [tupAV]
       rw [g1, g2]
       rfl
     rw [k3]
     conv => arg 4; cbv
     repeat' (first|with_reducible (first|refine qAh ?_|refine qAt ?_|refine qAf ?_|refine qAy (by assumption) ?_|refine qAn (by assumption) ?_|refine qAd (fun hb => ?_) (fun hb => ?_)|refine qAe ?_ (fun hb => ?_)|refine qAl ?_)|((with_reducible show _=true); assumption))
     rw [a3]
     obtain ⟨J4, n4, nx⟩ := n3
     refine AKp.backTo (nx _ ?_)
     clear nx
     refine AK.runT hF tabOK hmix hnt hfr true _ hG ?_
     conv => arg 4; cbv
     refine AKt.yes l4 ?_
     rw [s4]
     refine AKt.need d4 fun _ => ?_
     rw [k4]
     conv => arg 4; cbv
     rw [y4]
     refine AKt.have ?_
     refine AKt.node (fun c4 => ?_) (fun c4 => ?_)
     · obtain ⟨g1, g2⟩ := bad2 (by
         rw [hF, f_not, un1] at c4
         rw [hque]
         simp only [Bool.not_eq_true'] at c4
         rw [c4]
         simp)
       repeat' (first|with_reducible (first|refine qAh ?_|refine qAt ?_|refine qAf ?_|refine qAy (by assumption) ?_|refine qAn (by assumption) ?_|refine qAd (fun hb => ?_) (fun hb => ?_)|refine qAe ?_ (fun hb => ?_)|refine qAl ?_)|((with_reducible show _=true); assumption))
       refine AKp.doneE tabOK hfr (by rfl) ?_
       show _ = _
       simp only [tupAV]
       rw [g1, g2]
       rfl
     rw [k4]
     conv => arg 4; cbv
     repeat' (first|with_reducible (first|refine qAh ?_|refine qAt ?_|refine qAf ?_|refine qAy (by assumption) ?_|refine qAn (by assumption) ?_|refine qAd (fun hb => ?_) (fun hb => ?_)|refine qAe ?_ (fun hb => ?_)|refine qAl ?_)|((with_reducible show _=true); assumption))
     rw [a4]
     obtain ⟨J5, n5, nx⟩ := n4
     refine AKp.backTo (nx _ ?_)
     clear nx
     refine AK.runT hF tabOK hmix hnt hfr true _ hG ?_
     conv => arg 4; cbv
     refine AKt.no l5 ?_
     rw [k0]
     conv => arg 4; cbv
     rw [k1]
     conv => arg 4; cbv
     rw [k2]
     conv => arg 4; cbv
     rw [k3]
     conv => arg 4; cbv
     rw [k4]
     conv => arg 4; cbv
     repeat' (first|with_reducible (first|refine qAh ?_|refine qAt ?_|refine qAf ?_|refine qAy (by assumption) ?_|refine qAn (by assumption) ?_|refine qAd (fun hb => ?_) (fun hb => ?_)|refine qAe ?_ (fun hb => ?_)|refine qAl ?_)|((with_reducible show _=true); assumption))
     have hq2 : queB ws = true := by
       rw [hque]
       rw [hF, f_not, un1] at c0 c1 c2 c3 c4
       simp only [Bool.not_eq_false'] at c0 c1 c2 c3 c4
       rw [c0, c1, c2, c3, c4]; rfl
     rw [if_neg (fun h => by rw [hq2] at h; cases h.2)] at hE2
     refine AKp.join hK33 _ hfr ?_ ?_ (rest33 ⟨w1, kd, v2, v3, bo, uRefNumber z0 1 64, uRefNumber z1 1 8, uRefNumber z2 1 64, uRefNumber z3 1 1000, uRefNumber z4 1 1000⟩ ?_ rfl hE2)
     · repeat (first | exact True.intro | refine ⟨⟨rfl, rfl⟩, ?_⟩)
     · repeat (first | exact True.intro | refine ⟨⟨rfl, rfl, rfl⟩, ?_⟩)
     · rw [lvOf, if_neg (by rw [hkd, hk3]; decide), if_neg (by rw [hkd, hk3]; decide), hk3, hw1, hv2, hv3, hbo2, hw2, hw3, hw4, un0, un0, un0, un0, un0, hz0, hz1, hz2, hz3, hz4]
 case' r33 =>
   intro x hx hxn hE3
   obtain ⟨xn, x1, x2, x3, x4, x5, x6, x7, x8, x9⟩ := x
   simp only at hxn
   subst hxn
   have hin : ∀ l : List Dat, F .appD [] l = l := fun l => by rw [hF]; rfl
   have e5 : hasL ls xn = true → R = ld ∧ E = 5 := fun h => err 5 (by rw [hE3, if_pos h]) (by decide)
   rw [hK33]
   refine AKp.enterLoop 149 ?_
   conv => arg 7; cbv
   refine AKl.invT hF tabOK hmix hnt hfr true _ hG (fun n vs hs => ∃ (i : Nat) (iv : Int), i + n = ls.length ∧ iv = i ∧ hasL (ls.take i) xn = false ∧ vs = [(18, .d (.s (.int .i64 iv)))] ∧ hs = [(2, .cs 40 [.d (.s (.str xn)), .d (.s (.int .i64 x1)), .d (.s (.int .i64 x2)), .d (.s (.int .i64 x3)), .d (.s (.int .i64 x4)), .d (.s (.int .i64 x5)), .d (.s (.int .i64 x6)), .d (.s (.int .i64 x7)), .d (.s (.int .i64 x8)), .d (.s (.int .i64 x9))]), (0, .cs 25 [.d (.s (.int .i64 tt)), .d (.s (.int .i64 pe)), .d (.s (.int .i64 pr)), .d (.s (.int .i64 mo)), .d (.view 10 ld), .d (.view 5 sd)]), (1, .cs 25 [.d (.s (.int .i64 0)), .d (.s (.int .i64 0)), .d (.s (.int .i64 0)), .d (.s (.int .i64 0)), .d (.s .sl0), .d (.s .sl0)])]) ls.length ⟨0, _, by omega, rfl, by rfl, rfl, rfl⟩ (by repeat (first | exact True.intro | refine ⟨⟨rfl, rfl⟩, ?_⟩)) (by repeat (first | exact True.intro | refine ⟨⟨rfl, rfl, rfl⟩, ?_⟩)) ?_
   rintro J n vs hs hJ ⟨i, iv, hi, hiv, hno, rfl, rfl⟩
   conv => arg 4; cbv
   refine AKt.node (fun hb => ?_) (fun hb => ?_)
   · have hlt : i < ls.length := by rw [hF, f_ltI, f_lenD, hll, hiv] at hb; have := of_decide_eq_true hb; omega
     obtain ⟨y, hy⟩ : ∃ y, ls[i]? = some y := ⟨_, List.getElem?_eq_getElem hlt⟩
     have hdy : ld[i]? = some y.dat := by rw [hld]; exact lvDs_get hy
     have hhy : F .hasD ld iv [.str, .int .i64, .int .i64, .int .i64, .int .i64, .int .i64, .int .i64, .int .i64, .int .i64, .int .i64] = true := t_hasD hF hdy hiv rfl
     rw [show F .strA ld iv 0 = y.nm by exact t_strA hF hdy hiv rfl]
     refine AKt.need hhy fun _ => ?_
     refine AKt.node (fun he => ?_) (fun he => ?_)
     · have e := S _ _ he
       have : hasL ls xn = true := by
         unfold hasL
         rw [List.any_eq_true]
         exact ⟨y, List.mem_of_getElem? hy, decide_eq_true e⟩
       obtain ⟨g1, g2⟩ := e5 this
       repeat' (first|with_reducible (first|refine qAh ?_|refine qAt ?_|refine qAf ?_|refine qAy (by assumption) ?_|refine qAn (by assumption) ?_|refine qAd (fun hb => ?_) (fun hb => ?_)|refine qAe ?_ (fun hb => ?_)|refine qAl ?_)|((with_reducible show _=true); assumption))
       refine AKp.doneE tabOK hfr (by rfl) ?_
       show _ = _
       simp only [tupAV]
       rw [g1, g2]
       rfl
     · have e := NS _ _ he
       repeat' (first|with_reducible (first|refine qAh ?_|refine qAt ?_|refine qAf ?_|refine qAy (by assumption) ?_|refine qAn (by assumption) ?_|refine qAd (fun hb => ?_) (fun hb => ?_)|refine qAe ?_ (fun hb => ?_)|refine qAl ?_)|((with_reducible show _=true); assumption))
       refine AKp.again _ hfr (by repeat (first | exact True.intro | refine ⟨⟨rfl, rfl⟩, ?_⟩)) (by repeat (first | exact True.intro | refine ⟨⟨rfl, rfl, rfl⟩, ?_⟩)) (hJ (n - 1) _ _ (by omega) ⟨i + 1, _, by omega, inc_i hF hiv (by omega), by rw [hasL_take hy, hno, decide_eq_false e]; rfl, rfl, rfl⟩)
   have hge : ¬ i < ls.length := by rw [hF, f_ltI, f_lenD, hll, hiv] at hb; have := of_decide_eq_false hb; omega
   rw [List.take_of_length_le (by omega)] at hno
   rw [if_neg (by rw [hno]; decide)] at hE3
   refine AKt.node (fun hl => ?_) (fun hl => ?_)
   · have h16 : 16 ≤ ls.length := by rw [hF, f_leI, f_lenD, hll] at hl; have := of_decide_eq_true hl; omega
     rw [if_pos h16] at hE3
     obtain ⟨g1, g2⟩ := err 3 hE3 (by decide)
     repeat' (first|with_reducible (first|refine qAh ?_|refine qAt ?_|refine qAf ?_|refine qAy (by assumption) ?_|refine qAn (by assumption) ?_|refine qAd (fun hb => ?_) (fun hb => ?_)|refine qAe ?_ (fun hb => ?_)|refine qAl ?_)|((with_reducible show _=true); assumption))
     refine AKp.doneE tabOK hfr (by rfl) ?_
     show _ = _
     simp only [tupAV]
     rw [g1, g2]
     rfl
   have h16 : ¬ 16 ≤ ls.length := by rw [hF, f_leI, f_lenD, hll] at hl; have := of_decide_eq_false hl; omega
   rw [if_neg h16] at hE3
   have hRv : R = ld ++ [.agg [.s (.str xn), .s (.int .i64 x1), .s (.int .i64 x2), .s (.int .i64 x3), .s (.int .i64 x4), .s (.int .i64 x5), .s (.int .i64 x6), .s (.int .i64 x7), .s (.int .i64 x8), .s (.int .i64 x9)]] := by
     rw [hR', if_pos hE3, hld, ← hx]
     simp [lvDs, Lv.dat]
   have ap : F .appD ld [.agg [.s (.str xn), .s (.int .i64 x1), .s (.int .i64 x2), .s (.int .i64 x3), .s (.int .i64 x4), .s (.int .i64 x5), .s (.int .i64 x6), .s (.int .i64 x7), .s (.int .i64 x8), .s (.int .i64 x9)]] = R := by rw [hF, f_appD, hRv]
   have f1 : F .fits 88 ld = true := t_fits hF (by omega)
   have f2 : F .fits 88 R = true := t_fits hF (by rw [hRv]; simp; omega)
   refine AKt.leaf ?_
   refine AKp.runD2 hF tabOK hmix hnt true _ hG (Nat.le_trans (Nat.le_of_eq hfr) (Nat.le_of_ble_eq_true rfl)) ?_
   conv => arg 4; cbv
   rw [hin, ap]
   repeat' (first|with_reducible (first|refine qAh ?_|refine qAt ?_|refine qAf ?_|refine qAy (by assumption) ?_|refine qAn (by assumption) ?_|refine qAd (fun hb => ?_) (fun hb => ?_)|refine qAe ?_ (fun hb => ?_)|refine qAl ?_)|((with_reducible show _=true); assumption))
   refine AKp.freeze 5 rfl ?_
   conv => arg 4; arg 2; cbv
   refine AKp.doneE tabOK hfr (by rfl) ?_
   show _ = _
   simp only [tupAV]
   rw [hE3]
   rfl
def lcP (ls ss w : List Dat) : Bool := (isLv ls && isSm ss) && (isStrs w && decide (ls.length ≤ 1000))
def lvRV (ls w : List Dat) : List Dat := lvDs (levC ⟨0, 0, 0, 0, unLv ls, []⟩ (unStr w))
def lvRE (ls w : List Dat) : Int := levE ⟨0, 0, 0, 0, unLv ls, []⟩ (unStr w)
theorem rlevelD_spec (a b c d : Int) (ls ss w : List Dat) (h : lcP ls ss w = true) : ESpec Tryz.prog 56 [.d (.agg [.s (.int .i64 a), .s (.int .i64 b), .s (.int .i64 c), .s (.int .i64 d), .view 10 ls, .view 5 ss]), .d (.view 1 w)] (fun x => x = .tup [.d (.agg [.s (.int .i64 a), .s (.int .i64 b), .s (.int .i64 c), .s (.int .i64 d), .view 10 (lvRV ls w), .view 5 ss]), .d (.s (.int .i64 (lvRE ls w)))]) := by
 simp only [lcP, Bool.and_eq_true, decide_eq_true_eq] at h
 have hl : (unLv ls).length ≤ 1000 := by simp [unLv]; exact h.2.2
 have := rlevel_spec ⟨a, b, c, d, unLv ls, unSm ss⟩ (unStr w) hl
 simp only [lv_un h.1.1, sm_un h.1.2, strDs_unStr h.2.1] at this
 exact this
def φRLevel (p : List Dat → List Dat → List Dat → Bool) (u : List Dat → List Dat → List Dat) (e : List Dat → List Dat → Int) : List AV → Option (Bool × AV)
 | [.d (.agg [.s (.int .i64 a), .s (.int .i64 b), .s (.int .i64 c), .s (.int .i64 d), .view 10 ls, .view 5 ss]), .d (.view 1 w)] => some (p ls ss w, .tup [.d (.agg [.s (.int .i64 a), .s (.int .i64 b), .s (.int .i64 c), .s (.int .i64 d), .view 10 (u ls w), .view 5 ss]), .d (.s (.int .i64 (e ls w)))])
 | _ => none
theorem φRLevel_ok : SpOK Tryz.prog 56 (φRLevel (lcP) (lvRV) (lvRE)) := by
 intro xs b x h hb
 unfold φRLevel at h
 split at h
 · simp only [Option.some.injEq, Prod.mk.injEq] at h
   obtain ⟨rfl, rfl⟩ := h
   exact rlevelD_spec _ _ _ _ _ _ _ hb
 · cases h
end Go.Proofs.YtpmpajodihpkaaaGreatDoor
