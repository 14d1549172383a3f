/- The library of this claim and its walks, part 33, joined out of smaller texts. No statement stands in it. -/
import Derived.Test.YtpmpajodihpkaaaGreatDoorUaM32
set_option linter.unusedSimpArgs false
set_option linter.unusedVariables false
namespace Go.Proofs.YtpmpajodihpkaaaGreatDoor
open Go Go.Proofs Go.Ua Go.Extern
set_option maxRecDepth 10000
theorem pwithin_spec (n a b : Int) : ESpec Tryz.prog 28 [.d (.s (.int .i64 n)), .d (.s (.int .i64 a)), .d (.s (.int .i64 b))] (fun x => x = .d (.s (.bool (inB n a b)))) := by
 refine ESpec.enter Tryz.func28 (by kernel_rfl) rfl (Nat.le_of_ble_eq_true rfl) fun _ cx hnt hfr => ?_
 obtain ⟨F, hF⟩ := real_ex
 refine AK.runT hF tabOK hmix hnt hfr false [] trivial ?_
 conv => arg 4; cbv
 repeat' (first|with_reducible (first|refine qAh ?_|refine qAt ?_|refine qAf ?_|refine qAy (by assumption) ?_|refine qAn (by assumption) ?_|refine qAd (fun hb => ?_) (fun hb => ?_)|refine qAe ?_ (fun hb => ?_)|refine qAl ?_)|((with_reducible show _=true); assumption))
 all_goals
   refine AKp.doneE tabOK hfr (by rfl) ?_
   show _ = _
   simp only [tupAV]
   simp only [hF, f_ltI, f_leI, f_eqI, f_eqS, f_eqB, f_not, f_andB, f_orB, f_lenS, f_lenD, f_hasS, f_atS, f_hasC, f_subS, f_hasCat, f_app, f_wrap, f_add, f_sub, f_mul, f_appD, f_fits, f_hasV, f_subV, decide_eq_true_eq, decide_eq_false_iff_not, beq_iff_eq, beq_eq_false_iff_ne, Bool.and_eq_true, Bool.and_eq_false_iff, Bool.not_eq_true, Bool.not_eq_false, Bool.not_eq_eq_eq_not, Bool.not_true, Bool.not_false] at *
   simp [inB, *]
def φPWithin (u : Int → Int → Int → Bool) : List AV → Option (Bool × AV)
 | [.d (.s (.int .i64 n)), .d (.s (.int .i64 a)), .d (.s (.int .i64 b))] => some (true, .d (.s (.bool (u n a b))))
 | _ => none
theorem φPWithin_ok : SpOK Tryz.prog 28 (φPWithin (inB)) := by
 intro xs b x h hb
 unfold φPWithin at h
 split at h
 · simp only [Option.some.injEq, Prod.mk.injEq] at h
   obtain ⟨rfl, rfl⟩ := h
   exact pwithin_spec _ _ _
 · cases h
set_option maxHeartbeats 1000000 in
theorem plevel_spec (nm : Wd) (kd sh ld bo qu ha le wa gu : Int) : ESpec Tryz.prog 29 [.d (.agg [.s (.str nm), .s (.int .i64 kd), .s (.int .i64 sh), .s (.int .i64 ld), .s (.int .i64 bo), .s (.int .i64 qu), .s (.int .i64 ha), .s (.int .i64 le), .s (.int .i64 wa), .s (.int .i64 gu)])] (fun x => x = .d (.s (.bool (levOK ⟨nm, kd, sh, ld, bo, qu, ha, le, wa, gu⟩)))) := by
 obtain ⟨uPWithin, huPWithin⟩ : ∃ u : Int → Int → Int → Bool, u = inB := ⟨_, rfl⟩
 obtain ⟨uName, huName⟩ : ∃ u : List UInt8 → Bool, u = nameF := ⟨_, rfl⟩
 have hG : TblOK Tryz.prog [(28, .p (φPWithin uPWithin)), (45, .p (φName uName))] := ⟨(by rw [huPWithin]; exact φPWithin_ok), (by rw [huName]; exact φName_ok), trivial⟩
 refine ESpec.enter Tryz.func29 (by kernel_rfl) rfl (Nat.le_of_ble_eq_true rfl) fun hok cx hnt hfr => ?_
 obtain ⟨F, hF⟩ := real_ex
 refine AK.runT hF tabOK hmix hnt hfr true _ hG ?_
 conv => arg 4; cbv
 repeat' (first|with_reducible (first|refine qAh ?_|refine qAt ?_|refine qAf ?_|refine qAy (by assumption) ?_|refine qAn (by assumption) ?_|refine qAd (fun hb => ?_) (fun hb => ?_)|refine qAe ?_ (fun hb => ?_)|refine qAl ?_)|((with_reducible show _=true); assumption))
 all_goals
   refine AKp.doneE tabOK hfr (by rfl) ?_
   show _ = _
   simp only [tupAV]
   subst huPWithin huName
   simp only [hF, f_ltI, f_leI, f_eqI, f_eqS, f_eqB, f_not, f_andB, f_orB, f_lenS, f_lenD, f_hasS, f_atS, f_hasC, f_subS, f_hasCat, f_app, f_wrap, f_add, f_sub, f_mul, f_appD, f_fits, f_hasV, f_subV, decide_eq_true_eq, decide_eq_false_iff_not, beq_iff_eq, beq_eq_false_iff_ne, Bool.and_eq_true, Bool.and_eq_false_iff, Bool.not_eq_true, Bool.not_eq_false, Bool.not_eq_eq_eq_not, Bool.not_true, Bool.not_false] at *
   first
     | (simp [levOK, *]; done)
     | (rw [Bool.eq_iff_iff]; simp [levOK, *]; done)
     | (clear hok hG; grind [levOK])
def φPLevel (u : Wd → Int → Int → Int → Int → Int → Int → Int → Int → Int → Bool) : List AV → Option (Bool × AV)
 | [.d (.agg [.s (.str nm), .s (.int .i64 kd), .s (.int .i64 sh), .s (.int .i64 ld), .s (.int .i64 bo), .s (.int .i64 qu), .s (.int .i64 ha), .s (.int .i64 le), .s (.int .i64 wa), .s (.int .i64 gu)])] => some (true, .d (.s (.bool (u nm kd sh ld bo qu ha le wa gu))))
 | _ => none
theorem φPLevel_ok : SpOK Tryz.prog 29 (φPLevel (fun a b c d e f g h i j => levOK ⟨a, b, c, d, e, f, g, h, i, j⟩)) := by
 intro xs b x h hb
 unfold φPLevel at h
 split at h
 · simp only [Option.some.injEq, Prod.mk.injEq] at h
   obtain ⟨rfl, rfl⟩ := h
   exact plevel_spec _ _ _ _ _ _ _ _ _ _
 · cases h
theorem plists_spec (a b c d e : List Dat) : ESpec Tryz.prog 46 [.d (.agg [.view 1 a, .view 1 b, .view 1 c, .view 1 d, .view 1 e])] (fun x => x = .d (.agg [.view 1 a, .view 1 b, .view 1 c, .view 1 d, .view 1 e])) := by
 refine ESpec.enter Tryz.func46 (by kernel_rfl) rfl (Nat.le_of_ble_eq_true rfl) fun hok cx hnt hfr => ?_
 obtain ⟨F, hF⟩ := real_ex
 refine AK.runT hF tabOK hmix hnt hfr true [] trivial ?_
 conv => arg 4; cbv
 repeat' (first|with_reducible (first|refine qAh ?_|refine qAt ?_|refine qAf ?_|refine qAy (by assumption) ?_|refine qAn (by assumption) ?_|refine qAd (fun hb => ?_) (fun hb => ?_)|refine qAe ?_ (fun hb => ?_)|refine qAl ?_)|((with_reducible show _=true); assumption))
 refine AKp.doneE tabOK hfr (by rfl) ?_
 show _ = _
 simp only [tupAV]
 rfl
def φPLists  : List AV → Option (Bool × AV)
 | [.d (.agg [.view 1 a, .view 1 b, .view 1 c, .view 1 d, .view 1 e])] => some (true, .d (.agg [.view 1 a, .view 1 b, .view 1 c, .view 1 d, .view 1 e]))
 | _ => none
theorem φPLists_ok : SpOK Tryz.prog 46 (φPLists ) := by
 intro xs b x h hb
 unfold φPLists at h
 split at h
 · simp only [Option.some.injEq, Prod.mk.injEq] at h
   obtain ⟨rfl, rfl⟩ := h
   exact plists_spec _ _ _ _ _
 · cases h
end Go.Proofs.YtpmpajodihpkaaaGreatDoor
namespace Go.Proofs.YtpmpajodihpkaaaGreatDoor
open Go Go.Proofs Go.Ua Go.Extern
def digI (n : Int) : Wd := Lib.decDigits n.toNat
def borW (b : Int) : Wd := if b = -1 then ALLW else digI b
def byW (b : Int) : Wd := if b = 1 then USER else if b = 2 then SPACE else NONE
def levW (l : Lv) : List Wd :=
 if l.kd = 1 then [LEVEL, l.nm, EXEMPT]
 else if l.kd = 2 then [LEVEL, l.nm, digI l.sh, digI l.ld, borW l.bo, REJECT]
 else [LEVEL, l.nm, digI l.sh, digI l.ld, borW l.bo, QUEUE, digI l.qu, digI l.ha, digI l.le, digI l.wa, digI l.gu]
def rulW (r : Rl) : List Wd := [RULE, joinF r.us, joinF r.gs, joinF r.vs, joinF r.rs, joinF r.ps]
def sch1 (s : Sm) : List Wd := [SCHEMA, s.nm, s.lv, digI s.rk, byW s.bb]
def schW (s : Sm) : List (List Wd) := sch1 s :: s.rl.map rulW
def headW (c : Cf) : List (List Wd) := (if c.tt = 0 then [] else [[TOTAL, digI c.tt]]) ++ ((if c.pe = 0 then [] else [[PERIOD, digI c.pe]]) ++ (if c.pr = 0 then [] else [[SEATS, digI c.pr, digI c.mo]]))
def cfW (c : Cf) : List (List Wd) := headW c ++ (c.ls.map levW ++ (c.ss.map schW).flatten)
def runL : Cf → List (List Wd) → Option Cf
 | c, [] => some c
 | c, w :: r => if linE c w = 0 then runL (linA c w) r else none
theorem runL_app : ∀ (a : List (List Wd)) (c : Cf) (b : List (List Wd)), runL c (a ++ b) = (runL c a).bind fun d => runL d b
 | [], c, b => rfl
 | w :: a, c, b => by
   simp only [List.cons_append, runL]
   split
   · exact runL_app a _ b
   · rfl
theorem runL_formed : ∀ {l : List (List Wd)} {c d : Cf}, formC c = true → runL c l = some d → formC d = true
 | [], c, d, hc, h => by obtain rfl := Option.some.inj h; exact hc
 | w :: r, c, d, hc, h => by
   simp only [runL] at h
   split at h
   · rename_i he
     exact runL_formed (line_formed hc he) h
   · cases h
theorem zero_formed : formC zeroC = true := by decide
theorem tot_line {c : Cf} {n : Int} (h0 : c.tt = 0) (h : inB n 1 4096 = true) : linE c [TOTAL, digI n] = 0 ∧ linA c [TOTAL, digI n] = { c with tt := n } := by
 obtain ⟨g1, g2⟩ := num_of (a := 1) (by decide) (by decide) h
 refine ⟨?_, ?_⟩
 · show (if TOTAL = TOTAL then totE c [TOTAL, digI n] else _) = 0
   rw [if_pos rfl, totE, if_neg (by simp), if_neg, if_neg (by simp [h0])]
   show ¬ numB (digI n) 1 4096 = false
   rw [digI, g1]; decide
 · show (if TOTAL = TOTAL then { c with tt := numV (digI n) 1 4096 } else _) = _
   rw [if_pos rfl, digI, g2]
theorem per_line {c : Cf} {n : Int} (h0 : c.pe = 0) (h : inB n 1 1000 = true) : linE c [PERIOD, digI n] = 0 ∧ linA c [PERIOD, digI n] = { c with pe := n } := by
 obtain ⟨g1, g2⟩ := num_of (a := 1) (by decide) (by decide) h
 refine ⟨?_, ?_⟩
 · show (if PERIOD = TOTAL then _ else if PERIOD = PERIOD then perE c [PERIOD, digI n] else _) = 0
   rw [if_neg (by decide), if_pos rfl, perE, if_neg (by simp), if_neg, if_neg (by simp [h0])]
   show ¬ numB (digI n) 1 1000 = false
   rw [digI, g1]; decide
 · show (if PERIOD = TOTAL then _ else if PERIOD = PERIOD then { c with pe := numV (digI n) 1 1000 } else _) = _
   rw [if_neg (by decide), if_pos rfl, digI, g2]
theorem sea_line {c : Cf} {n m : Int} (h0 : c.pr = 0) (h : inB n 1 1048576 = true) (hm : inB m 1 16 = true) : linE c [SEATS, digI n, digI m] = 0 ∧ linA c [SEATS, digI n, digI m] = { c with pr := n, mo := m } := by
 obtain ⟨g1, g2⟩ := num_of (a := 1) (by decide) (by decide) h
 obtain ⟨g3, g4⟩ := num_of (a := 1) (by decide) (by decide) hm
 refine ⟨?_, ?_⟩
 · show (if SEATS = TOTAL then _ else if SEATS = PERIOD then _ else if SEATS = SEATS then seaE c [SEATS, digI n, digI m] else _) = 0
   rw [if_neg (by decide), if_neg (by decide), if_pos rfl, seaE, if_neg (by simp), if_neg, if_neg (by simp [h0])]
   show ¬ (numB (digI n) 1 1048576 && numB (digI m) 1 16) = false
   rw [digI, digI, g1, g3]; decide
 · show (if SEATS = TOTAL then _ else if SEATS = PERIOD then _ else if SEATS = SEATS then { c with pr := numV (digI n) 1 1048576, mo := numV (digI m) 1 16 } else _) = _
   rw [if_neg (by decide), if_neg (by decide), if_pos rfl, digI, digI, g2, g4]
theorem bor_of {b : Int} (h : inB b (-1) 1000 = true) : borB (borW b) = true ∧ borV (borW b) = b := by
 unfold borW
 split
 · rename_i e
   exact ⟨rfl, by rw [e]; rfl⟩
 · rename_i hne
   have h' : inB b 0 1000 = true := by simp only [inB, Bool.and_eq_true, decide_eq_true_eq] at h ⊢; omega
   obtain ⟨g1, g2⟩ := num_of (a := 0) (by decide) (by decide) h'
   have hn : digI b ≠ ALLW := fun e => by
     have := allW_no 0 1000
     rw [← e, digI, g1] at this
     cases this
   exact ⟨by rw [borB, decide_eq_false hn, digI, g1]; rfl, by rw [borV, if_neg hn, digI, g2]⟩
theorem inB_iff {n a b : Int} : inB n a b = true ↔ a ≤ n ∧ n ≤ b := by simp [inB]
theorem lev_line {c : Cf} {l : Lv} (h : levOK l = true) (h1 : hasL c.ls l.nm = false) (h2 : c.ls.length < 16) : linE c (levW l) = 0 ∧ linA c (levW l) = { c with ls := c.ls ++ [l] } := by
 have w0 : wAt (levW l) 0 = LEVEL := by unfold levW; split; rfl; split; rfl; rfl
 have w1 : wAt (levW l) 1 = l.nm := by unfold levW; split; rfl; split; rfl; rfl
 have hn : nameF l.nm = true := by simp only [levOK, Bool.and_eq_true] at h; exact h.1
 have key : ∀ k, kindL (levW l) = k → k ≠ 0 → (k ≠ 1 → limB (levW l) = true) → (k = 3 → queB (levW l) = true) → lvOf (levW l) = l → linE c (levW l) = 0 ∧ linA c (levW l) = { c with ls := c.ls ++ [l] } := by
   intro k hk k0 hl hq hv
   refine ⟨?_, ?_⟩
   · unfold linE
     rw [w0, if_neg (by decide), if_neg (by decide), if_neg (by decide), if_pos rfl, levE, hk, w1, if_neg k0, if_neg (by rw [hn]; decide), if_neg, if_neg, if_neg (by rw [h1]; decide), if_neg (by omega)]
     · rintro ⟨a, b⟩; rw [hq a] at b; cases b
     · rintro ⟨a, b⟩; rw [hl a] at b; cases b
   · unfold linA
     rw [w0, if_neg (by decide), if_neg (by decide), if_neg (by decide), if_pos rfl, hv]
 obtain ⟨nm, kd, sh, ld, bo, qu, ha, le, wa, gu⟩ := l
 simp only [levOK, Bool.and_eq_true] at h
 obtain ⟨_, h⟩ := h
 split at h
 · rename_i e
   try simp only at e
   subst e
   simp only [Bool.and_eq_true, decide_eq_true_eq] at h
   obtain ⟨rfl, rfl, rfl, rfl, rfl, rfl, rfl, rfl⟩ := h
   exact key 1 rfl (by decide) (fun h => absurd rfl h) (fun h => by cases h) rfl
 split at h
 · rename_i e0 e
   try simp only at e
   subst e
   simp only [Bool.and_eq_true, decide_eq_true_eq] at h
   obtain ⟨⟨rfl, rfl, rfl, rfl, rfl⟩, g1, g2, g3⟩ := h
   obtain ⟨a1, a2⟩ := num_of (a := 0) (by decide) (by decide) g1
   obtain ⟨b1, b2⟩ := num_of (a := 0) (by decide) (by decide) g2
   obtain ⟨d1, d2⟩ := bor_of g3
   have hk : kindL (levW ⟨nm, 2, sh, ld, bo, 0, 0, 0, 0, 0⟩) = 2 := by
     unfold kindL levW
     simp [wAt]
   refine key 2 hk (by decide) (fun _ => ?_) (fun h => by cases h) ?_
   · show (numB (digI sh) 0 10000 && (numB (digI ld) 0 100 && borB (borW bo))) = true
     rw [digI, digI, a1, b1, d1]; rfl
   · unfold lvOf
     rw [hk, if_neg (by decide), if_pos rfl]
     show Lv.mk nm 2 (numV (digI sh) 0 10000) (numV (digI ld) 0 100) (borV (borW bo)) 0 0 0 0 0 = _
     rw [digI, digI, a2, b2, d2]
 split at h
 · rename_i e0 e1 e
   try simp only at e
   subst e
   simp only [Bool.and_eq_true] at h
   obtain ⟨⟨q1, q2, q3, q4, q5⟩, g1, g2, g3⟩ := h
   obtain ⟨a1, a2⟩ := num_of (a := 0) (by decide) (by decide) g1
   obtain ⟨b1, b2⟩ := num_of (a := 0) (by decide) (by decide) g2
   obtain ⟨d1, d2⟩ := bor_of g3
   obtain ⟨r1, s1⟩ := num_of (a := 1) (by decide) (by decide) q1
   obtain ⟨r2, s2⟩ := num_of (a := 1) (by decide) (by decide) q2
   obtain ⟨r3, s3⟩ := num_of (a := 1) (by decide) (by decide) q3
   obtain ⟨r4, s4⟩ := num_of (a := 1) (by decide) (by decide) q4
   obtain ⟨r5, s5⟩ := num_of (a := 1) (by decide) (by decide) q5
   have hk : kindL (levW ⟨nm, 3, sh, ld, bo, qu, ha, le, wa, gu⟩) = 3 := by
     unfold kindL levW
     simp [wAt]
   refine key 3 hk (by decide) (fun _ => ?_) (fun _ => ?_) ?_
   · show (numB (digI sh) 0 10000 && (numB (digI ld) 0 100 && borB (borW bo))) = true
     rw [digI, digI, a1, b1, d1]; rfl
   · show (numB (digI qu) 1 64 && (numB (digI ha) 1 8 && (numB (digI le) 1 64 && (numB (digI wa) 1 1000 && numB (digI gu) 1 1000)))) = true
     simp only [digI]
     rw [r1, r2, r3, r4, r5]; rfl
   · unfold lvOf
     rw [hk, if_neg (by decide), if_neg (by decide)]
     show Lv.mk nm 3 (numV (digI sh) 0 10000) (numV (digI ld) 0 100) (borV (borW bo)) (numV (digI qu) 1 64) (numV (digI ha) 1 8) (numV (digI le) 1 64) (numV (digI wa) 1 1000) (numV (digI gu) 1 1000) = _
     simp only [digI]
     rw [a2, b2, d2, s1, s2, s3, s4, s5]
 · cases h
theorem by_of {b : Int} (h : inB b 0 2 = true) : byB (byW b) = true ∧ byV (byW b) = b := by
 rw [inB_iff] at h
 have : b = 0 ∨ b = 1 ∨ b = 2 := by omega
 rcases this with rfl | rfl | rfl <;> exact ⟨rfl, rfl⟩
theorem sch_line {c : Cf} {s : Sm} (h : smOK s = true) (h1 : hasM c.ss s.nm = false) (h2 : c.ss.length < 32) : linE c (sch1 s) = 0 ∧ linA c (sch1 s) = { c with ss := c.ss ++ [⟨s.nm, s.lv, s.rk, s.bb, []⟩] } := by
 simp only [smOK, Bool.and_eq_true] at h
 obtain ⟨n1, n2, r, b, _, _⟩ := h
 obtain ⟨a1, a2⟩ := num_of (a := 1) (by decide) (by decide) r
 obtain ⟨b1, b2⟩ := by_of b
 refine ⟨?_, ?_⟩
 · show (if SCHEMA = TOTAL then _ else if SCHEMA = PERIOD then _ else if SCHEMA = SEATS then _ else if SCHEMA = LEVEL then _ else if SCHEMA = SCHEMA then schE c (sch1 s) else _) = 0
   rw [if_neg (by decide), if_neg (by decide), if_neg (by decide), if_neg (by decide), if_pos rfl, schE, if_neg (by simp [sch1]), if_neg, if_neg, if_neg, if_neg, if_neg (by omega)]
   · show ¬ hasM c.ss s.nm = true; rw [h1]; decide
   · show ¬ byB (byW s.bb) = false; rw [b1]; decide
   · show ¬ numB (digI s.rk) 1 10000 = false; rw [digI, a1]; decide
   · show ¬ (nameF s.nm && nameF s.lv) = false; rw [n1, n2]; decide
 · show (if SCHEMA = TOTAL then _ else if SCHEMA = PERIOD then _ else if SCHEMA = SEATS then _ else if SCHEMA = LEVEL then _ else if SCHEMA = SCHEMA then { c with ss := c.ss ++ [smOf (sch1 s)] } else _) = _
   rw [if_neg (by decide), if_neg (by decide), if_neg (by decide), if_neg (by decide), if_pos rfl]
   show { c with ss := c.ss ++ [Sm.mk s.nm s.lv (numV (digI s.rk) 1 10000) (byV (byW s.bb)) []] } = _
   rw [digI, a2, b2]
theorem lis_of {l : List Wd} (h : goodF l = true) : listB (joinF l) = true ∧ lisV (joinF l) = l ∧ joinF l ≠ [] := by
 have hne : joinF l ≠ [] := by
   unfold joinF
   rw [if_pos h]
   split
   · simp
   · rename_i hl
     obtain ⟨x, r, rfl⟩ := List.exists_cons_of_ne_nil hl
     intro e
     have hx : x ≠ [] := by
       unfold goodF at h
       simp only [Bool.or_eq_true, Bool.and_eq_true, beq_iff_eq] at h
       rcases h with h | h
       · injection h with h _; rw [h]; simp
       · have := List.all_eq_true.1 h.1.1 x (by simp)
         exact (word_parts this).1
     cases r with
     | nil => rw [Lib.join_one] at e; exact hx e
     | cons y r => rw [join_cons2] at e; simp at e
 have := list_join hne
 exact ⟨by rw [listB, this]; rfl, by rw [lisV, this]; rfl, hne⟩
theorem rul_line {c : Cf} {a : List Sm} {s : Sm} {r : Rl} (hs : c.ss = a ++ [s]) (hr : rlOK r = true) (hl : s.rl.length < 8) : linE c (rulW r) = 0 ∧ linA c (rulW r) = { c with ss := a ++ [⟨s.nm, s.lv, s.rk, s.bb, s.rl ++ [r]⟩] } := by
 simp only [rlOK, Bool.and_eq_true] at hr
 obtain ⟨g1, g2, g3, g4, g5⟩ := hr
 obtain ⟨a1, b1, _⟩ := lis_of g1
 obtain ⟨a2, b2, _⟩ := lis_of g2
 obtain ⟨a3, b3, _⟩ := lis_of g3
 obtain ⟨a4, b4, _⟩ := lis_of g4
 obtain ⟨a5, b5, _⟩ := lis_of g5
 have hla : lastR c = s.rl := by rw [lastR, hs]; simp
 refine ⟨?_, ?_⟩
 · show (if RULE = TOTAL then _ else if RULE = PERIOD then _ else if RULE = SEATS then _ else if RULE = LEVEL then _ else if RULE = SCHEMA then _ else if RULE = RULE then rulE c (rulW r) else _) = 0
   rw [if_neg (by decide), if_neg (by decide), if_neg (by decide), if_neg (by decide), if_neg (by decide), if_pos rfl, rulE, if_neg, if_neg, if_neg]
   · rw [hla]; omega
   · show ¬ (listB (joinF r.us) && (listB (joinF r.gs) && (listB (joinF r.vs) && (listB (joinF r.rs) && listB (joinF r.ps))))) = false
     rw [a1, a2, a3, a4, a5]; decide
   · rw [hs]; simp [rulW]
 · show (if RULE = TOTAL then _ else if RULE = PERIOD then _ else if RULE = SEATS then _ else if RULE = LEVEL then _ else if RULE = SCHEMA then _ else { c with ss := addR c.ss (rlOf (rulW r)) }) = _
   rw [if_neg (by decide), if_neg (by decide), if_neg (by decide), if_neg (by decide), if_neg (by decide)]
   have : rlOf (rulW r) = r := by
     show Rl.mk (lisV (joinF r.us)) (lisV (joinF r.gs)) (lisV (joinF r.vs)) (lisV (joinF r.rs)) (lisV (joinF r.ps)) = r
     rw [b1, b2, b3, b4, b5]
   rw [this, hs, addR]
   simp
theorem run_levels : ∀ (b : List Lv) (c : Cf), allL [] (c.ls ++ b) = true → c.ls.length + b.length ≤ 16 → runL c (b.map levW) = some { c with ls := c.ls ++ b }
 | [], c, h, hl => by simp [runL]
 | x :: b, c, h, hl => by
   have h' := h
   rw [allL_app] at h'
   simp only [allL, List.nil_append, Bool.and_eq_true, Bool.not_eq_eq_eq_not, Bool.not_true] at h'
   obtain ⟨_, h1, h2, _⟩ := h'
   simp only [List.length_cons] at hl
   obtain ⟨g1, g2⟩ := lev_line h1 h2 (by omega)
   rw [List.map_cons, runL, if_pos g1, g2, run_levels b _ (by simpa using h) (by simp; omega)]
   simp
theorem run_rules : ∀ (q : List Rl) (c : Cf) (a : List Sm) (s : Sm), c.ss = a ++ [s] → q.all rlOK = true → s.rl.length + q.length ≤ 8 → runL c (q.map rulW) = some { c with ss := a ++ [⟨s.nm, s.lv, s.rk, s.bb, s.rl ++ q⟩] }
 | [], c, a, s, hs, h, hl => by simp [runL, ← hs]
 | x :: q, c, a, s, hs, h, hl => by
   simp only [List.all_cons, Bool.and_eq_true] at h
   simp only [List.length_cons] at hl
   obtain ⟨g1, g2⟩ := rul_line hs h.1 (by omega)
   rw [List.map_cons, runL, if_pos g1, g2, run_rules q _ a _ rfl h.2 (by simp; omega)]
   simp
theorem run_schemas : ∀ (b : List Sm) (c : Cf), allM [] (c.ss ++ b) = true → c.ss.length + b.length ≤ 32 → runL c (b.map schW).flatten = some { c with ss := c.ss ++ b }
 | [], c, h, hl => by simp [runL]
 | x :: b, c, h, hl => by
   have h' := h
   rw [allM_app] at h'
   simp only [allM, List.nil_append, Bool.and_eq_true, Bool.not_eq_eq_eq_not, Bool.not_true] at h'
   obtain ⟨_, h1, h2, _⟩ := h'
   simp only [List.length_cons] at hl
   obtain ⟨g1, g2⟩ := sch_line h1 h2 (by omega)
   have hx := h1
   simp only [smOK, Bool.and_eq_true, decide_eq_true_eq] at hx
   obtain ⟨_, _, _, _, hx5, hx6⟩ := hx
   rw [List.map_cons, List.flatten_cons, runL_app, schW, runL, if_pos g1, g2, run_rules x.rl _ c.ss ⟨x.nm, x.lv, x.rk, x.bb, []⟩ rfl hx6 (by simpa using hx5)]
   simp only [Option.bind_some, List.nil_append]
   rw [run_schemas b _ (by simpa using h) (by simp; omega)]
   simp
theorem run_told {c : Cf} (h : formC c = true) : runL zeroC (cfW c) = some c := by
 simp only [formC, Bool.and_eq_true, decide_eq_true_eq] at h
 obtain ⟨c1, c2, c3, c4, c5, c6, c7, c8, c9⟩ := h
 rw [inB_iff] at c1 c2 c3 c4
 have hh : runL zeroC (headW c) = some ⟨c.tt, c.pe, c.pr, c.mo, [], []⟩ := by
   unfold headW
   have t1 : runL zeroC (if c.tt = 0 then [] else [[TOTAL, digI c.tt]]) = some ⟨c.tt, 0, 0, 0, [], []⟩ := by
     split
     · rename_i e; rw [e]; rfl
     · obtain ⟨g1, g2⟩ := tot_line (c := zeroC) (n := c.tt) rfl (by rw [inB_iff]; omega)
       rw [runL, if_pos g1, g2]; rfl
   have t2 : runL ⟨c.tt, 0, 0, 0, [], []⟩ (if c.pe = 0 then [] else [[PERIOD, digI c.pe]]) = some ⟨c.tt, c.pe, 0, 0, [], []⟩ := by
     split
     · rename_i e; rw [e]; rfl
     · obtain ⟨g1, g2⟩ := per_line (c := ⟨c.tt, 0, 0, 0, [], []⟩) (n := c.pe) rfl (by rw [inB_iff]; omega)
       rw [runL, if_pos g1, g2]; rfl
   have t3 : runL ⟨c.tt, c.pe, 0, 0, [], []⟩ (if c.pr = 0 then [] else [[SEATS, digI c.pr, digI c.mo]]) = some ⟨c.tt, c.pe, c.pr, c.mo, [], []⟩ := by
     split
     · rename_i e; rw [e, c5.1 e]; rfl
     · rename_i e
       have : ¬ c.mo = 0 := fun h => e (c5.2 h)
       obtain ⟨g1, g2⟩ := sea_line (c := ⟨c.tt, c.pe, 0, 0, [], []⟩) (n := c.pr) (m := c.mo) rfl (by rw [inB_iff]; omega) (by rw [inB_iff]; omega)
       rw [runL, if_pos g1, g2]; rfl
   rw [runL_app, t1, Option.bind_some, runL_app, t2, Option.bind_some, t3]
 rw [cfW, runL_app, hh, Option.bind_some, runL_app, run_levels c.ls _ (by simpa using c8) (by simpa using c6), Option.bind_some, run_schemas c.ss _ (by simpa using c9) (by simpa using c7)]
 simp
end Go.Proofs.YtpmpajodihpkaaaGreatDoor
