/- The library of this claim and its walks, part 35, joined out of smaller texts. No statement stands in it. -/
import Derived.Test.YtljidkmppeaecaaDoorUaM25
import Derived.Test.YtljidkmppeaecaaDoorUaM34
/- conf: what a line makes of the reader is what the document says. -/
namespace Go.Proofs.YtljidkmppeaecaaDoor
open Go Go.Proofs Go.Ua Go.Extern
set_option linter.unusedVariables false
set_option linter.unusedSimpArgs false

def mkO (c : Cf) (m : Nat) (nm lv : Wd) (rk bb : Int) (rd : List Dat) : RdO := ⟨c.tt, c.pe, c.pr, c.mo, lvDs c.ls, m, smDs c.ss, nm, lv, rk, bb, rd, 0⟩
structure OK (c : Cf) (m : Nat) (nm lv : Wd) (rk bb : Int) (rd : List Dat) : Prop where
  x : xsP (smDs c.ss) m nm lv rk bb rd = true
  l : c.ls.length ≤ 16
  s : c.ss.length ≤ 32
  r : rd.length ≤ 8
/-- What the reader holds tells a configuration. -/
structure Holds (o : RdO) (c : Cf) : Prop where
  tt : o.tt = c.tt
  pe : o.pe = c.pe
  pr : o.pr = c.pr
  mo : o.mo = c.mo
  ld : o.ld = lvDs c.ls
  sd : o.sd = smDs c.ss
  ok : OK c o.m o.nm o.lv o.rk o.bb o.rd

theorem lvDs_snoc (l : List Lv) (x : Lv) : lvDs (l ++ [x]) = lvDs l ++ [x.dat] := by simp [lvDs]
theorem smDs_snoc (l : List Sm) (x : Sm) : smDs (l ++ [x]) = smDs l ++ [x.dat] := by simp [smDs]
theorem lev_lt {c : Cf} {w : List Wd} (h : levE c w = 0) : kindL w ≠ 0 ∧ c.ls.length < 16 := by
  unfold levE at h
  split at h
  · cases h
  · rename_i hk
    refine ⟨hk, ?_⟩
    repeat' split at h
    all_goals first
      | (cases h; done)
      | omega
theorem sch_lt {c : Cf} {w : List Wd} (h : schE c w = 0) : c.ss.length < 32 := by
  unfold schE at h
  repeat' split at h
  all_goals first
    | (cases h; done)
    | omega
/-- The last schema. -/
theorem xs_get {c : Cf} {m : Nat} {nm lv : Wd} {rk bb : Int} {rd : List Dat} (h : xsP (smDs c.ss) m nm lv rk bb rd = true) (h0 : 0 < c.ss.length) : c.ss.length = m + 1 ∧ c.ss[m]? = some ⟨nm, lv, rk, bb, unRl rd⟩ ∧ rlDs (unRl rd) = rd := by
  simp only [xsP, Bool.and_eq_true, Bool.or_eq_true, decide_eq_true_eq, un_sm, smDs_len] at h
  obtain ⟨h1, h2, h3, h4 | ⟨h4, h5⟩⟩ := h
  · omega
  · exact ⟨h4, h5, rl_un h2⟩
theorem last_of {l : List Sm} {m : Nat} {x : Sm} (h : l.length = m + 1) (hx : l[m]? = some x) : l.getLastD zeroS = x ∧ l.dropLast = l.take m := by
  have hne : l ≠ [] := fun e => by rw [e] at h; cases h
  refine ⟨?_, ?_⟩
  · rw [List.getLastD_eq_getLast?, List.getLast?_eq_getElem?, h]
    show (l[m]?).getD zeroS = x
    rw [hx]
    rfl
  · rw [List.dropLast_eq_take, h]
    rfl
theorem xs_snoc {c : Cf} {x : Sm} (hx : x.rl = []) (h : c.ss.length ≤ 32) : xsP (smDs c.ss ++ [x.dat]) (smDs c.ss).length x.nm x.lv x.rk x.bb [] = true := by
  have e : smDs c.ss ++ [x.dat] = smDs (c.ss ++ [x]) := (smDs_snoc _ _).symm
  rw [e]
  have : unRl [] = x.rl := by rw [hx]; rfl
  obtain ⟨a, b, d, f, g⟩ := x
  simp only [xsP, is_sm, un_sm, smDs_len, List.length_append, List.length_singleton, Bool.true_and, Bool.and_eq_true, Bool.or_eq_true, decide_eq_true_eq]
  refine ⟨rfl, by omega, .inr ⟨trivial, ?_⟩⟩
  rw [List.getElem?_append_right (Nat.le_refl _), Nat.sub_self, this]
  rfl
set_option maxHeartbeats 2000000 in
theorem rdO_ok {c : Cf} {es : List Dat} {m : Nat} {nm lv : Wd} {rk bb : Int} {rd : List Dat} (h : OK c m nm lv rk bb rd) :
    (rdO es (mkO c m nm lv rk bb rd)).e = linE c (unStr es) ∧ (linE c (unStr es) = 0 → Holds (rdO es (mkO c m nm lv rk bb rd)) (linA c (unStr es))) := by
  obtain ⟨hx, hl, hs, hr⟩ := h
  obtain ⟨W, hW⟩ : ∃ z, z = unStr es := ⟨_, rfl⟩
  have n0 : nxV es 0 = wAt W 1 := by rw [hW]; rfl
  have n1 : nxV es 1 = wAt W 2 := by rw [hW]; rfl
  unfold rdO mkO
  rw [← hW]
  simp only [n0, n1, smDs_len]
  have kk : lineK W c.ss.length = lineK W c.ss.length := rfl
  conv at kk => rhs; rw [lineK]
  by_cases f1 : wAt W 0 = TOTAL
  · have eL : linE c W = totE c W := by rw [linE, if_pos f1]
    have eA : linA c W = { c with tt := numV (wAt W 1) 1 4096 } := by rw [linA, if_pos f1]
    by_cases g1 : W.length = 2
    · rw [if_pos ⟨f1, g1⟩] at kk
      rw [kk, eL, eA]
      have e : onE c.tt (rnE es 0 0 1 4096) = totE c W := by
        rw [totE, if_neg (by omega), rnE, n0, onE]
        unfold failV
        cases numB (wAt W 1) 1 4096 <;> by_cases h : c.tt = 0 <;> simp [h]
      refine ⟨e, fun h0 => ⟨?_, rfl, rfl, rfl, rfl, rfl, hx, hl, hs, hr⟩⟩
      show onV c.tt _ _ = _
      rw [onV, e, if_pos h0]
    · have e : linE c W = 2 := by rw [eL, totE, if_pos g1]
      have k0 : lineK W c.ss.length = 0 := by
        rw [lineK, if_neg (fun h => g1 h.2), if_neg (fun h => by rw [f1] at h; exact absurd h.1 (by decide)), if_neg (fun h => by rw [f1] at h; exact absurd h.1 (by decide)), if_neg (fun h => by rw [f1] at h; exact absurd h (by decide)), if_neg (fun h => by rw [f1] at h; exact absurd h.1 (by decide)), if_neg (fun h => by rw [f1] at h; exact absurd h.1 (by decide))]
      rw [k0, e]
      exact ⟨rfl, fun h => by cases h⟩
  by_cases f2 : wAt W 0 = PERIOD
  · have eL : linE c W = perE c W := by rw [linE, if_neg f1, if_pos f2]
    have eA : linA c W = { c with pe := numV (wAt W 1) 1 1000 } := by rw [linA, if_neg f1, if_pos f2]
    by_cases g1 : W.length = 2
    · rw [if_neg (fun h => f1 h.1), if_pos ⟨f2, g1⟩] at kk
      rw [kk, eL, eA]
      have e : onE c.pe (rnE es 0 0 1 1000) = perE c W := by
        rw [perE, if_neg (by omega), rnE, n0, onE]
        unfold failV
        cases numB (wAt W 1) 1 1000 <;> by_cases h : c.pe = 0 <;> simp [h]
      refine ⟨e, fun h0 => ⟨rfl, ?_, rfl, rfl, rfl, rfl, hx, hl, hs, hr⟩⟩
      show onV c.pe _ _ = _
      rw [onV, e, if_pos h0]
    · have e : linE c W = 2 := by rw [eL, perE, if_pos g1]
      have k0 : lineK W c.ss.length = 0 := by
        rw [lineK, if_neg (fun h => f1 h.1), if_neg (fun h => g1 h.2), if_neg (fun h => by rw [f2] at h; exact absurd h.1 (by decide)), if_neg (fun h => by rw [f2] at h; exact absurd h (by decide)), if_neg (fun h => by rw [f2] at h; exact absurd h.1 (by decide)), if_neg (fun h => by rw [f2] at h; exact absurd h.1 (by decide))]
      rw [k0, e]
      exact ⟨rfl, fun h => by cases h⟩
  by_cases f3 : wAt W 0 = SEATS
  · have eL : linE c W = seaE c W := by rw [linE, if_neg f1, if_neg f2, if_pos f3]
    have eA : linA c W = { c with pr := numV (wAt W 1) 1 1048576, mo := numV (wAt W 2) 1 16 } := by rw [linA, if_neg f1, if_neg f2, if_pos f3]
    by_cases g1 : W.length = 3
    · rw [if_neg (fun h => f1 h.1), if_neg (fun h => f2 h.1), if_pos ⟨f3, g1⟩] at kk
      rw [kk, eL, eA]
      have e : onE c.pr (rnE es 1 (rnE es 0 0 1 1048576) 1 16) = seaE c W := by
        rw [seaE, if_neg (by omega), rnE, rnE, n0, n1, onE]
        unfold failV
        cases numB (wAt W 1) 1 1048576 <;> cases numB (wAt W 2) 1 16 <;> by_cases h : c.pr = 0 <;> simp [h]
      refine ⟨e, fun h0 => ⟨rfl, rfl, ?_, ?_, rfl, rfl, hx, hl, hs, hr⟩⟩
      · show onV c.pr _ _ = _
        rw [onV, e, if_pos h0]
      · show (if _ = 0 then _ else _) = _
        rw [e, if_pos h0]
    · have e : linE c W = 2 := by rw [eL, seaE, if_pos g1]
      have k0 : lineK W c.ss.length = 0 := by
        rw [lineK, if_neg (fun h => f1 h.1), if_neg (fun h => f2 h.1), if_neg (fun h => g1 h.2), if_neg (fun h => by rw [f3] at h; exact absurd h (by decide)), if_neg (fun h => by rw [f3] at h; exact absurd h.1 (by decide)), if_neg (fun h => by rw [f3] at h; exact absurd h.1 (by decide))]
      rw [k0, e]
      exact ⟨rfl, fun h => by cases h⟩
  by_cases f4 : wAt W 0 = LEVEL
  · have eL : linE c W = levE c W := by rw [linE, if_neg f1, if_neg f2, if_neg f3, if_pos f4]
    have eA : linA c W = { c with ls := c.ls ++ [lvOf W] } := by rw [linA, if_neg f1, if_neg f2, if_neg f3, if_pos f4]
    rw [if_neg (fun h => f1 h.1), if_neg (fun h => f2 h.1), if_neg (fun h => f3 h.1), if_pos f4] at kk
    rw [kk, eL, eA]
    have e : lvQ es (lvDs c.ls) = levE c W := by rw [lvQ, un_lv, ← hW]; rfl
    refine ⟨e, fun h0 => ?_⟩
    obtain ⟨g1, g2⟩ := lev_lt h0
    refine ⟨rfl, rfl, rfl, rfl, ?_, rfl, hx, ?_, hs, hr⟩
    · show lvA W (lvDs c.ls) = lvDs (c.ls ++ [lvOf W])
      rw [lvA, if_neg g1, lvDs_snoc]
    · show (c.ls ++ [lvOf W]).length ≤ 16
      rw [List.length_append]
      simp only [List.length_singleton]
      omega
  by_cases f5 : wAt W 0 = SCHEMA
  · have eL : linE c W = schE c W := by rw [linE, if_neg f1, if_neg f2, if_neg f3, if_neg f4, if_pos f5]
    have eA : linA c W = { c with ss := c.ss ++ [smOf W] } := by rw [linA, if_neg f1, if_neg f2, if_neg f3, if_neg f4, if_pos f5]
    by_cases g1 : W.length = 5
    · rw [if_neg (fun h => f1 h.1), if_neg (fun h => f2 h.1), if_neg (fun h => f3 h.1), if_neg f4, if_pos ⟨f5, g1⟩] at kk
      rw [kk, eL, eA]
      have e : scQ es (smDs c.ss) = schE c W := by rw [scQ, un_sm, ← hW]; rfl
      refine ⟨e, fun h0 => ?_⟩
      have g2 := sch_lt h0
      refine ⟨rfl, rfl, rfl, rfl, rfl, (smDs_snoc _ _).symm, ?_, hl, ?_, Nat.zero_le _⟩
      · show xsP (smDs (c.ss ++ [smOf W])) (c.ss.length) _ _ _ _ [] = true
        rw [smDs_snoc, ← smDs_len c.ss]
        exact xs_snoc (x := smOf W) rfl hs
      · show (c.ss ++ [smOf W]).length ≤ 32
        rw [List.length_append]
        simp only [List.length_singleton]
        omega
    · have e : linE c W = 2 := by rw [eL, schE, if_pos g1]
      have k0 : lineK W c.ss.length = 0 := by
        rw [lineK, if_neg (fun h => f1 h.1), if_neg (fun h => f2 h.1), if_neg (fun h => f3 h.1), if_neg f4, if_neg (fun h => g1 h.2), if_neg (fun h => by rw [f5] at h; exact absurd h.1 (by decide))]
      rw [k0, e]
      exact ⟨rfl, fun h => by cases h⟩
  by_cases f6 : wAt W 0 = RULE
  · have eL : linE c W = rulE c W := by rw [linE, if_neg f1, if_neg f2, if_neg f3, if_neg f4, if_neg f5, if_pos f6]
    have eA : linA c W = { c with ss := addR c.ss (rlOf W) } := by rw [linA, if_neg f1, if_neg f2, if_neg f3, if_neg f4, if_neg f5]
    by_cases g1 : W.length = 6 ∧ 0 < c.ss.length
    · rw [if_neg (fun h => f1 h.1), if_neg (fun h => f2 h.1), if_neg (fun h => f3 h.1), if_neg f4, if_neg (fun h => f5 h.1), if_pos ⟨f6, g1.1, g1.2⟩] at kk
      rw [kk, eL, eA]
      obtain ⟨q1, q2, q3⟩ := xs_get hx g1.2
      obtain ⟨q4, q5⟩ := last_of q1 q2
      have hrl : (lastR c).length = rd.length := by
        rw [lastR, q4]
        show (unRl rd).length = rd.length
        simp [unRl]
      have hne : ¬ (W.length ≠ 6 ∨ c.ss = []) := by
        rintro (h | h)
        · exact h g1.1
        · rw [h] at g1; exact absurd g1.2 (by decide)
      have e : rcQ es rd = rulE c W := by rw [rcQ, rulE, if_neg hne, hrl, ← hW]
      refine ⟨e, fun h0 => ?_⟩
      rw [← e, rcQ] at h0
      have hlt : rd.length < 8 := by
        split at h0
        · cases h0
        · split at h0
          · cases h0
          · omega
      have eS : addR c.ss (rlOf W) = c.ss.take m ++ [⟨nm, lv, rk, bb, unRl rd ++ [rlOf W]⟩] := by rw [addR, q4, q5]
      have eR : rcD es rd = rlDs (unRl rd ++ [rlOf W]) := by
        rw [rcD, ← hW]
        conv => lhs; rw [← q3]
        simp [rlDs]
      have eD : rcS es (smDs c.ss) m nm lv rk bb rd = smDs (addR c.ss (rlOf W)) := by
        rw [rcS, eR, eS, smDs_snoc]
        have e1 : (smDs c.ss).take m = smDs (c.ss.take m) := by simp [smDs, List.map_take]
        rw [e1]
        rfl
      have eN : (addR c.ss (rlOf W)).length = c.ss.length := by
        rw [eS, List.length_append, List.length_take]
        simp only [List.length_singleton]
        omega
      refine ⟨rfl, rfl, rfl, rfl, rfl, eD, ?_, hl, by show (addR c.ss (rlOf W)).length ≤ 32; omega, ?_⟩
      · show xsP (smDs (addR c.ss (rlOf W))) m nm lv rk bb (rcD es rd) = true
        rw [eR]
        simp only [xsP, is_sm, un_sm, smDs_len, un_rl, Bool.true_and, Bool.and_eq_true, Bool.or_eq_true, decide_eq_true_eq]
        refine ⟨is_rl _, by omega, .inr ⟨by omega, ?_⟩⟩
        rw [eS, List.getElem?_append_right (by rw [List.length_take]; omega), List.length_take, show m - min m c.ss.length = 0 by omega]
        rfl
      · show (rcD es rd).length ≤ 8
        rw [rcD, List.length_append]
        simp only [List.length_singleton]
        omega
    · have hne : W.length ≠ 6 ∨ c.ss = [] := by
        by_cases h : W.length = 6
        · right
          have : ¬ 0 < c.ss.length := fun h2 => g1 ⟨h, h2⟩
          exact List.length_eq_zero_iff.1 (by omega)
        · exact .inl h
      have e : linE c W = 2 := by rw [eL, rulE, if_pos hne]
      have k0 : lineK W c.ss.length = 0 := by
        rw [lineK, if_neg (fun h => f1 h.1), if_neg (fun h => f2 h.1), if_neg (fun h => f3 h.1), if_neg f4, if_neg (fun h => f5 h.1), if_neg (fun h => g1 h.2)]
      rw [k0, e]
      exact ⟨rfl, fun h => by cases h⟩
  · have e : linE c W = 2 := by rw [linE, if_neg f1, if_neg f2, if_neg f3, if_neg f4, if_neg f5, if_neg f6]
    have k0 : lineK W c.ss.length = 0 := by
      rw [lineK, if_neg (fun h => f1 h.1), if_neg (fun h => f2 h.1), if_neg (fun h => f3 h.1), if_neg f4, if_neg (fun h => f5 h.1), if_neg (fun h => f6 h.1)]
    rw [k0, e]
    exact ⟨rfl, fun h => by cases h⟩
end Go.Proofs.YtljidkmppeaecaaDoor

/- conf.Parse: its helpers; what it comes to. -/
namespace Go.Proofs.YtljidkmppeaecaaDoor
open Go Go.Proofs Go.Ua Go.Extern
set_option linter.unusedVariables false
set_option linter.unusedSimpArgs false
set_option maxRecDepth 10000

def hpF (s p : List UInt8) : Bool := decide (p.length ≤ s.length) && decide (s.take p.length = p)
theorem lHasPrefix_spec (s p : List UInt8) : ESpec Tryd.prog 31 [.d (.s (.str s)), .d (.s (.str p))] (fun x => x = .d (.s (.bool (hpF s p)))) := by
  obtain ⟨Z, hZ⟩ : ∃ z, z = hpF s p := ⟨_, rfl⟩
  rw [← hZ]
  refine ESpec.enter Tryd.func31 (by kernel_rfl) rfl (Nat.le_of_ble_eq_true rfl) fun hok cx hnt hfr => ?_
  obtain ⟨F, hF⟩ := real_ex
  refine AK.runT hF tabOK hmix hnt hfr true [] trivial ?_
  conv => arg 4; cbv
  have hl : F .leI (F .lenS p) (F .lenS s) = decide (p.length ≤ s.length) := by
    rw [hF, f_leI, f_lenS, f_lenS]
    by_cases h : p.length ≤ s.length
    · rw [decide_eq_true h]; exact decide_eq_true (by omega)
    · rw [decide_eq_false h]; exact decide_eq_false (by omega)
  have hs : F .subS s 0 (F .lenS p) = s.take p.length := t_subS hF (i := 0) (j := p.length) rfl (by rw [hF]; rfl)
  rw [hl, hs]
  by_cases h : p.length ≤ s.length
  · have hc : F .hasC s 0 (F .lenS p) = true := t_hasC hF (i := 0) (j := p.length) rfl (by rw [hF]; rfl) (Nat.zero_le _) h
    rw [decide_eq_true h]
    repeat' (first | with_reducible (first | refine AKt.have ?_ | refine AKt.tt ?_ | refine AKt.ff ?_ | refine AKt.yes (by assumption) ?_ | refine AKt.no (by assumption) ?_ | refine AKt.node (fun hb => ?_) (fun hb => ?_) | refine AKt.need ?_ (fun hb => ?_) | refine AKt.leaf ?_) | ((with_reducible show _ = true); assumption))
    refine AKp.doneE tabOK hfr (by rfl) ?_
    show _ = _
    simp only [tupAV]
    rw [hZ, hpF, decide_eq_true h, hF, f_eqS, Bool.true_and]
    by_cases g : s.take p.length = p
    · rw [g, decide_eq_true rfl]; simp
    · rw [decide_eq_false g]; simpa using g
  · rw [decide_eq_false h]
    repeat' (first | with_reducible (first | refine AKt.have ?_ | refine AKt.tt ?_ | refine AKt.ff ?_ | refine AKt.yes (by assumption) ?_ | refine AKt.no (by assumption) ?_ | refine AKt.node (fun hb => ?_) (fun hb => ?_) | refine AKt.need ?_ (fun hb => ?_) | refine AKt.leaf ?_) | ((with_reducible show _ = true); assumption))
    refine AKp.doneE tabOK hfr (by rfl) ?_
    show _ = _
    simp only [tupAV]
    rw [hZ, hpF, decide_eq_false h]
    rfl
def φLHasPrefix (u : List UInt8 → List UInt8 → Bool) : List AV → Option (Bool × AV)
  | [.d (.s (.str s)), .d (.s (.str p))] => some (true, .d (.s (.bool (u s p))))
  | _ => none
theorem φLHasPrefix_ok : SpOK Tryd.prog 31 (φLHasPrefix (hpF)) := by
  intro xs b x h hb
  unfold φLHasPrefix at h
  split at h
  · simp only [Option.some.injEq, Prod.mk.injEq] at h
    obtain ⟨rfl, rfl⟩ := h
    exact lHasPrefix_spec _ _
  · cases h
theorem HasPrefix_spec (s p : List UInt8) : ESpec Tryd.prog 20 [.d (.s (.str s)), .d (.s (.str p))] (fun x => x = .d (.s (.bool (hpF s p)))) := by
  obtain ⟨uLHasPrefix, huLHasPrefix⟩ : ∃ u : List UInt8 → List UInt8 → Bool, u = hpF := ⟨_, rfl⟩
  have hG : TblOK Tryd.prog [(31, .p (φLHasPrefix uLHasPrefix))] := ⟨(by rw [huLHasPrefix]; exact φLHasPrefix_ok), trivial⟩
  refine ESpec.enter Tryd.func20 (by kernel_rfl) rfl (Nat.le_of_ble_eq_true rfl) fun hok cx hnt hfr => ?_
  obtain ⟨F, hF⟩ := real_ex
  refine AK.runT hF tabOK hmix hnt hfr true _ hG ?_
  conv => arg 4; cbv
  repeat' (first | with_reducible (first | refine AKt.have ?_ | refine AKt.tt ?_ | refine AKt.ff ?_ | refine AKt.yes (by assumption) ?_ | refine AKt.no (by assumption) ?_ | refine AKt.node (fun hb => ?_) (fun hb => ?_) | refine AKt.need ?_ (fun hb => ?_) | refine AKt.leaf ?_) | ((with_reducible show _ = true); assumption))
  refine AKp.doneE tabOK hfr (by rfl) ?_
  show _ = _
  simp only [tupAV]
  rw [huLHasPrefix]
def φHasPrefix (u : List UInt8 → List UInt8 → Bool) : List AV → Option (Bool × AV)
  | [.d (.s (.str s)), .d (.s (.str p))] => some (true, .d (.s (.bool (u s p))))
  | _ => none
theorem φHasPrefix_ok : SpOK Tryd.prog 20 (φHasPrefix (hpF)) := by
  intro xs b x h hb
  unfold φHasPrefix at h
  split at h
  · simp only [Option.some.injEq, Prod.mk.injEq] at h
    obtain ⟨rfl, rfl⟩ := h
    exact HasPrefix_spec _ _
  · cases h

theorem faultAt_spec (n c : Int) : ESpec Tryd.prog 17 [.d (.s (.int .i64 n)), .d (.iface 45 (.s (.int .i64 c)))] (fun x => x = .d (.iface 68 (.agg [.s (.int .i64 n), .s (.str []), .iface 45 (.s (.int .i64 c))]))) := by
  refine ESpec.enter Tryd.func17 (by kernel_rfl) rfl (Nat.le_of_ble_eq_true rfl) fun hok cx hnt hfr => ?_
  obtain ⟨F, hF⟩ := real_ex
  refine AK.runT hF tabOK hmix hnt hfr true [] trivial ?_
  conv => arg 4; cbv
  repeat' (first | with_reducible (first | refine AKt.have ?_ | refine AKt.tt ?_ | refine AKt.ff ?_ | refine AKt.yes (by assumption) ?_ | refine AKt.no (by assumption) ?_ | refine AKt.node (fun hb => ?_) (fun hb => ?_) | refine AKt.need ?_ (fun hb => ?_) | refine AKt.leaf ?_) | ((with_reducible show _ = true); assumption))
  refine AKp.doneE tabOK hfr (by rfl) ?_
  show _ = _
  simp only [tupAV]
def φFAt  : List AV → Option (Bool × AV)
  | [.d (.s (.int .i64 n)), .d (.iface 45 (.s (.int .i64 c)))] => some (true, .d (.iface 68 (.agg [.s (.int .i64 n), .s (.str []), .iface 45 (.s (.int .i64 c))])))
  | _ => none
theorem φFAt_ok : SpOK Tryd.prog 17 (φFAt ) := by
  intro xs b x h hb
  unfold φFAt at h
  split at h
  · simp only [Option.some.injEq, Prod.mk.injEq] at h
    obtain ⟨rfl, rfl⟩ := h
    exact faultAt_spec _ _
  · cases h

/-- A line that says nothing. -/
def skipB (w : List Wd) : Bool := decide (w.length = 0) || hpF (wAt w 0) [35]
/-- Line by line. -/
def parL : Cf → List Wd → Nat → Cf × (Int × Int)
  | c, [], _ => (c, 0, 0)
  | c, x :: r, i => if skipB (wordsF x) = true then parL c r (i + 1) else if linE c (wordsF x) = 0 then parL (linA c (wordsF x)) r (i + 1) else (zeroC, linE c (wordsF x), ((i + 1 : Nat) : Int))
def parF (s : Wd) : Cf × (Int × Int) := if 65536 < s.length then (zeroC, 3, 0) else parL zeroC (linesF s) 0
/-- The error that tells a code, at a line. -/
def errD (e n : Int) : Dat := if e = 0 then .s .if0 else .iface 68 (.agg [.s (.int .i64 n), .s (.str []), .iface 45 (.s (.int .i64 e))])
end Go.Proofs.YtljidkmppeaecaaDoor

