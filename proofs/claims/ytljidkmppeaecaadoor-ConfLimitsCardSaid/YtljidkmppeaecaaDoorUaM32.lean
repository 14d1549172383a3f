/- The library of this claim and its walks, part 32, joined out of smaller texts. No statement stands in it. -/
import Derived.Test.YtljidkmppeaecaaDoorUaM31
/- conf: the line of a schema. -/
namespace Go.Proofs.YtljidkmppeaecaaDoor
open Go Go.Proofs Go.Ua Go.Extern
set_option linter.unusedVariables false
set_option linter.unusedSimpArgs false
set_option maxRecDepth 10000

theorem rdfailS_spec (tt pe pr mo : Int) (es : List Dat) (av lf : Int) (ld sd : List Dat) (n : Int) : ASpec Tryd.prog 37 [.ptr 0 0 0 9, .d (.s (.int .i64 n))] [(0, .cs 59 [.d (.s (.int .i64 tt)), .d (.s (.int .i64 pe)), .d (.s (.int .i64 pr)), .d (.s (.int .i64 mo)), .row 1 10, .row 2 5, .d (.view 1 es), .d (.s (.int .i64 av)), .d (.s (.int .i64 lf))]), (1, .ds 34 10 ld), (2, .ds 37 5 sd)] 3 (fun y h1 fr1 => y = .tup [] ∧ h1 = [(0, .cs 59 [.d (.s (.int .i64 tt)), .d (.s (.int .i64 pe)), .d (.s (.int .i64 pr)), .d (.s (.int .i64 mo)), .row 1 10, .row 2 5, .d (.view 1 es), .d (.s (.int .i64 av)), .d (.s (.int .i64 (failV lf n)))]), (1, .ds 34 10 ld), (2, .ds 37 5 sd)] ∧ fr1 = 3) := by
  refine ASpec.enterK Tryd.func37 (by kernel_rfl) rfl (Nat.le_of_ble_eq_true rfl) fun hok cx hnt hfr => ?_
  obtain ⟨F, hF⟩ := real_ex
  refine AK.runTn hF tabOK hmix hnt [] false [] trivial (Nat.le_of_eq hfr) ?_
  conv => arg 4; cbv
  repeat' (first | with_reducible (first | refine AKt.have ?_ | refine AKt.tt ?_ | refine AKt.ff ?_ | refine AKt.yes (by assumption) ?_ | refine AKt.no (by assumption) ?_ | refine AKt.node (fun hb => ?_) (fun hb => ?_) | refine AKt.need ?_ (fun hb => ?_) | refine AKt.leaf ?_) | ((with_reducible show _ = true); assumption))
  all_goals
    first | refine AKp.doneM tabOK hfr (by rfl) (by rfl) ?_ ?_ | refine AKp.endM tabOK hfr (by rfl) (by rfl) ?_ ?_
    all_goals show _ = _
    · rfl
    · simp only [hF, f_ltI, f_leI, f_eqI, f_eqS, f_eqB, f_not, f_andB, f_orB, f_lenS, f_lenD, f_hasS, f_atS, f_hasC, f_subS, f_hasCat, f_app, f_wrap, f_add, f_sub, f_mul, f_appD, f_fits, f_hasV, f_subV, decide_eq_true_eq, decide_eq_false_iff_not, beq_iff_eq, beq_eq_false_iff_ne, Bool.and_eq_true, Bool.and_eq_false_iff, Bool.not_eq_true, Bool.not_eq_false, Bool.not_eq_eq_eq_not, Bool.not_true, Bool.not_false] at *
      simp [failV, *]
def φRdFailS (u : Int → Int → Int) : Nat → List AV → List (Nat × Blk) → Option (Bool × AV × List (Nat × Blk) × Nat)
  | 3, [.ptr 0 0 0 9, .d (.s (.int .i64 n))], [(0, .cs 59 [.d (.s (.int .i64 tt)), .d (.s (.int .i64 pe)), .d (.s (.int .i64 pr)), .d (.s (.int .i64 mo)), .row 1 10, .row 2 5, .d (.view 1 es), .d (.s (.int .i64 av)), .d (.s (.int .i64 lf))]), (1, .ds 34 10 ld), (2, .ds 37 5 sd)] => some (true, .tup [], [(0, .cs 59 [.d (.s (.int .i64 tt)), .d (.s (.int .i64 pe)), .d (.s (.int .i64 pr)), .d (.s (.int .i64 mo)), .row 1 10, .row 2 5, .d (.view 1 es), .d (.s (.int .i64 av)), .d (.s (.int .i64 (u lf n)))]), (1, .ds 34 10 ld), (2, .ds 37 5 sd)], 3)
  | _, _, _ => none
theorem φRdFailS_ok : MSpOK Tryd.prog 37 (φRdFailS (failV)) := by
  intro fr xs h b x h1 fr1 h hb
  unfold φRdFailS at h
  split at h
  · simp only [Option.some.injEq, Prod.mk.injEq] at h
    obtain ⟨rfl, rfl, rfl, rfl⟩ := h
    exact rdfailS_spec _ _ _ _ _ _ _ _ _ _
  · cases h
def φRdFailB (u : Int → Int → Int) : Nat → List AV → List (Nat × Blk) → Option (Bool × AV × List (Nat × Blk) × Nat) := orM (φRdFail u) (φRdFailS u)
theorem φRdFailB_ok : MSpOK Tryd.prog 37 (φRdFailB failV) := orM_ok φRdFail_ok φRdFailS_ok

/-- What is told of the last schema, and of those ahead. -/
def xsP (sd : List Dat) (m : Nat) (nm lv : Wd) (rk bb : Int) (rd : List Dat) : Bool := isSm sd && (isRl rd && (decide (sd.length ≤ 100) && (decide (sd.length = 0) || (decide (sd.length = m + 1) && decide ((unSm sd)[m]? = some ⟨nm, lv, rk, bb, unRl rd⟩)))))
theorem xs_last {sd : List Dat} {m : Nat} {nm lv : Wd} {rk bb : Int} {rd : List Dat} (h : xsP sd m nm lv rk bb rd = true) : sd = [] ∨ sd[m]? = some (.agg [.s (.str nm), .s (.str lv), .s (.int .i64 rk), .s (.int .i64 bb), .view 5 rd]) := by
  simp only [xsP, Bool.and_eq_true, Bool.or_eq_true, decide_eq_true_eq] at h
  obtain ⟨h1, h2, h3, h4 | ⟨h4, h5⟩⟩ := h
  · exact .inl (List.length_eq_zero_iff.1 h4)
  · refine .inr ?_
    conv => lhs; rw [← sm_un h1]
    rw [smDs_get h5]
    show some (Dat.agg [.s (.str nm), .s (.str lv), .s (.int .i64 rk), .s (.int .i64 bb), .view 5 (rlDs (unRl rd))]) = _
    rw [rl_un h2]
def scRP (es sd : List Dat) (m : Nat) (nm lv : Wd) (rk bb : Int) (rd : List Dat) : Bool := isStrs es && (decide (es.length = 5) && xsP sd m nm lv rk bb rd)
def scQ (es sd : List Dat) : Int := schE ⟨0, 0, 0, 0, [], unSm sd⟩ (unStr es)
def SE1 (w : List Wd) : Int := if (nameF (wAt w 1) && nameF (wAt w 2)) = false then 4 else if numB (wAt w 3) 1 10000 = false then 8 else if byB (wAt w 4) = false then 2 else 0
def SE2 (w : List Wd) (l : List Sm) : Int := if SE1 w = 0 then (if hasM l (wAt w 1) = true then 5 else 0) else SE1 w
theorem schE_eq {w : List Wd} {l : List Sm} (hk : w.length = 5) : schE ⟨0, 0, 0, 0, [], l⟩ w = if SE2 w l = 0 then (if 32 ≤ l.length then 3 else 0) else SE2 w l := by
  unfold schE SE2 SE1
  rw [if_neg (by omega)]
  repeat' split
  all_goals first
    | rfl
    | (exfalso; simp_all; done)
    | simp_all
set_option maxHeartbeats 4000000 in
set_option cbv.maxSteps 10000000 in
set_option maxRecDepth 100000 in
theorem rdschema_spec (tt pe pr mo : Int) (es : List Dat) (ld : List Dat) (m : Nat) (sd : List Dat) (nm lv : Wd) (rk bb : Int) (rd : List Dat) (z0 z1 : Wd) (z2 z3 SE : Int) (MM : Nat) (SA : List Dat) (hMM : MM = sd.length) (hSA : SA = sd ++ [(smOf (unStr es)).dat]) (hSE : SE = scQ es sd) (hz0 : z0 = wAt (unStr es) 1) (hz1 : z1 = wAt (unStr es) 2) (hz2 : z2 = numV (wAt (unStr es) 3) 1 10000) (hz3 : z3 = byV (wAt (unStr es) 4)) (h : scRP es sd m nm lv rk bb rd = true) :
    ASpec Tryd.prog 35 [.ptr 0 0 0 9] [(0, .cs 59 [.d (.s (.int .i64 tt)), .d (.s (.int .i64 pe)), .d (.s (.int .i64 pr)), .d (.s (.int .i64 mo)), .row 1 10, .row 2 5, .d (.view 1 es), .d (.s (.int .i64 0)), .d (.s (.int .i64 0))]), (1, .ds 34 10 ld), (2, .xs 37 5 m sd [.d (.s (.str nm)), .d (.s (.str lv)), .d (.s (.int .i64 rk)), .d (.s (.int .i64 bb)), .row 3 5]), (3, .ds 40 5 rd)] 4 (fun y h1 fr1 => y = .tup [] ∧ h1 = [(0, .cs 59 [.d (.s (.int .i64 tt)), .d (.s (.int .i64 pe)), .d (.s (.int .i64 pr)), .d (.s (.int .i64 mo)), .row 1 10, .row 4 5, .d (.view 1 es), .any, .d (.s (.int .i64 SE))]), (1, .ds 34 10 ld), (4, .xs 37 5 MM SA [.d (.s (.str z0)), .d (.s (.str z1)), .d (.s (.int .i64 z2)), .d (.s (.int .i64 z3)), .row 5 5]), (5, .ds 40 5 [])] ∧ fr1 = 6) := by
  obtain ⟨uRdFailB, huRdFailB⟩ : ∃ u : Int → Int → Int, u = failV := ⟨_, rfl⟩
  obtain ⟨uRdNumber, huRdNumber⟩ : ∃ u : List Dat → Int → Bool, u = nxP := ⟨_, rfl⟩
  obtain ⟨uRdNumber1, huRdNumber1⟩ : ∃ u : List Dat → Int → Int → Int → Int, u = fun es av a b => numV (nxV es av) a b := ⟨_, rfl⟩
  obtain ⟨uRdNumber2, huRdNumber2⟩ : ∃ u : Int → Int, u = fun a => a + 1 := ⟨_, rfl⟩
  obtain ⟨uRdNumber3, huRdNumber3⟩ : ∃ u : List Dat → Int → Int → Int → Int → Int, u = rnE := ⟨_, rfl⟩
  obtain ⟨uRdName, huRdName⟩ : ∃ u : List Dat → Int → Bool, u = nxP := ⟨_, rfl⟩
  obtain ⟨uRdName1, huRdName1⟩ : ∃ u : List Dat → Int → Wd, u = nxV := ⟨_, rfl⟩
  obtain ⟨uRdName2, huRdName2⟩ : ∃ u : Int → Int, u = fun a => a + 1 := ⟨_, rfl⟩
  obtain ⟨uRdName3, huRdName3⟩ : ∃ u : List Dat → Int → Int → Int, u = rnmE := ⟨_, rfl⟩
  obtain ⟨uRdNext, huRdNext⟩ : ∃ u : List Dat → Int → Bool, u = nxP := ⟨_, rfl⟩
  obtain ⟨uRdNext1, huRdNext1⟩ : ∃ u : List Dat → Int → Wd, u = nxV := ⟨_, rfl⟩
  obtain ⟨uRdNext2, huRdNext2⟩ : ∃ u : Int → Int, u = fun a => a + 1 := ⟨_, rfl⟩
  have hG : TblOK Tryd.prog [(37, .m (φRdFailB uRdFailB)), (33, .m (φRdNumber uRdNumber uRdNumber1 uRdNumber2 uRdNumber3)), (51, .m (φRdName uRdName uRdName1 uRdName2 uRdName3)), (49, .m (φRdNext uRdNext uRdNext1 uRdNext2))] := ⟨(by rw [huRdFailB]; exact φRdFailB_ok), (by rw [huRdNumber, huRdNumber1, huRdNumber2, huRdNumber3]; exact φRdNumber_ok), (by rw [huRdName, huRdName1, huRdName2, huRdName3]; exact φRdName_ok), (by rw [huRdNext, huRdNext1, huRdNext2]; exact φRdNext_ok), trivial⟩
  simp only [scRP, Bool.and_eq_true, decide_eq_true_eq] at h
  obtain ⟨p1, p2, p3⟩ := h
  have hlast := xs_last p3
  simp only [xsP, Bool.and_eq_true, decide_eq_true_eq] at p3
  obtain ⟨p4, p5, p6, p7⟩ := p3
  obtain ⟨W, hW⟩ : ∃ z, z = unStr es := ⟨_, rfl⟩
  obtain ⟨L, hL⟩ : ∃ z, z = unSm sd := ⟨_, rfl⟩
  have hes : es = strDs W := by rw [hW, strDs_unStr p1]
  have hsd : sd = smDs L := by rw [hL, sm_un p4]
  have hel : es.length = W.length := by rw [hes, strDs_length]
  have hll : sd.length = L.length := by rw [hsd]; simp [smDs]
  rw [scQ, ← hL, ← hW, schE_eq (by omega)] at hSE
  rw [← hW] at hz0 hz1 hz2 hz3 hSA
  refine ASpec.enterK Tryd.func35 (by kernel_rfl) rfl (Nat.le_of_ble_eq_true rfl) fun hok cx hnt hfr => ?_
  obtain ⟨F, hF⟩ := real_ex
  refine exK ?K9 fun k9 hK9 => ?_
  rotate_left
  have rest9 : ∀ (x3 av lf : Int), x3 = z3 → lf = SE1 W → AK Tryd.prog cx (fin Tryd.prog Tryd.f35 cx fun y h1 fr1 => y = .tup [] ∧ h1 = [(0, .cs 59 [.d (.s (.int .i64 tt)), .d (.s (.int .i64 pe)), .d (.s (.int .i64 pr)), .d (.s (.int .i64 mo)), .row 1 10, .row 4 5, .d (.view 1 es), .any, .d (.s (.int .i64 SE))]), (1, .ds 34 10 ld), (4, .xs 37 5 MM SA [.d (.s (.str z0)), .d (.s (.str z1)), .d (.s (.int .i64 z2)), .d (.s (.int .i64 z3)), .row 5 5]), (5, .ds 40 5 [])] ∧ fr1 = 6) k9 ⟨[(0, .ptr 0 0 0 9), (2, .ptr 4 0 0 5)], [(4, .cs 37 [.d (.s (.str z0)), .d (.s (.str z1)), .d (.s (.int .i64 z2)), .d (.s (.int .i64 x3)), .d (.s .sl0)]), (0, .cs 59 [.d (.s (.int .i64 tt)), .d (.s (.int .i64 pe)), .d (.s (.int .i64 pr)), .d (.s (.int .i64 mo)), .row 1 10, .row 2 5, .d (.view 1 es), .d (.s (.int .i64 av)), .d (.s (.int .i64 lf))]), (1, .ds 34 10 ld), (2, .xs 37 5 m sd [.d (.s (.str nm)), .d (.s (.str lv)), .d (.s (.int .i64 rk)), .d (.s (.int .i64 bb)), .row 3 5]), (3, .ds 40 5 rd)], 5⟩ := ?r9
  refine AK.runTn hF tabOK hmix hnt [9] false _ hG (Nat.le_of_eq hfr) ?_
  conv => arg 4; cbv
  have nx : ∀ i : Nat, nxV es (i : Int) = wAt W (i + 1) := fun i => by
    rw [nxV, ← hW]
    rfl
  have n0 : nxV es 0 = wAt W 1 := nx 0
  have n1 : nxV es 1 = wAt W 2 := nx 1
  have n2 : nxV es 2 = wAt W 3 := nx 2
  have n3 : nxV es 3 = wAt W 4 := nx 3
  have qn : ∀ i : Nat, i + 1 < W.length → nxP es i = true := fun i hi => by
    simp only [nxP, p1, Bool.true_and, Bool.and_eq_true, decide_eq_true_eq]
    omega
  have q0 : uRdName es 0 = true := by rw [huRdName]; exact qn 0 (by omega)
  have q1 : uRdName es 1 = true := by rw [huRdName]; exact qn 1 (by omega)
  have q2 : uRdNumber es 2 = true := by rw [huRdNumber]; exact qn 2 (by omega)
  have q3 : uRdNext es 3 = true := by rw [huRdNext]; exact qn 3 (by omega)
  have a0 : uRdName2 0 = 1 := by rw [huRdName2]; rfl
  have a1 : uRdName2 1 = 2 := by rw [huRdName2]; rfl
  have a2 : uRdNumber2 2 = 3 := by rw [huRdNumber2]; rfl
  have a3 : uRdNext2 3 = 4 := by rw [huRdNext2]; rfl
  rw [a0, a1, a2, a3]
  have w0 : uRdName1 es 0 = z0 := by rw [huRdName1, n0, hz0]
  have w1 : uRdName1 es 1 = z1 := by rw [huRdName1, n1, hz1]
  have w2 : uRdNumber1 es 2 1 10000 = z2 := by rw [huRdNumber1]; show numV (nxV es 2) 1 10000 = _; rw [n2, hz2]
  obtain ⟨X4, hX4⟩ : ∃ z, z = wAt W 4 := ⟨_, rfl⟩
  have w3 : uRdNext1 es 3 = X4 := by rw [huRdNext1, n3, hX4]
  rw [w0, w1, w2, w3]
  obtain ⟨L3, hL3⟩ : ∃ z, z = uRdNumber3 es 2 (uRdName3 es 1 (uRdName3 es 0 0)) 1 10000 := ⟨_, rfl⟩
  rw [← hL3]
  have g3 : L3 = if (nameF (wAt W 1) && nameF (wAt W 2)) = false then 4 else if numB (wAt W 3) 1 10000 = false then 8 else 0 := by
    rw [hL3, huRdNumber3, huRdName3, rnE, rnmE, rnmE, n0, n1, n2]
    unfold failV
    cases nameF (wAt W 1) <;> cases nameF (wAt W 2) <;> cases numB (wAt W 3) 1 10000 <;> rfl
  rw [← hX4] at hz3
  have es_ : ∀ a : Wd, F .eqS X4 a = true → X4 = a := fun a h => by rw [hF, f_eqS] at h; exact eq_of_beq h
  have ns_ : ∀ a : Wd, F .eqS X4 a = false → ¬ X4 = a := fun a h e => by rw [hF, f_eqS, e, beq_self_eq_true] at h; cases h
  have hS : SE1 W = if L3 = 0 then (if byB X4 = false then 2 else 0) else L3 := by
    rw [SE1, g3, ← hX4]
    generalize (nameF (wAt W 1) && nameF (wAt W 2)) = b1
    generalize numB (wAt W 3) 1 10000 = b2
    generalize byB X4 = b3
    cases b1 <;> cases b2 <;> cases b3 <;> rfl
  refine AKt.need q0 fun _ => AKt.need q1 fun _ => AKt.need q2 fun _ => AKt.need q3 fun _ => ?_
  refine AKt.node (fun c1 => ?_) (fun c1 => ?_)
  · have d1 : X4 = NONE := es_ _ c1
    repeat' (first | with_reducible (first | refine AKt.have ?_ | refine AKt.tt ?_ | refine AKt.ff ?_ | refine AKt.yes (by assumption) ?_ | refine AKt.no (by assumption) ?_ | refine AKt.node (fun hb => ?_) (fun hb => ?_) | refine AKt.need ?_ (fun hb => ?_) | refine AKt.leaf ?_) | ((with_reducible show _ = true); assumption))
    refine AKp.joinN hK9 _ (by rw [hfr]; exact Nat.le_of_ble_eq_true rfl) ?_ ?_ (rest9 0 4 L3 (by rw [hz3, d1]; rfl) (by rw [hS, d1, show byB NONE = true from rfl]; simp))
    · repeat (first | exact True.intro | refine ⟨⟨rfl, rfl⟩, ?_⟩)
    · repeat (first | exact True.intro | refine ⟨⟨rfl, rfl, rfl⟩, ?_⟩)
  have d1 : ¬ X4 = NONE := ns_ _ c1
  refine AKt.node (fun c2 => ?_) (fun c2 => ?_)
  · have d2 : X4 = USER := es_ _ c2
    repeat' (first | with_reducible (first | refine AKt.have ?_ | refine AKt.tt ?_ | refine AKt.ff ?_ | refine AKt.yes (by assumption) ?_ | refine AKt.no (by assumption) ?_ | refine AKt.node (fun hb => ?_) (fun hb => ?_) | refine AKt.need ?_ (fun hb => ?_) | refine AKt.leaf ?_) | ((with_reducible show _ = true); assumption))
    refine AKp.joinN hK9 _ (by rw [hfr]; exact Nat.le_of_ble_eq_true rfl) ?_ ?_ (rest9 1 4 L3 (by rw [hz3, d2]; rfl) (by rw [hS, d2, show byB USER = true from rfl]; simp))
    · repeat (first | exact True.intro | refine ⟨⟨rfl, rfl⟩, ?_⟩)
    · repeat (first | exact True.intro | refine ⟨⟨rfl, rfl, rfl⟩, ?_⟩)
  have d2 : ¬ X4 = USER := ns_ _ c2
  refine AKt.node (fun c3 => ?_) (fun c3 => ?_)
  · have d3 : X4 = SPACE := es_ _ c3
    repeat' (first | with_reducible (first | refine AKt.have ?_ | refine AKt.tt ?_ | refine AKt.ff ?_ | refine AKt.yes (by assumption) ?_ | refine AKt.no (by assumption) ?_ | refine AKt.node (fun hb => ?_) (fun hb => ?_) | refine AKt.need ?_ (fun hb => ?_) | refine AKt.leaf ?_) | ((with_reducible show _ = true); assumption))
    refine AKp.joinN hK9 _ (by rw [hfr]; exact Nat.le_of_ble_eq_true rfl) ?_ ?_ (rest9 2 4 L3 (by rw [hz3, d3]; rfl) (by rw [hS, d3, show byB SPACE = true from rfl]; simp))
    · repeat (first | exact True.intro | refine ⟨⟨rfl, rfl⟩, ?_⟩)
    · repeat (first | exact True.intro | refine ⟨⟨rfl, rfl, rfl⟩, ?_⟩)
  · have d3 : ¬ X4 = SPACE := ns_ _ c3
    repeat' (first | with_reducible (first | refine AKt.have ?_ | refine AKt.tt ?_ | refine AKt.ff ?_ | refine AKt.yes (by assumption) ?_ | refine AKt.no (by assumption) ?_ | refine AKt.node (fun hb => ?_) (fun hb => ?_) | refine AKt.need ?_ (fun hb => ?_) | refine AKt.leaf ?_) | ((with_reducible show _ = true); assumption))
    refine AKp.joinN hK9 _ (by rw [hfr]; exact Nat.le_of_ble_eq_true rfl) ?_ ?_ (rest9 0 4 (uRdFailB L3 2) (by rw [hz3, byV, if_neg d2, if_neg d3]) (by rw [hS, huRdFailB, failV, byB]; simp [d1, d2, d3]))
    · repeat (first | exact True.intro | refine ⟨⟨rfl, rfl⟩, ?_⟩)
    · repeat (first | exact True.intro | refine ⟨⟨rfl, rfl, rfl⟩, ?_⟩)
  case' r9 =>
    intro x3 av lf hx3 hlf
    rw [hK9]
    refine AKp.freeze 3 rfl ?_
    conv => arg 4; arg 2; cbv
    refine AKp.shutG 2 rfl rfl hlast ?_
    conv => arg 4; arg 2; cbv
    refine AK.runTn hF tabOK hmix hnt [15] false _ hG (by rw [hfr]; exact Nat.le_of_ble_eq_true rfl) ?_
    conv => arg 4; cbv
    repeat' (first | with_reducible (first | refine AKt.have ?_ | refine AKt.tt ?_ | refine AKt.ff ?_ | refine AKt.yes (by assumption) ?_ | refine AKt.no (by assumption) ?_ | refine AKt.node (fun hb => ?_) (fun hb => ?_) | refine AKt.need ?_ (fun hb => ?_) | refine AKt.leaf ?_) | ((with_reducible show _ = true); assumption))
    refine AKp.enterLoop 31 ?_
    conv => arg 7; cbv
    refine AKl.invTs hF tabOK hmix hnt (Nat.le_trans (Nat.le_of_eq hfr) (Nat.le_of_ble_eq_true rfl)) [15] false _ hG (fun n vs hs => ∃ (i : Nat) (iv lf : Int), i + n = L.length ∧ iv = i ∧ lf = SE2 W (L.take i) ∧ vs = [(31, .d (.s (.int .i64 iv)))] ∧ hs = [(4, .cs 37 [.d (.s (.str z0)), .d (.s (.str z1)), .d (.s (.int .i64 z2)), .d (.s (.int .i64 x3)), .d (.s .sl0)]), (0, .cs 59 [.d (.s (.int .i64 tt)), .d (.s (.int .i64 pe)), .d (.s (.int .i64 pr)), .d (.s (.int .i64 mo)), .row 1 10, .row 2 5, .d (.view 1 es), .d (.s (.int .i64 av)), .d (.s (.int .i64 lf))]), (1, .ds 34 10 ld), (2, .ds 37 5 sd)]) L.length ⟨0, _, lf, by omega, rfl, by rw [hlf, SE2]; by_cases h : SE1 W = 0 <;> simp [h, hasM], rfl, rfl⟩ (by repeat (first | exact True.intro | refine ⟨⟨rfl, rfl⟩, ?_⟩)) (by repeat (first | exact True.intro | refine ⟨⟨rfl, rfl, rfl⟩, ?_⟩)) ?_
    rintro J n vs hs hJ ⟨i, iv, lf, hi, hiv, hlf, rfl, rfl⟩
    conv => arg 4; cbv
    refine AKt.node (fun hb => ?_) (fun hb => ?_)
    · have hlt : i < L.length := by rw [hF, f_ltI, f_lenD, hll, hiv] at hb; have := of_decide_eq_true hb; omega
      obtain ⟨x, hx⟩ : ∃ x, L[i]? = some x := ⟨_, List.getElem?_eq_getElem hlt⟩
      have htk := hasM_take (n := wAt W 1) hx
      obtain ⟨y0, y1, y2, y3, y4⟩ := x
      obtain ⟨q4, hq4⟩ : ∃ z, z = rlDs y4 := ⟨_, rfl⟩
      have hin : F .inL sd iv = some i := by
        rw [hF]
        show (if 0 ≤ iv ∧ iv < (sd.length : Int) then some iv.toNat else none) = some i
        rw [if_pos (by omega), hiv, Int.toNat_natCast]
      have hpd : sd[i]? = some (.agg [.s (.str y0), .s (.str y1), .s (.int .i64 y2), .s (.int .i64 y3), .view 5 q4]) := by rw [hsd, smDs, List.getElem?_map, hx, hq4]; rfl
      conv at hpd => lhs; cbv
      refine AKt.leaf ?_
      refine AKp.stepO hF tabOK hnt rfl ?_
      conv => arg 5; cbv
      rw [hin]
      conv => arg 5; cbv
      refine .some ?_
      refine AK.runTn hF tabOK hmix hnt [] false _ hG (by rw [hfr]; exact Nat.le_of_ble_eq_true rfl) ?_
      conv => arg 4; cbv
      rw [hpd]
      conv => arg 4; cbv
      refine AKt.node (fun c1 => ?_) (fun c1 => ?_)
      · have d1 : y0 = wAt W 1 := by rw [hF, f_eqS] at c1; rw [← hz0]; exact eq_of_beq c1
        repeat' (first | with_reducible (first | refine AKt.have ?_ | refine AKt.tt ?_ | refine AKt.ff ?_ | refine AKt.yes (by assumption) ?_ | refine AKt.no (by assumption) ?_ | refine AKt.node (fun hb => ?_) (fun hb => ?_) | refine AKt.need ?_ (fun hb => ?_) | refine AKt.leaf ?_) | ((with_reducible show _ = true); assumption))
        refine AKp.againL _ (by rw [hfr]; exact Nat.le_of_ble_eq_true rfl) (by repeat (first | exact True.intro | refine ⟨⟨rfl, rfl⟩, ?_⟩)) (by repeat (first | exact True.intro | refine ⟨⟨rfl, rfl, rfl⟩, ?_⟩)) (hJ (n - 1) _ _ (by omega) ⟨i + 1, _, uRdFailB lf 5, by omega, inc_i hF hiv (by omega), ?_, rfl, rfl⟩)
        rw [huRdFailB, hlf, SE2, SE2, htk, d1]
        unfold failV
        by_cases h1 : SE1 W = 0 <;> cases hasM (L.take i) (wAt W 1) <;> simp [h1]
      · have d1 : ¬ y0 = wAt W 1 := by rw [hF, f_eqS] at c1; rw [← hz0]; intro h; rw [h, beq_self_eq_true] at c1; cases c1
        repeat' (first | with_reducible (first | refine AKt.have ?_ | refine AKt.tt ?_ | refine AKt.ff ?_ | refine AKt.yes (by assumption) ?_ | refine AKt.no (by assumption) ?_ | refine AKt.node (fun hb => ?_) (fun hb => ?_) | refine AKt.need ?_ (fun hb => ?_) | refine AKt.leaf ?_) | ((with_reducible show _ = true); assumption))
        refine AKp.againL _ (by rw [hfr]; exact Nat.le_of_ble_eq_true rfl) (by repeat (first | exact True.intro | refine ⟨⟨rfl, rfl⟩, ?_⟩)) (by repeat (first | exact True.intro | refine ⟨⟨rfl, rfl, rfl⟩, ?_⟩)) (hJ (n - 1) _ _ (by omega) ⟨i + 1, _, lf, by omega, inc_i hF hiv (by omega), ?_, rfl, rfl⟩)
        rw [hlf, SE2, SE2, htk]
        simp [d1]
    · have hge : ¬ i < L.length := by rw [hF, f_ltI, f_lenD, hll, hiv] at hb; have := of_decide_eq_false hb; omega
      rw [List.take_of_length_le (show L.length ≤ i by omega)] at hlf
      have ap : ∀ a b, F .appD a b = a ++ b := fun a b => by rw [hF]; rfl
      repeat' (first | with_reducible (first | refine AKt.have ?_ | refine AKt.tt ?_ | refine AKt.ff ?_ | refine AKt.yes (by assumption) ?_ | refine AKt.no (by assumption) ?_ | refine AKt.node (fun hb => ?_) (fun hb => ?_) | refine AKt.need ?_ (fun hb => ?_) | refine AKt.leaf ?_) | ((with_reducible show _ = true); assumption))
      refine AK.runTn hF tabOK hmix hnt [17] false _ hG (by rw [hfr]; exact Nat.le_of_ble_eq_true rfl) ?_
      conv => arg 4; cbv
      refine AKt.node (fun c2 => ?g1) (fun c2 => ?g2)
      case' g1 =>
        have d2 : 32 ≤ L.length := by rw [hF, f_leI, f_lenD, hll] at c2; have := of_decide_eq_true c2; omega
        have hle : uRdFailB lf 3 = SE := by
          rw [huRdFailB, hSE, hlf, if_pos d2]
          unfold failV
          split <;> rfl
        rw [hle]
        refine AKt.need rfl fun _ => AKt.leaf ?_
      case' g2 =>
        have d2 : ¬ 32 ≤ L.length := by rw [hF, f_leI, f_lenD, hll] at c2; have := of_decide_eq_false c2; omega
        have hle : lf = SE := by
          rw [hSE, hlf, if_neg d2]
          split
          · assumption
          · rfl
        rw [hle]
        refine AKt.leaf ?_
      all_goals
        refine AKp.runD2 hF tabOK hmix hnt false _ hG (Nat.le_trans (Nat.le_of_eq hfr) (Nat.le_of_ble_eq_true rfl)) ?_
        conv => arg 4; cbv
        rw [ap, hx3]
        obtain ⟨S2, hS2⟩ : ∃ z, z = sd ++ [Dat.agg [.s (.str z0), .s (.str z1), .s (.int .i64 z2), .s (.int .i64 z3), .s .sl0]] := ⟨_, rfl⟩
        have hl2 : S2.length = sd.length + 1 := by rw [hS2]; simp
        rw [← hS2]
        have hfit : F .fits 72 S2 = true := t_fits hF (by omega)
        refine AKt.need hfit fun _ => ?_
        refine AKt.leaf ?_
        refine AKp.unshut 5 MM SA rfl (by rw [hl2, hMM]) (ds := [.s (.str z0), .s (.str z1), .s (.int .i64 z2), .s (.int .i64 z3), .s .sl0]) (by rw [hS2, hMM]; simp) (by rw [hSA, hl2]; simp) (fun i hi => by rw [hSA, hS2, List.getElem?_append_left (by omega), List.getElem?_append_left (by omega)]) ?_
        conv => arg 4; arg 2; cbv
        refine AKp.asRowX 5 4 40 5 (by decide) rfl rfl (Nat.le_of_ble_eq_true rfl) ?_
        conv => arg 4; arg 2; cbv
        refine AKp.dim 0 7 rfl ?_
        conv => arg 4; arg 2; cbv
        first | refine AKp.doneI tabOK [0, 1, 2, 3, 5, 6] hfr (by rfl) (by rfl) (by rfl) rfl rfl rfl ?_ ?_ | refine AKp.endI tabOK [0, 1, 2, 3, 5, 6] hfr (by rfl) (by rfl) (by rfl) rfl rfl rfl ?_ ?_
        all_goals show _ = _
        · rfl
        · rfl
def φRdSchema (p : List Dat → List Dat → Nat → Wd → Wd → Int → Int → List Dat → Bool) (u : List Dat → List Dat → Int) (mm : List Dat → Nat) (sa : List Dat → List Dat → List Dat) (u0 u1 : List Dat → Wd) (u2 u3 : List Dat → Int) : Nat → List AV → List (Nat × Blk) → Option (Bool × AV × List (Nat × Blk) × Nat)
  | 4, [.ptr 0 0 0 9], [(0, .cs 59 [.d (.s (.int .i64 tt)), .d (.s (.int .i64 pe)), .d (.s (.int .i64 pr)), .d (.s (.int .i64 mo)), .row 1 10, .row 2 5, .d (.view 1 es), .d (.s (.int .i64 0)), .d (.s (.int .i64 0))]), (1, .ds 34 10 ld), (2, .xs 37 5 m sd [.d (.s (.str nm)), .d (.s (.str lv)), .d (.s (.int .i64 rk)), .d (.s (.int .i64 bb)), .row 3 5]), (3, .ds 40 5 rd)] => some (p es sd m nm lv rk bb rd, .tup [], [(0, .cs 59 [.d (.s (.int .i64 tt)), .d (.s (.int .i64 pe)), .d (.s (.int .i64 pr)), .d (.s (.int .i64 mo)), .row 1 10, .row 4 5, .d (.view 1 es), .any, .d (.s (.int .i64 (u es sd)))]), (1, .ds 34 10 ld), (4, .xs 37 5 (mm sd) (sa es sd) [.d (.s (.str (u0 es))), .d (.s (.str (u1 es))), .d (.s (.int .i64 (u2 es))), .d (.s (.int .i64 (u3 es))), .row 5 5]), (5, .ds 40 5 [])], 6)
  | _, _, _ => none
theorem φRdSchema_ok : MSpOK Tryd.prog 35 (φRdSchema (scRP) (scQ) (fun sd => sd.length) (fun es sd => sd ++ [(smOf (unStr es)).dat]) (fun es => wAt (unStr es) 1) (fun es => wAt (unStr es) 2) (fun es => numV (wAt (unStr es) 3) 1 10000) (fun es => byV (wAt (unStr es) 4))) := by
  intro fr xs h b x h1 fr1 h hb
  unfold φRdSchema at h
  split at h
  · simp only [Option.some.injEq, Prod.mk.injEq] at h
    obtain ⟨rfl, rfl, rfl, rfl⟩ := h
    exact rdschema_spec _ _ _ _ _ _ _ _ _ _ _ _ _ _ _ _ _ _ _ _ rfl rfl rfl rfl rfl rfl rfl hb
  · cases h
end Go.Proofs.YtljidkmppeaecaaDoor

/- conf: the line of a rule. -/
namespace Go.Proofs.YtljidkmppeaecaaDoor
open Go Go.Proofs Go.Ua Go.Extern
set_option linter.unusedVariables false
set_option linter.unusedSimpArgs false
set_option maxRecDepth 10000

def rcP2 (es sd : List Dat) (m : Nat) (nm lv : Wd) (rk bb : Int) (rd : List Dat) : Bool := isStrs es && (decide (es.length = 6) && (decide (0 < sd.length) && (decide (rd.length ≤ 100) && xsP sd m nm lv rk bb rd)))
def rcQ (es rd : List Dat) : Int := if lisB (unStr es) = false then 2 else if 8 ≤ rd.length then 3 else 0
def rcD (es rd : List Dat) : List Dat := rd ++ [(rlOf (unStr es)).dat]
def rcS (es sd : List Dat) (m : Nat) (nm lv : Wd) (rk bb : Int) (rd : List Dat) : List Dat := sd.take m ++ [.agg [.s (.str nm), .s (.str lv), .s (.int .i64 rk), .s (.int .i64 bb), .view 5 (rcD es rd)]]
def stf (x : Int) (b : Bool) : Int := if x = 0 then (if b = true then 0 else 2) else x
theorem stf_stf (x : Int) (b c : Bool) : stf (stf x b) c = stf x (b && c) := by
  unfold stf
  by_cases h : x = 0 <;> cases b <;> cases c <;> simp [h]
theorem rl_stf (es : List Dat) (av lf : Int) : rlE es av lf = stf lf (listB (nxV es av)) := by
  unfold rlE stf failV
  cases listB (nxV es av) <;> by_cases h : lf = 0 <;> simp [h]
set_option maxHeartbeats 4000000 in
set_option cbv.maxSteps 10000000 in
set_option maxRecDepth 100000 in
theorem rdrule_spec (tt pe pr mo : Int) (es : List Dat) (ld : List Dat) (m : Nat) (sd : List Dat) (nm lv : Wd) (rk bb : Int) (rd : List Dat) (RE : Int) (SA RD : List Dat) (hRE : RE = rcQ es rd) (hRD : RD = rcD es rd) (hSA : SA = rcS es sd m nm lv rk bb rd) (h : rcP2 es sd m nm lv rk bb rd = true) :
    ASpec Tryd.prog 36 [.ptr 0 0 0 9] [(0, .cs 59 [.d (.s (.int .i64 tt)), .d (.s (.int .i64 pe)), .d (.s (.int .i64 pr)), .d (.s (.int .i64 mo)), .row 1 10, .row 2 5, .d (.view 1 es), .d (.s (.int .i64 0)), .d (.s (.int .i64 0))]), (1, .ds 34 10 ld), (2, .xs 37 5 m sd [.d (.s (.str nm)), .d (.s (.str lv)), .d (.s (.int .i64 rk)), .d (.s (.int .i64 bb)), .row 3 5]), (3, .ds 40 5 rd)] 4 (fun y h1 fr1 => y = .tup [] ∧ h1 = [(0, .cs 59 [.d (.s (.int .i64 tt)), .d (.s (.int .i64 pe)), .d (.s (.int .i64 pr)), .d (.s (.int .i64 mo)), .row 1 10, .row 2 5, .d (.view 1 es), .any, .d (.s (.int .i64 RE))]), (1, .ds 34 10 ld), (2, .xs 37 5 m SA [.d (.s (.str nm)), .d (.s (.str lv)), .d (.s (.int .i64 rk)), .d (.s (.int .i64 bb)), .row 4 5]), (4, .ds 40 5 RD)] ∧ fr1 = 5) := by
  obtain ⟨uRdFail, huRdFail⟩ : ∃ u : Int → Int → Int, u = failV := ⟨_, rfl⟩
  obtain ⟨uRdList, huRdList⟩ : ∃ u : List Dat → Int → Bool, u = nxP := ⟨_, rfl⟩
  obtain ⟨uRdList1, huRdList1⟩ : ∃ u : List Dat → Int → List Dat, u = fun es av => listV (nxV es av) := ⟨_, rfl⟩
  obtain ⟨uRdList2, huRdList2⟩ : ∃ u : Int → Int, u = fun a => a + 1 := ⟨_, rfl⟩
  obtain ⟨uRdList3, huRdList3⟩ : ∃ u : List Dat → Int → Int → Int, u = rlE := ⟨_, rfl⟩
  have hG : TblOK Tryd.prog [(37, .m (φRdFail uRdFail)), (53, .m (φRdList uRdList uRdList1 uRdList2 uRdList3))] := ⟨(by rw [huRdFail]; exact φRdFail_ok), (by rw [huRdList, huRdList1, huRdList2, huRdList3]; exact φRdList_ok), trivial⟩
  simp only [rcP2, Bool.and_eq_true, decide_eq_true_eq] at h
  obtain ⟨p1, p2, p3, p8, p9⟩ := h
  simp only [xsP, Bool.and_eq_true, decide_eq_true_eq, Bool.or_eq_true] at p9
  obtain ⟨p4, p5, p6, p7⟩ := p9
  have hsm : sd.length = m + 1 := by
    rcases p7 with g | g
    · omega
    · exact g.1
  obtain ⟨W, hW⟩ : ∃ z, z = unStr es := ⟨_, rfl⟩
  have hes : es = strDs W := by rw [hW, strDs_unStr p1]
  have hel : es.length = W.length := by rw [hes, strDs_length]
  rw [rcQ, ← hW] at hRE
  rw [rcD, ← hW] at hRD
  refine ASpec.enterK Tryd.func36 (by kernel_rfl) rfl (Nat.le_of_ble_eq_true rfl) fun hok cx hnt hfr => ?_
  obtain ⟨F, hF⟩ := real_ex
  refine AK.runTn hF tabOK hmix hnt [] false _ hG (Nat.le_of_eq hfr) ?_
  conv => arg 4; cbv
  have nx : ∀ i : Nat, nxV es (i : Int) = wAt W (i + 1) := fun i => by
    rw [nxV, ← hW]
    rfl
  have n0 : nxV es 0 = wAt W 1 := nx 0
  have n1 : nxV es 1 = wAt W 2 := nx 1
  have n2 : nxV es 2 = wAt W 3 := nx 2
  have n3 : nxV es 3 = wAt W 4 := nx 3
  have n4 : nxV es 4 = wAt W 5 := nx 4
  have qn : ∀ i : Nat, i + 1 < W.length → uRdList es i = true := fun i hi => by
    rw [huRdList]
    simp only [nxP, p1, Bool.true_and, Bool.and_eq_true, decide_eq_true_eq]
    omega
  have q0 : uRdList es 0 = true := qn 0 (by omega)
  have q1 : uRdList es 1 = true := qn 1 (by omega)
  have q2 : uRdList es 2 = true := qn 2 (by omega)
  have q3 : uRdList es 3 = true := qn 3 (by omega)
  have q4 : uRdList es 4 = true := qn 4 (by omega)
  have a0 : uRdList2 0 = 1 := by rw [huRdList2]; rfl
  have a1 : uRdList2 1 = 2 := by rw [huRdList2]; rfl
  have a2 : uRdList2 2 = 3 := by rw [huRdList2]; rfl
  have a3 : uRdList2 3 = 4 := by rw [huRdList2]; rfl
  have a4 : uRdList2 4 = 5 := by rw [huRdList2]; rfl
  rw [a0, a1, a2, a3, a4]
  obtain ⟨v0, hv0⟩ : ∃ z, z = uRdList1 es 0 := ⟨_, rfl⟩
  obtain ⟨v1, hv1⟩ : ∃ z, z = uRdList1 es 1 := ⟨_, rfl⟩
  obtain ⟨v2, hv2⟩ : ∃ z, z = uRdList1 es 2 := ⟨_, rfl⟩
  obtain ⟨v3, hv3⟩ : ∃ z, z = uRdList1 es 3 := ⟨_, rfl⟩
  obtain ⟨v4, hv4⟩ : ∃ z, z = uRdList1 es 4 := ⟨_, rfl⟩
  rw [← hv0, ← hv1, ← hv2, ← hv3, ← hv4]
  rw [huRdList1] at hv0 hv1 hv2 hv3 hv4
  simp only [n0, n1, n2, n3, n4] at hv0 hv1 hv2 hv3 hv4
  obtain ⟨L5, hL5⟩ : ∃ z, z = uRdList3 es 4 (uRdList3 es 3 (uRdList3 es 2 (uRdList3 es 1 (uRdList3 es 0 0)))) := ⟨_, rfl⟩
  rw [← hL5]
  have g5 : L5 = if lisB W = false then 2 else 0 := by
    rw [hL5, huRdList3, rl_stf, rl_stf, rl_stf, rl_stf, rl_stf, n0, n1, n2, n3, n4, stf_stf, stf_stf, stf_stf, stf_stf, lisB, stf]
    generalize (listB (wAt W 1) && (listB (wAt W 2) && (listB (wAt W 3) && (listB (wAt W 4) && listB (wAt W 5))))) = b
    cases b <;> rfl
  have hbq : Nat.beq m m = true := Nat.beq_refl m
  conv at hbq => lhs; cbv
  have hin : F .inL sd (F .wrap .i64 (F .sub (F .lenD sd) 1)) = some m := by
    have e : F .wrap .i64 (F .sub (F .lenD sd) 1) = (m : Int) := by
      rw [hF]
      show IntKind.i64.wrap ((sd.length : Int) - 1) = _
      rw [w_i64 (by omega) (by omega)]
      omega
    rw [e, hF]
    show (if 0 ≤ (m : Int) ∧ (m : Int) < (sd.length : Int) then some ((m : Int)).toNat else none) = some m
    rw [if_pos (by omega), Int.toNat_natCast]
  refine AKt.need q0 fun _ => AKt.need q1 fun _ => AKt.need q2 fun _ => AKt.need q3 fun _ => AKt.need q4 fun _ => ?_
  refine AKt.leaf ?_
  refine AKp.stepO hF tabOK hnt rfl ?_
  conv => arg 5; cbv
  rw [hin]
  conv => arg 5; cbv
  refine .some ?_
  refine AK.runTn hF tabOK hmix hnt [] false _ hG (by rw [hfr]; exact Nat.le_of_ble_eq_true rfl) ?_
  conv => arg 4; cbv
  rw [hbq]
  conv => arg 4; cbv
  repeat
    rw [hbq]
    conv => arg 4; cbv
  have ap : ∀ a b, F .appD a b = a ++ b := fun a b => by rw [hF]; rfl
  have hRD2 : rd ++ [.agg [.view 1 v0, .view 1 v1, .view 1 v2, .view 1 v3, .view 1 v4]] = RD := by
    rw [hRD, hv0, hv1, hv2, hv3, hv4]
    rfl
  refine AKt.node (fun c2 => ?g1) (fun c2 => ?g2)
  case' g1 =>
    have d2 : 8 ≤ rd.length := by rw [hF, f_leI, f_lenD] at c2; have := of_decide_eq_true c2; omega
    have hle : uRdFail L5 3 = RE := by
      rw [huRdFail, hRE, g5, if_pos d2]
      cases lisB W <;> rfl
    rw [hle]
    refine AKt.need rfl fun _ => AKt.leaf ?_
  case' g2 =>
    have d2 : ¬ 8 ≤ rd.length := by rw [hF, f_leI, f_lenD] at c2; have := of_decide_eq_false c2; omega
    have hle : L5 = RE := by
      rw [hRE, g5, if_neg d2]
    rw [hle]
    refine AKt.leaf ?_
  all_goals
    refine AKp.runD2 hF tabOK hmix hnt false _ hG (Nat.le_trans (Nat.le_of_eq hfr) (Nat.le_of_ble_eq_true rfl)) ?_
    conv => arg 4; cbv
    repeat
      rw [hbq]
      conv => arg 4; cbv
    rw [ap, hRD2]
    have hfit : F .fits 120 RD = true := t_fits hF (by rw [← hRD2, List.length_append]; simp only [List.length_singleton]; omega)
    refine AKt.need hfit fun _ => ?_
    refine AKt.leaf ?_
    have hSl : (sd.take m).length = m := by rw [List.length_take]; omega
    refine AKp.reX 2 SA rfl (by rw [hSA, rcS, List.length_append, hSl, hsm]; rfl) (fun i hi => by rw [hSA, rcS, List.getElem?_append_left (by omega), List.getElem?_take, if_pos hi]) ?_
    conv => arg 4; arg 2; cbv
    refine AKp.dim 0 7 rfl ?_
    conv => arg 4; arg 2; cbv
    first | refine AKp.doneI tabOK [0, 1, 2, 3, 5] hfr (by rfl) (by rfl) (by rfl) rfl rfl rfl ?_ ?_ | refine AKp.endI tabOK [0, 1, 2, 3, 5] hfr (by rfl) (by rfl) (by rfl) rfl rfl rfl ?_ ?_
    all_goals show _ = _
    · rfl
    · rfl
def φRdRule (p : List Dat → List Dat → Nat → Wd → Wd → Int → Int → List Dat → Bool) (u : List Dat → List Dat → Int) (sa : List Dat → List Dat → Nat → Wd → Wd → Int → Int → List Dat → List Dat) (d : List Dat → List Dat → List Dat) : Nat → List AV → List (Nat × Blk) → Option (Bool × AV × List (Nat × Blk) × Nat)
  | 4, [.ptr 0 0 0 9], [(0, .cs 59 [.d (.s (.int .i64 tt)), .d (.s (.int .i64 pe)), .d (.s (.int .i64 pr)), .d (.s (.int .i64 mo)), .row 1 10, .row 2 5, .d (.view 1 es), .d (.s (.int .i64 0)), .d (.s (.int .i64 0))]), (1, .ds 34 10 ld), (2, .xs 37 5 m sd [.d (.s (.str nm)), .d (.s (.str lv)), .d (.s (.int .i64 rk)), .d (.s (.int .i64 bb)), .row 3 5]), (3, .ds 40 5 rd)] => some (p es sd m nm lv rk bb rd, .tup [], [(0, .cs 59 [.d (.s (.int .i64 tt)), .d (.s (.int .i64 pe)), .d (.s (.int .i64 pr)), .d (.s (.int .i64 mo)), .row 1 10, .row 2 5, .d (.view 1 es), .any, .d (.s (.int .i64 (u es rd)))]), (1, .ds 34 10 ld), (2, .xs 37 5 m (sa es sd m nm lv rk bb rd) [.d (.s (.str nm)), .d (.s (.str lv)), .d (.s (.int .i64 rk)), .d (.s (.int .i64 bb)), .row 4 5]), (4, .ds 40 5 (d es rd))], 5)
  | _, _, _ => none
theorem φRdRule_ok : MSpOK Tryd.prog 36 (φRdRule (rcP2) (rcQ) (rcS) (rcD)) := by
  intro fr xs h b x h1 fr1 h hb
  unfold φRdRule at h
  split at h
  · simp only [Option.some.injEq, Prod.mk.injEq] at h
    obtain ⟨rfl, rfl, rfl, rfl⟩ := h
    exact rdrule_spec _ _ _ _ _ _ _ _ _ _ _ _ _ _ _ _ rfl rfl rfl hb
  · cases h
end Go.Proofs.YtljidkmppeaecaaDoor

