/- The library of this claim and its walks, part 34, joined out of smaller texts. No statement stands in it. -/
import Derived.Test.YtljidkmppeaecaaDoorUaM32
import Derived.Test.YtljidkmppeaecaaDoorUaM33
/- conf: a line. -/
namespace Go.Proofs.YtljidkmppeaecaaDoor
open Go Go.Proofs Go.Ua Go.Extern
set_option linter.unusedVariables false
set_option linter.unusedSimpArgs false
set_option maxRecDepth 10000

/-- What the reader holds. -/
structure RdO where
  tt : Int
  pe : Int
  pr : Int
  mo : Int
  ld : List Dat
  m : Nat
  sd : List Dat
  nm : Wd
  lv : Wd
  rk : Int
  bb : Int
  rd : List Dat
  e : Int
def lineK (w : List Wd) (n : Nat) : Nat :=
  if wAt w 0 = TOTAL ∧ w.length = 2 then 1 else if wAt w 0 = PERIOD ∧ w.length = 2 then 2 else if wAt w 0 = SEATS ∧ w.length = 3 then 3
  else if wAt w 0 = LEVEL then 4 else if wAt w 0 = SCHEMA ∧ w.length = 5 then 5 else if wAt w 0 = RULE ∧ w.length = 6 ∧ 0 < n then 6 else 0
def rdO (es : List Dat) (o : RdO) : RdO := match lineK (unStr es) o.sd.length with
  | 1 => { o with tt := onV o.tt (rnE es 0 0 1 4096) (numV (nxV es 0) 1 4096), e := onE o.tt (rnE es 0 0 1 4096) }
  | 2 => { o with pe := onV o.pe (rnE es 0 0 1 1000) (numV (nxV es 0) 1 1000), e := onE o.pe (rnE es 0 0 1 1000) }
  | 3 => { o with pr := onV o.pr (rnE es 1 (rnE es 0 0 1 1048576) 1 16) (numV (nxV es 0) 1 1048576), mo := (if onE o.pr (rnE es 1 (rnE es 0 0 1 1048576) 1 16) = 0 then numV (nxV es 1) 1 16 else o.mo), e := onE o.pr (rnE es 1 (rnE es 0 0 1 1048576) 1 16) }
  | 4 => { o with ld := lvA (unStr es) o.ld, e := lvQ es o.ld }
  | 5 => ⟨o.tt, o.pe, o.pr, o.mo, o.ld, o.sd.length, o.sd ++ [(smOf (unStr es)).dat], wAt (unStr es) 1, wAt (unStr es) 2, numV (wAt (unStr es) 3) 1 10000, byV (wAt (unStr es) 4), [], scQ es o.sd⟩
  | 6 => { o with sd := rcS es o.sd o.m o.nm o.lv o.rk o.bb o.rd, rd := rcD es o.rd, e := rcQ es o.rd }
  | _ => { o with e := 2 }
def lnRP (es ld sd : List Dat) (m : Nat) (nm lv : Wd) (rk bb : Int) (rd : List Dat) : Bool := isStrs es && (decide (0 < es.length) && (decide (es.length ≤ 1000000) && (isLv ld && (decide (ld.length ≤ 100) && (decide (rd.length ≤ 100) && xsP sd m nm lv rk bb rd)))))
set_option maxHeartbeats 8000000 in
set_option cbv.maxSteps 10000000 in
set_option maxRecDepth 100000 in
theorem rdline_spec (tt pe pr mo : Int) (es : List Dat) (ld : List Dat) (m : Nat) (sd : List Dat) (nm lv : Wd) (rk bb : Int) (rd : List Dat) (T1 P1 R1 M1 LE : Int) (LA : List Dat) (MM : Nat) (SA : List Dat) (N1 V1 : Wd) (K1 B1 : Int) (RD : List Dat) (ho : (⟨T1, P1, R1, M1, LA, MM, SA, N1, V1, K1, B1, RD, LE⟩ : RdO) = rdO es ⟨tt, pe, pr, mo, ld, m, sd, nm, lv, rk, bb, rd, 0⟩) (h : lnRP es ld sd m nm lv rk bb rd = true) :
    ASpec Tryd.prog 21 [.ptr 0 0 0 9] [(0, .cs 59 [.d (.s (.int .i64 tt)), .d (.s (.int .i64 pe)), .d (.s (.int .i64 pr)), .d (.s (.int .i64 mo)), .row 1 10, .row 2 5, .d (.view 1 es), .d (.s (.int .i64 0)), .d (.s (.int .i64 0))]), (1, .ds 34 10 ld), (2, .xs 37 5 m sd [.d (.s (.str nm)), .d (.s (.str lv)), .d (.s (.int .i64 rk)), .d (.s (.int .i64 bb)), .row 3 5]), (3, .ds 40 5 rd)] 4 (fun y h1 fr1 => y = .tup [] ∧ h1 = [(0, .cs 59 [.d (.s (.int .i64 T1)), .d (.s (.int .i64 P1)), .d (.s (.int .i64 R1)), .d (.s (.int .i64 M1)), .row 4 10, .row 5 5, .d (.view 1 es), .any, .d (.s (.int .i64 LE))]), (4, .ds 34 10 LA), (5, .xs 37 5 MM SA [.d (.s (.str N1)), .d (.s (.str V1)), .d (.s (.int .i64 K1)), .d (.s (.int .i64 B1)), .row 6 5]), (6, .ds 40 5 RD)] ∧ fr1 = 7) := by
  obtain ⟨uRdFail, huRdFail⟩ : ∃ u : Int → Int → Int, u = failV := ⟨_, rfl⟩
  obtain ⟨uRdNumber, huRdNumber⟩ : ∃ u : List Dat → Int → Bool, u = nxP := ⟨_, rfl⟩
  obtain ⟨uRdNumber1, huRdNumber1⟩ : ∃ u : List Dat → Int → Int → Int → Int, u = fun es av a b => numV (nxV es av) a b := ⟨_, rfl⟩
  obtain ⟨uRdNumber2, huRdNumber2⟩ : ∃ u : Int → Int, u = fun a => a + 1 := ⟨_, rfl⟩
  obtain ⟨uRdNumber3, huRdNumber3⟩ : ∃ u : List Dat → Int → Int → Int → Int → Int, u = rnE := ⟨_, rfl⟩
  obtain ⟨uRdOnce, huRdOnce⟩ : ∃ u : Int → Int → Int, u = onE := ⟨_, rfl⟩
  obtain ⟨uRdOnce1, huRdOnce1⟩ : ∃ u : Int → Int → Int → Int, u = onV := ⟨_, rfl⟩
  obtain ⟨uRdLevel, huRdLevel⟩ : ∃ u : List Dat → List Dat → Bool, u = lvP := ⟨_, rfl⟩
  obtain ⟨uRdLevel1, huRdLevel1⟩ : ∃ u : List Dat → List Dat → Int, u = lvQ := ⟨_, rfl⟩
  obtain ⟨uRdLevel2, huRdLevel2⟩ : ∃ u : List Dat → List Dat → List Dat, u = fun es ld => lvA (unStr es) ld := ⟨_, rfl⟩
  obtain ⟨uRdSchema, huRdSchema⟩ : ∃ u : List Dat → List Dat → Nat → Wd → Wd → Int → Int → List Dat → Bool, u = scRP := ⟨_, rfl⟩
  obtain ⟨uRdSchema1, huRdSchema1⟩ : ∃ u : List Dat → List Dat → Int, u = scQ := ⟨_, rfl⟩
  obtain ⟨uRdSchema2, huRdSchema2⟩ : ∃ u : List Dat → Nat, u = fun sd => sd.length := ⟨_, rfl⟩
  obtain ⟨uRdSchema3, huRdSchema3⟩ : ∃ u : List Dat → List Dat → List Dat, u = fun es sd => sd ++ [(smOf (unStr es)).dat] := ⟨_, rfl⟩
  obtain ⟨uRdSchema4, huRdSchema4⟩ : ∃ u : List Dat → Wd, u = fun es => wAt (unStr es) 1 := ⟨_, rfl⟩
  obtain ⟨uRdSchema5, huRdSchema5⟩ : ∃ u : List Dat → Wd, u = fun es => wAt (unStr es) 2 := ⟨_, rfl⟩
  obtain ⟨uRdSchema6, huRdSchema6⟩ : ∃ u : List Dat → Int, u = fun es => numV (wAt (unStr es) 3) 1 10000 := ⟨_, rfl⟩
  obtain ⟨uRdSchema7, huRdSchema7⟩ : ∃ u : List Dat → Int, u = fun es => byV (wAt (unStr es) 4) := ⟨_, rfl⟩
  obtain ⟨uRdRule, huRdRule⟩ : ∃ u : List Dat → List Dat → Nat → Wd → Wd → Int → Int → List Dat → Bool, u = rcP2 := ⟨_, rfl⟩
  obtain ⟨uRdRule1, huRdRule1⟩ : ∃ u : List Dat → List Dat → Int, u = rcQ := ⟨_, rfl⟩
  obtain ⟨uRdRule2, huRdRule2⟩ : ∃ u : List Dat → List Dat → Nat → Wd → Wd → Int → Int → List Dat → List Dat, u = rcS := ⟨_, rfl⟩
  obtain ⟨uRdRule3, huRdRule3⟩ : ∃ u : List Dat → List Dat → List Dat, u = rcD := ⟨_, rfl⟩
  have hG : TblOK Tryd.prog [(37, .m (φRdFail uRdFail)), (33, .m (φRdNumber uRdNumber uRdNumber1 uRdNumber2 uRdNumber3)), (32, .m (φRdOnce uRdOnce uRdOnce1)), (34, .m (φRdLevel uRdLevel uRdLevel1 uRdLevel2)), (35, .m (φRdSchema uRdSchema uRdSchema1 uRdSchema2 uRdSchema3 uRdSchema4 uRdSchema5 uRdSchema6 uRdSchema7)), (36, .m (φRdRule uRdRule uRdRule1 uRdRule2 uRdRule3))] := ⟨(by rw [huRdFail]; exact φRdFail_ok), (by rw [huRdNumber, huRdNumber1, huRdNumber2, huRdNumber3]; exact φRdNumber_ok), (by rw [huRdOnce, huRdOnce1]; exact φRdOnce_ok), (by rw [huRdLevel, huRdLevel1, huRdLevel2]; exact φRdLevel_ok), (by rw [huRdSchema, huRdSchema1, huRdSchema2, huRdSchema3, huRdSchema4, huRdSchema5, huRdSchema6, huRdSchema7]; exact φRdSchema_ok), (by rw [huRdRule, huRdRule1, huRdRule2, huRdRule3]; exact φRdRule_ok), trivial⟩
  simp only [lnRP, Bool.and_eq_true, decide_eq_true_eq] at h
  obtain ⟨p1, p2, p3, p4, p5, p6, p7⟩ := h
  have p7' := p7
  simp only [xsP, Bool.and_eq_true, decide_eq_true_eq] at p7'
  obtain ⟨p8, p9, p10, p11⟩ := p7'
  obtain ⟨W, hW⟩ : ∃ z, z = unStr es := ⟨_, rfl⟩
  have hes : es = strDs W := by rw [hW, strDs_unStr p1]
  have hel : es.length = W.length := by rw [hes, strDs_length]
  unfold rdO at ho
  rw [← hW] at ho
  refine ASpec.enterK Tryd.func21 (by kernel_rfl) rfl (Nat.le_of_ble_eq_true rfl) fun hok cx hnt hfr => ?_
  obtain ⟨F, hF⟩ := real_ex
  obtain ⟨nn, hnn⟩ : ∃ z, z = F .lenD es := ⟨_, rfl⟩
  have hn2 : nn = (W.length : Int) := by rw [hnn, hF, f_lenD, hel]
  obtain ⟨w0, hw0⟩ : ∃ z, z = wAt W 0 := ⟨_, rfl⟩
  have s0 : F .strA es 0 0 = w0 := by rw [hes, hw0]; exact t_strG hF W 0
  have k0 : F .hasD es 0 [.str] = true := by rw [hes]; exact t_hasG hF (n := 0) (by omega)
  have es_ : ∀ a : Wd, F .eqS w0 a = true → wAt W 0 = a := fun a h => by rw [hF, f_eqS] at h; rw [← hw0]; exact eq_of_beq h
  have ns_ : ∀ a : Wd, F .eqS w0 a = false → ¬ wAt W 0 = a := fun a h e => by rw [hF, f_eqS, hw0, e, beq_self_eq_true] at h; cases h
  have en_ : ∀ a : Nat, F .eqI nn (a : Int) = true → W.length = a := fun a h => by rw [hF, f_eqI, hn2] at h; have := of_decide_eq_true h; omega
  have nn_ : ∀ a : Nat, F .eqI nn (a : Int) = false → ¬ W.length = a := fun a h => by rw [hF, f_eqI, hn2] at h; have := of_decide_eq_false h; omega
  have qn : ∀ i : Nat, i + 1 < W.length → nxP es i = true := fun i hi => by
    simp only [nxP, p1, Bool.true_and, Bool.and_eq_true, decide_eq_true_eq]
    omega
  have ep : ∀ (a b : Nat), a = b → (a : Int) = b := fun a b h => by rw [h]
  refine exK ?K16 fun k16 hK16 => ?_
  rotate_left
  have rest16 : ¬ (wAt W 0 = TOTAL ∧ W.length = 2) → ¬ (wAt W 0 = PERIOD ∧ W.length = 2) → ¬ (wAt W 0 = SEATS ∧ W.length = 3) → ¬ wAt W 0 = LEVEL → ¬ (wAt W 0 = SCHEMA ∧ W.length = 5) → AK Tryd.prog cx (fin Tryd.prog Tryd.f21 cx fun y h1 fr1 => y = .tup [] ∧ h1 = [(0, .cs 59 [.d (.s (.int .i64 T1)), .d (.s (.int .i64 P1)), .d (.s (.int .i64 R1)), .d (.s (.int .i64 M1)), .row 4 10, .row 5 5, .d (.view 1 es), .any, .d (.s (.int .i64 LE))]), (4, .ds 34 10 LA), (5, .xs 37 5 MM SA [.d (.s (.str N1)), .d (.s (.str V1)), .d (.s (.int .i64 K1)), .d (.s (.int .i64 B1)), .row 6 5]), (6, .ds 40 5 RD)] ∧ fr1 = 7) k16 ⟨[(0, .ptr 0 0 0 9), (2, .d (.s (.int .i64 nn)))], [(0, .cs 59 [.d (.s (.int .i64 tt)), .d (.s (.int .i64 pe)), .d (.s (.int .i64 pr)), .d (.s (.int .i64 mo)), .row 1 10, .row 2 5, .d (.view 1 es), .d (.s (.int .i64 0)), .d (.s (.int .i64 0))]), (1, .ds 34 10 ld), (2, .xs 37 5 m sd [.d (.s (.str nm)), .d (.s (.str lv)), .d (.s (.int .i64 rk)), .d (.s (.int .i64 bb)), .row 3 5]), (3, .ds 40 5 rd)], 4⟩ := ?r16
  refine exK ?K14 fun k14 hK14 => ?_
  rotate_left
  have rest14 : ¬ (wAt W 0 = TOTAL ∧ W.length = 2) → ¬ (wAt W 0 = PERIOD ∧ W.length = 2) → ¬ (wAt W 0 = SEATS ∧ W.length = 3) → ¬ wAt W 0 = LEVEL → AK Tryd.prog cx (fin Tryd.prog Tryd.f21 cx fun y h1 fr1 => y = .tup [] ∧ h1 = [(0, .cs 59 [.d (.s (.int .i64 T1)), .d (.s (.int .i64 P1)), .d (.s (.int .i64 R1)), .d (.s (.int .i64 M1)), .row 4 10, .row 5 5, .d (.view 1 es), .any, .d (.s (.int .i64 LE))]), (4, .ds 34 10 LA), (5, .xs 37 5 MM SA [.d (.s (.str N1)), .d (.s (.str V1)), .d (.s (.int .i64 K1)), .d (.s (.int .i64 B1)), .row 6 5]), (6, .ds 40 5 RD)] ∧ fr1 = 7) k14 ⟨[(0, .ptr 0 0 0 9), (2, .d (.s (.int .i64 nn)))], [(0, .cs 59 [.d (.s (.int .i64 tt)), .d (.s (.int .i64 pe)), .d (.s (.int .i64 pr)), .d (.s (.int .i64 mo)), .row 1 10, .row 2 5, .d (.view 1 es), .d (.s (.int .i64 0)), .d (.s (.int .i64 0))]), (1, .ds 34 10 ld), (2, .xs 37 5 m sd [.d (.s (.str nm)), .d (.s (.str lv)), .d (.s (.int .i64 rk)), .d (.s (.int .i64 bb)), .row 3 5]), (3, .ds 40 5 rd)], 4⟩ := ?r14
  refine exK ?K12 fun k12 hK12 => ?_
  rotate_left
  have rest12 : ¬ (wAt W 0 = TOTAL ∧ W.length = 2) → ¬ (wAt W 0 = PERIOD ∧ W.length = 2) → ¬ (wAt W 0 = SEATS ∧ W.length = 3) → AK Tryd.prog cx (fin Tryd.prog Tryd.f21 cx fun y h1 fr1 => y = .tup [] ∧ h1 = [(0, .cs 59 [.d (.s (.int .i64 T1)), .d (.s (.int .i64 P1)), .d (.s (.int .i64 R1)), .d (.s (.int .i64 M1)), .row 4 10, .row 5 5, .d (.view 1 es), .any, .d (.s (.int .i64 LE))]), (4, .ds 34 10 LA), (5, .xs 37 5 MM SA [.d (.s (.str N1)), .d (.s (.str V1)), .d (.s (.int .i64 K1)), .d (.s (.int .i64 B1)), .row 6 5]), (6, .ds 40 5 RD)] ∧ fr1 = 7) k12 ⟨[(0, .ptr 0 0 0 9), (2, .d (.s (.int .i64 nn)))], [(0, .cs 59 [.d (.s (.int .i64 tt)), .d (.s (.int .i64 pe)), .d (.s (.int .i64 pr)), .d (.s (.int .i64 mo)), .row 1 10, .row 2 5, .d (.view 1 es), .d (.s (.int .i64 0)), .d (.s (.int .i64 0))]), (1, .ds 34 10 ld), (2, .xs 37 5 m sd [.d (.s (.str nm)), .d (.s (.str lv)), .d (.s (.int .i64 rk)), .d (.s (.int .i64 bb)), .row 3 5]), (3, .ds 40 5 rd)], 4⟩ := ?r12
  refine exK ?K6 fun k6 hK6 => ?_
  rotate_left
  have rest6 : ¬ (wAt W 0 = TOTAL ∧ W.length = 2) → ¬ (wAt W 0 = PERIOD ∧ W.length = 2) → AK Tryd.prog cx (fin Tryd.prog Tryd.f21 cx fun y h1 fr1 => y = .tup [] ∧ h1 = [(0, .cs 59 [.d (.s (.int .i64 T1)), .d (.s (.int .i64 P1)), .d (.s (.int .i64 R1)), .d (.s (.int .i64 M1)), .row 4 10, .row 5 5, .d (.view 1 es), .any, .d (.s (.int .i64 LE))]), (4, .ds 34 10 LA), (5, .xs 37 5 MM SA [.d (.s (.str N1)), .d (.s (.str V1)), .d (.s (.int .i64 K1)), .d (.s (.int .i64 B1)), .row 6 5]), (6, .ds 40 5 RD)] ∧ fr1 = 7) k6 ⟨[(0, .ptr 0 0 0 9), (2, .d (.s (.int .i64 nn)))], [(0, .cs 59 [.d (.s (.int .i64 tt)), .d (.s (.int .i64 pe)), .d (.s (.int .i64 pr)), .d (.s (.int .i64 mo)), .row 1 10, .row 2 5, .d (.view 1 es), .d (.s (.int .i64 0)), .d (.s (.int .i64 0))]), (1, .ds 34 10 ld), (2, .xs 37 5 m sd [.d (.s (.str nm)), .d (.s (.str lv)), .d (.s (.int .i64 rk)), .d (.s (.int .i64 bb)), .row 3 5]), (3, .ds 40 5 rd)], 4⟩ := ?r6
  refine exK ?K4 fun k4 hK4 => ?_
  rotate_left
  have rest4 : ¬ (wAt W 0 = TOTAL ∧ W.length = 2) → AK Tryd.prog cx (fin Tryd.prog Tryd.f21 cx fun y h1 fr1 => y = .tup [] ∧ h1 = [(0, .cs 59 [.d (.s (.int .i64 T1)), .d (.s (.int .i64 P1)), .d (.s (.int .i64 R1)), .d (.s (.int .i64 M1)), .row 4 10, .row 5 5, .d (.view 1 es), .any, .d (.s (.int .i64 LE))]), (4, .ds 34 10 LA), (5, .xs 37 5 MM SA [.d (.s (.str N1)), .d (.s (.str V1)), .d (.s (.int .i64 K1)), .d (.s (.int .i64 B1)), .row 6 5]), (6, .ds 40 5 RD)] ∧ fr1 = 7) k4 ⟨[(0, .ptr 0 0 0 9), (2, .d (.s (.int .i64 nn)))], [(0, .cs 59 [.d (.s (.int .i64 tt)), .d (.s (.int .i64 pe)), .d (.s (.int .i64 pr)), .d (.s (.int .i64 mo)), .row 1 10, .row 2 5, .d (.view 1 es), .d (.s (.int .i64 0)), .d (.s (.int .i64 0))]), (1, .ds 34 10 ld), (2, .xs 37 5 m sd [.d (.s (.str nm)), .d (.s (.str lv)), .d (.s (.int .i64 rk)), .d (.s (.int .i64 bb)), .row 3 5]), (3, .ds 40 5 rd)], 4⟩ := ?r4
  refine AK.runTn hF tabOK hmix hnt [4,6,12,14,16] false _ hG (Nat.le_of_eq hfr) ?_
  conv => arg 4; cbv
  rw [← hnn]
  rw [s0]
  refine AKt.need k0 fun _ => AKt.node (fun c1 => ?_) (fun c1 => ?_)
  · have d1 : wAt W 0 = TOTAL := es_ _ c1
    refine AKt.node (fun c2 => ?_) (fun c2 => ?_)
    · have d2 : W.length = 2 := en_ 2 c2
      have q0 : uRdNumber es 0 = true := by rw [huRdNumber]; exact qn 0 (by omega)
      refine AKt.leaf ?_
      refine AKp.runD3 hF tabOK hmix hnt false _ hG (by rw [hfr]; exact Nat.le_of_ble_eq_true rfl) ?_
      conv => arg 4; cbv
      repeat' (first | with_reducible (first | refine AKt.have ?_ | refine AKt.tt ?_ | refine AKt.ff ?_ | refine AKt.yes (by assumption) ?_ | refine AKt.no (by assumption) ?_ | refine AKt.node (fun hb => ?_) (fun hb => ?_) | refine AKt.need ?_ (fun hb => ?_) | refine AKt.leaf ?_) | ((with_reducible show _ = true); assumption))
      have hk : lineK W sd.length = 1 := by rw [lineK, if_pos ⟨d1, d2⟩]
      rw [hk] at ho
      simp only [RdO.mk.injEq] at ho
      obtain ⟨o1, o2, o3, o4, o5, o6, o7, o8, o9, o10, o11, o12, o13⟩ := ho
      refine AKp.anew 1 0 4 rfl rfl rfl (by decide) (Nat.le_of_ble_eq_true rfl) ?_
      conv => arg 4; arg 2; cbv
      refine AKp.anew 2 0 5 rfl rfl rfl (by decide) (Nat.le_of_ble_eq_true rfl) ?_
      conv => arg 4; arg 2; cbv
      refine AKp.anewX 3 5 4 rfl rfl rfl (by decide) (Nat.le_of_ble_eq_true rfl) ?_
      conv => arg 4; arg 2; cbv
      refine AKp.dim 0 7 rfl ?_
      conv => arg 4; arg 2; cbv
      first | refine AKp.doneI tabOK [0, 1, 2, 3, 4, 5, 6] hfr (by rfl) (by rfl) (by rfl) rfl rfl rfl ?_ ?_ | refine AKp.endI tabOK [0, 1, 2, 3, 4, 5, 6] hfr (by rfl) (by rfl) (by rfl) rfl rfl rfl ?_ ?_
      all_goals show _ = _
      · rfl
      · rw [o1, o2, o3, o4, o5, o6, o7, o8, o9, o10, o11, o12, o13]
        first | rfl | (simp only [huRdFail, huRdNumber, huRdNumber1, huRdNumber2, huRdNumber3, huRdOnce, huRdOnce1, huRdLevel1, huRdLevel2, huRdSchema1, huRdSchema2, huRdSchema3, huRdSchema4, huRdSchema5, huRdSchema6, huRdSchema7, huRdRule1, huRdRule2, huRdRule3]; rfl) | (simp only [hW, huRdFail, huRdNumber, huRdNumber1, huRdNumber2, huRdNumber3, huRdOnce, huRdOnce1, huRdLevel1, huRdLevel2, huRdSchema1, huRdSchema2, huRdSchema3, huRdSchema4, huRdSchema5, huRdSchema6, huRdSchema7, huRdRule1, huRdRule2, huRdRule3]; rfl)
    · have d2 : ¬ W.length = 2 := nn_ 2 c2
      repeat' (first | with_reducible (first | refine AKt.have ?_ | refine AKt.tt ?_ | refine AKt.ff ?_ | refine AKt.yes (by assumption) ?_ | refine AKt.no (by assumption) ?_ | refine AKt.node (fun hb => ?_) (fun hb => ?_) | refine AKt.need ?_ (fun hb => ?_) | refine AKt.leaf ?_) | ((with_reducible show _ = true); assumption))
      refine AKp.joinN hK4 _ (by rw [hfr]; exact Nat.le_of_ble_eq_true rfl) ?_ ?_ (rest4  (fun h => d2 h.2))
      · repeat (first | exact True.intro | refine ⟨⟨rfl, rfl⟩, ?_⟩)
      · repeat (first | exact True.intro | refine ⟨⟨rfl, rfl, rfl⟩, ?_⟩)
  · have d1 : ¬ wAt W 0 = TOTAL := ns_ _ c1
    repeat' (first | with_reducible (first | refine AKt.have ?_ | refine AKt.tt ?_ | refine AKt.ff ?_ | refine AKt.yes (by assumption) ?_ | refine AKt.no (by assumption) ?_ | refine AKt.node (fun hb => ?_) (fun hb => ?_) | refine AKt.need ?_ (fun hb => ?_) | refine AKt.leaf ?_) | ((with_reducible show _ = true); assumption))
    refine AKp.joinN hK4 _ (by rw [hfr]; exact Nat.le_of_ble_eq_true rfl) ?_ ?_ (rest4  (fun h => d1 h.1))
    · repeat (first | exact True.intro | refine ⟨⟨rfl, rfl⟩, ?_⟩)
    · repeat (first | exact True.intro | refine ⟨⟨rfl, rfl, rfl⟩, ?_⟩)
  case' r4 =>
    intro f1
    rw [hK4]
    refine AK.runTn hF tabOK hmix hnt [6,12,14,16] false _ hG (by rw [hfr]; exact Nat.le_of_ble_eq_true rfl) ?_
    conv => arg 4; cbv
    rw [s0]
    refine AKt.need k0 fun _ => AKt.node (fun c1 => ?_) (fun c1 => ?_)
    · have d1 : wAt W 0 = PERIOD := es_ _ c1
      refine AKt.node (fun c2 => ?_) (fun c2 => ?_)
      · have d2 : W.length = 2 := en_ 2 c2
        have q0 : uRdNumber es 0 = true := by rw [huRdNumber]; exact qn 0 (by omega)
        refine AKt.leaf ?_
        refine AKp.runD3 hF tabOK hmix hnt false _ hG (by rw [hfr]; exact Nat.le_of_ble_eq_true rfl) ?_
        conv => arg 4; cbv
        repeat' (first | with_reducible (first | refine AKt.have ?_ | refine AKt.tt ?_ | refine AKt.ff ?_ | refine AKt.yes (by assumption) ?_ | refine AKt.no (by assumption) ?_ | refine AKt.node (fun hb => ?_) (fun hb => ?_) | refine AKt.need ?_ (fun hb => ?_) | refine AKt.leaf ?_) | ((with_reducible show _ = true); assumption))
        have hk : lineK W sd.length = 2 := by rw [lineK, if_neg f1, if_pos ⟨d1, d2⟩]
        rw [hk] at ho
        simp only [RdO.mk.injEq] at ho
        obtain ⟨o1, o2, o3, o4, o5, o6, o7, o8, o9, o10, o11, o12, o13⟩ := ho
        refine AKp.anew 1 0 4 rfl rfl rfl (by decide) (Nat.le_of_ble_eq_true rfl) ?_
        conv => arg 4; arg 2; cbv
        refine AKp.anew 2 0 5 rfl rfl rfl (by decide) (Nat.le_of_ble_eq_true rfl) ?_
        conv => arg 4; arg 2; cbv
        refine AKp.anewX 3 5 4 rfl rfl rfl (by decide) (Nat.le_of_ble_eq_true rfl) ?_
        conv => arg 4; arg 2; cbv
        refine AKp.dim 0 7 rfl ?_
        conv => arg 4; arg 2; cbv
        first | refine AKp.doneI tabOK [0, 1, 2, 3, 4, 5, 6] hfr (by rfl) (by rfl) (by rfl) rfl rfl rfl ?_ ?_ | refine AKp.endI tabOK [0, 1, 2, 3, 4, 5, 6] hfr (by rfl) (by rfl) (by rfl) rfl rfl rfl ?_ ?_
        all_goals show _ = _
        · rfl
        · rw [o1, o2, o3, o4, o5, o6, o7, o8, o9, o10, o11, o12, o13]
          first | rfl | (simp only [huRdFail, huRdNumber, huRdNumber1, huRdNumber2, huRdNumber3, huRdOnce, huRdOnce1, huRdLevel1, huRdLevel2, huRdSchema1, huRdSchema2, huRdSchema3, huRdSchema4, huRdSchema5, huRdSchema6, huRdSchema7, huRdRule1, huRdRule2, huRdRule3]; rfl) | (simp only [hW, huRdFail, huRdNumber, huRdNumber1, huRdNumber2, huRdNumber3, huRdOnce, huRdOnce1, huRdLevel1, huRdLevel2, huRdSchema1, huRdSchema2, huRdSchema3, huRdSchema4, huRdSchema5, huRdSchema6, huRdSchema7, huRdRule1, huRdRule2, huRdRule3]; rfl)
      · have d2 : ¬ W.length = 2 := nn_ 2 c2
        repeat' (first | with_reducible (first | refine AKt.have ?_ | refine AKt.tt ?_ | refine AKt.ff ?_ | refine AKt.yes (by assumption) ?_ | refine AKt.no (by assumption) ?_ | refine AKt.node (fun hb => ?_) (fun hb => ?_) | refine AKt.need ?_ (fun hb => ?_) | refine AKt.leaf ?_) | ((with_reducible show _ = true); assumption))
        refine AKp.joinN hK6 _ (by rw [hfr]; exact Nat.le_of_ble_eq_true rfl) ?_ ?_ (rest6 f1 (fun h => d2 h.2))
        · repeat (first | exact True.intro | refine ⟨⟨rfl, rfl⟩, ?_⟩)
        · repeat (first | exact True.intro | refine ⟨⟨rfl, rfl, rfl⟩, ?_⟩)
    · have d1 : ¬ wAt W 0 = PERIOD := ns_ _ c1
      repeat' (first | with_reducible (first | refine AKt.have ?_ | refine AKt.tt ?_ | refine AKt.ff ?_ | refine AKt.yes (by assumption) ?_ | refine AKt.no (by assumption) ?_ | refine AKt.node (fun hb => ?_) (fun hb => ?_) | refine AKt.need ?_ (fun hb => ?_) | refine AKt.leaf ?_) | ((with_reducible show _ = true); assumption))
      refine AKp.joinN hK6 _ (by rw [hfr]; exact Nat.le_of_ble_eq_true rfl) ?_ ?_ (rest6 f1 (fun h => d1 h.1))
      · repeat (first | exact True.intro | refine ⟨⟨rfl, rfl⟩, ?_⟩)
      · repeat (first | exact True.intro | refine ⟨⟨rfl, rfl, rfl⟩, ?_⟩)
  case' r6 =>
    intro f1 f2
    rw [hK6]
    refine AK.runTn hF tabOK hmix hnt [12,14,16] false _ hG (by rw [hfr]; exact Nat.le_of_ble_eq_true rfl) ?_
    conv => arg 4; cbv
    rw [s0]
    refine AKt.need k0 fun _ => AKt.node (fun c1 => ?_) (fun c1 => ?_)
    · have d1 : wAt W 0 = SEATS := es_ _ c1
      refine AKt.node (fun c2 => ?_) (fun c2 => ?_)
      · have d2 : W.length = 3 := en_ 3 c2
        have a0 : uRdNumber2 0 = 1 := by rw [huRdNumber2]; rfl
        rw [a0]
        have q0 : uRdNumber es 0 = true := by rw [huRdNumber]; exact qn 0 (by omega)
        have q1 : uRdNumber es 1 = true := by rw [huRdNumber]; exact qn 1 (by omega)
        refine AKt.need q0 fun _ => AKt.need q1 fun _ => AKt.need rfl fun _ => AKt.node (fun c3 => ?_) (fun c3 => ?_)
        · have d3 : (onE pr (rnE es 1 (rnE es 0 0 1 1048576) 1 16) = 0) := by rw [hF, f_eqI, huRdOnce, huRdNumber3] at c3; exact of_decide_eq_true c3
          repeat' (first | with_reducible (first | refine AKt.have ?_ | refine AKt.tt ?_ | refine AKt.ff ?_ | refine AKt.yes (by assumption) ?_ | refine AKt.no (by assumption) ?_ | refine AKt.node (fun hb => ?_) (fun hb => ?_) | refine AKt.need ?_ (fun hb => ?_) | refine AKt.leaf ?_) | ((with_reducible show _ = true); assumption))
          have hk : lineK W sd.length = 3 := by rw [lineK, if_neg f1, if_neg f2, if_pos ⟨d1, d2⟩]
          rw [hk] at ho
          simp only [RdO.mk.injEq] at ho
          obtain ⟨o1, o2, o3, o4, o5, o6, o7, o8, o9, o10, o11, o12, o13⟩ := ho
          rw [if_pos d3] at o4
          refine AKp.anew 1 0 4 rfl rfl rfl (by decide) (Nat.le_of_ble_eq_true rfl) ?_
          conv => arg 4; arg 2; cbv
          refine AKp.anew 2 0 5 rfl rfl rfl (by decide) (Nat.le_of_ble_eq_true rfl) ?_
          conv => arg 4; arg 2; cbv
          refine AKp.anewX 3 5 4 rfl rfl rfl (by decide) (Nat.le_of_ble_eq_true rfl) ?_
          conv => arg 4; arg 2; cbv
          refine AKp.dim 0 7 rfl ?_
          conv => arg 4; arg 2; cbv
          first | refine AKp.doneI tabOK [0, 1, 2, 3, 4, 5, 6] hfr (by rfl) (by rfl) (by rfl) rfl rfl rfl ?_ ?_ | refine AKp.endI tabOK [0, 1, 2, 3, 4, 5, 6] hfr (by rfl) (by rfl) (by rfl) rfl rfl rfl ?_ ?_
          all_goals show _ = _
          · rfl
          · rw [o1, o2, o3, o4, o5, o6, o7, o8, o9, o10, o11, o12, o13]
            first | rfl | (simp only [huRdFail, huRdNumber, huRdNumber1, huRdNumber2, huRdNumber3, huRdOnce, huRdOnce1, huRdLevel1, huRdLevel2, huRdSchema1, huRdSchema2, huRdSchema3, huRdSchema4, huRdSchema5, huRdSchema6, huRdSchema7, huRdRule1, huRdRule2, huRdRule3]; rfl) | (simp only [hW, huRdFail, huRdNumber, huRdNumber1, huRdNumber2, huRdNumber3, huRdOnce, huRdOnce1, huRdLevel1, huRdLevel2, huRdSchema1, huRdSchema2, huRdSchema3, huRdSchema4, huRdSchema5, huRdSchema6, huRdSchema7, huRdRule1, huRdRule2, huRdRule3]; rfl)
        · have d3 : ¬ (onE pr (rnE es 1 (rnE es 0 0 1 1048576) 1 16) = 0) := by rw [hF, f_eqI, huRdOnce, huRdNumber3] at c3; exact of_decide_eq_false c3
          repeat' (first | with_reducible (first | refine AKt.have ?_ | refine AKt.tt ?_ | refine AKt.ff ?_ | refine AKt.yes (by assumption) ?_ | refine AKt.no (by assumption) ?_ | refine AKt.node (fun hb => ?_) (fun hb => ?_) | refine AKt.need ?_ (fun hb => ?_) | refine AKt.leaf ?_) | ((with_reducible show _ = true); assumption))
          have hk : lineK W sd.length = 3 := by rw [lineK, if_neg f1, if_neg f2, if_pos ⟨d1, d2⟩]
          rw [hk] at ho
          simp only [RdO.mk.injEq] at ho
          obtain ⟨o1, o2, o3, o4, o5, o6, o7, o8, o9, o10, o11, o12, o13⟩ := ho
          rw [if_neg d3] at o4
          refine AKp.anew 1 0 4 rfl rfl rfl (by decide) (Nat.le_of_ble_eq_true rfl) ?_
          conv => arg 4; arg 2; cbv
          refine AKp.anew 2 0 5 rfl rfl rfl (by decide) (Nat.le_of_ble_eq_true rfl) ?_
          conv => arg 4; arg 2; cbv
          refine AKp.anewX 3 5 4 rfl rfl rfl (by decide) (Nat.le_of_ble_eq_true rfl) ?_
          conv => arg 4; arg 2; cbv
          refine AKp.dim 0 7 rfl ?_
          conv => arg 4; arg 2; cbv
          first | refine AKp.doneI tabOK [0, 1, 2, 3, 4, 5, 6] hfr (by rfl) (by rfl) (by rfl) rfl rfl rfl ?_ ?_ | refine AKp.endI tabOK [0, 1, 2, 3, 4, 5, 6] hfr (by rfl) (by rfl) (by rfl) rfl rfl rfl ?_ ?_
          all_goals show _ = _
          · rfl
          · rw [o1, o2, o3, o4, o5, o6, o7, o8, o9, o10, o11, o12, o13]
            first | rfl | (simp only [huRdFail, huRdNumber, huRdNumber1, huRdNumber2, huRdNumber3, huRdOnce, huRdOnce1, huRdLevel1, huRdLevel2, huRdSchema1, huRdSchema2, huRdSchema3, huRdSchema4, huRdSchema5, huRdSchema6, huRdSchema7, huRdRule1, huRdRule2, huRdRule3]; rfl) | (simp only [hW, huRdFail, huRdNumber, huRdNumber1, huRdNumber2, huRdNumber3, huRdOnce, huRdOnce1, huRdLevel1, huRdLevel2, huRdSchema1, huRdSchema2, huRdSchema3, huRdSchema4, huRdSchema5, huRdSchema6, huRdSchema7, huRdRule1, huRdRule2, huRdRule3]; rfl)
      · have d2 : ¬ W.length = 3 := nn_ 3 c2
        repeat' (first | with_reducible (first | refine AKt.have ?_ | refine AKt.tt ?_ | refine AKt.ff ?_ | refine AKt.yes (by assumption) ?_ | refine AKt.no (by assumption) ?_ | refine AKt.node (fun hb => ?_) (fun hb => ?_) | refine AKt.need ?_ (fun hb => ?_) | refine AKt.leaf ?_) | ((with_reducible show _ = true); assumption))
        refine AKp.joinN hK12 _ (by rw [hfr]; exact Nat.le_of_ble_eq_true rfl) ?_ ?_ (rest12 f1 f2 (fun h => d2 h.2))
        · repeat (first | exact True.intro | refine ⟨⟨rfl, rfl⟩, ?_⟩)
        · repeat (first | exact True.intro | refine ⟨⟨rfl, rfl, rfl⟩, ?_⟩)
    · have d1 : ¬ wAt W 0 = SEATS := ns_ _ c1
      repeat' (first | with_reducible (first | refine AKt.have ?_ | refine AKt.tt ?_ | refine AKt.ff ?_ | refine AKt.yes (by assumption) ?_ | refine AKt.no (by assumption) ?_ | refine AKt.node (fun hb => ?_) (fun hb => ?_) | refine AKt.need ?_ (fun hb => ?_) | refine AKt.leaf ?_) | ((with_reducible show _ = true); assumption))
      refine AKp.joinN hK12 _ (by rw [hfr]; exact Nat.le_of_ble_eq_true rfl) ?_ ?_ (rest12 f1 f2 (fun h => d1 h.1))
      · repeat (first | exact True.intro | refine ⟨⟨rfl, rfl⟩, ?_⟩)
      · repeat (first | exact True.intro | refine ⟨⟨rfl, rfl, rfl⟩, ?_⟩)
  case' r12 =>
    intro f1 f2 f3
    rw [hK12]
    refine AK.runTn hF tabOK hmix hnt [14,16] false _ hG (by rw [hfr]; exact Nat.le_of_ble_eq_true rfl) ?_
    conv => arg 4; cbv
    rw [s0]
    refine AKt.need k0 fun _ => AKt.node (fun c1 => ?_) (fun c1 => ?_)
    · have d1 : wAt W 0 = LEVEL := es_ _ c1
      have q0 : uRdLevel es ld = true := by rw [huRdLevel]; simp only [lvP, p1, p4, Bool.true_and, Bool.and_eq_true, decide_eq_true_eq]; exact ⟨p2, p3, p5⟩
      repeat' (first | with_reducible (first | refine AKt.have ?_ | refine AKt.tt ?_ | refine AKt.ff ?_ | refine AKt.yes (by assumption) ?_ | refine AKt.no (by assumption) ?_ | refine AKt.node (fun hb => ?_) (fun hb => ?_) | refine AKt.need ?_ (fun hb => ?_) | refine AKt.leaf ?_) | ((with_reducible show _ = true); assumption))
      have hk : lineK W sd.length = 4 := by rw [lineK, if_neg f1, if_neg f2, if_neg f3, if_pos d1]
      rw [hk] at ho
      simp only [RdO.mk.injEq] at ho
      obtain ⟨o1, o2, o3, o4, o5, o6, o7, o8, o9, o10, o11, o12, o13⟩ := ho
      refine AKp.anew 2 0 5 rfl rfl rfl (by decide) (Nat.le_of_ble_eq_true rfl) ?_
      conv => arg 4; arg 2; cbv
      refine AKp.anewX 3 5 4 rfl rfl rfl (by decide) (Nat.le_of_ble_eq_true rfl) ?_
      conv => arg 4; arg 2; cbv
      first | refine AKp.doneI tabOK [0, 1, 2, 3, 4, 5, 6] hfr (by rfl) (by rfl) (by rfl) rfl rfl rfl ?_ ?_ | refine AKp.endI tabOK [0, 1, 2, 3, 4, 5, 6] hfr (by rfl) (by rfl) (by rfl) rfl rfl rfl ?_ ?_
      all_goals show _ = _
      · rfl
      · rw [o1, o2, o3, o4, o5, o6, o7, o8, o9, o10, o11, o12, o13]
        first | rfl | (simp only [huRdFail, huRdNumber, huRdNumber1, huRdNumber2, huRdNumber3, huRdOnce, huRdOnce1, huRdLevel1, huRdLevel2, huRdSchema1, huRdSchema2, huRdSchema3, huRdSchema4, huRdSchema5, huRdSchema6, huRdSchema7, huRdRule1, huRdRule2, huRdRule3]; rfl) | (simp only [hW, huRdFail, huRdNumber, huRdNumber1, huRdNumber2, huRdNumber3, huRdOnce, huRdOnce1, huRdLevel1, huRdLevel2, huRdSchema1, huRdSchema2, huRdSchema3, huRdSchema4, huRdSchema5, huRdSchema6, huRdSchema7, huRdRule1, huRdRule2, huRdRule3]; rfl)
    · have d1 : ¬ wAt W 0 = LEVEL := ns_ _ c1
      repeat' (first | with_reducible (first | refine AKt.have ?_ | refine AKt.tt ?_ | refine AKt.ff ?_ | refine AKt.yes (by assumption) ?_ | refine AKt.no (by assumption) ?_ | refine AKt.node (fun hb => ?_) (fun hb => ?_) | refine AKt.need ?_ (fun hb => ?_) | refine AKt.leaf ?_) | ((with_reducible show _ = true); assumption))
      refine AKp.joinN hK14 _ (by rw [hfr]; exact Nat.le_of_ble_eq_true rfl) ?_ ?_ (rest14 f1 f2 f3 d1)
      · repeat (first | exact True.intro | refine ⟨⟨rfl, rfl⟩, ?_⟩)
      · repeat (first | exact True.intro | refine ⟨⟨rfl, rfl, rfl⟩, ?_⟩)
  case' r14 =>
    intro f1 f2 f3 f4
    rw [hK14]
    refine AK.runTn hF tabOK hmix hnt [16] false _ hG (by rw [hfr]; exact Nat.le_of_ble_eq_true rfl) ?_
    conv => arg 4; cbv
    rw [s0]
    refine AKt.need k0 fun _ => AKt.node (fun c1 => ?_) (fun c1 => ?_)
    · have d1 : wAt W 0 = SCHEMA := es_ _ c1
      refine AKt.node (fun c2 => ?_) (fun c2 => ?_)
      · have d2 : W.length = 5 := en_ 5 c2
        have q0 : uRdSchema es sd m nm lv rk bb rd = true := by rw [huRdSchema]; simp only [scRP, p1, p7, Bool.true_and, Bool.and_true, decide_eq_true_eq]; omega
        repeat' (first | with_reducible (first | refine AKt.have ?_ | refine AKt.tt ?_ | refine AKt.ff ?_ | refine AKt.yes (by assumption) ?_ | refine AKt.no (by assumption) ?_ | refine AKt.node (fun hb => ?_) (fun hb => ?_) | refine AKt.need ?_ (fun hb => ?_) | refine AKt.leaf ?_) | ((with_reducible show _ = true); assumption))
        have hk : lineK W sd.length = 5 := by rw [lineK, if_neg f1, if_neg f2, if_neg f3, if_neg f4, if_pos ⟨d1, d2⟩]
        rw [hk] at ho
        simp only [RdO.mk.injEq] at ho
        obtain ⟨o1, o2, o3, o4, o5, o6, o7, o8, o9, o10, o11, o12, o13⟩ := ho
        refine AKp.anew 1 0 4 rfl rfl rfl (by decide) (Nat.le_of_ble_eq_true rfl) ?_
        conv => arg 4; arg 2; cbv
        first | refine AKp.doneI tabOK [0, 1, 2, 3, 6, 4, 5] hfr (by rfl) (by rfl) (by rfl) rfl rfl rfl ?_ ?_ | refine AKp.endI tabOK [0, 1, 2, 3, 6, 4, 5] hfr (by rfl) (by rfl) (by rfl) rfl rfl rfl ?_ ?_
        all_goals show _ = _
        · rfl
        · rw [o1, o2, o3, o4, o5, o6, o7, o8, o9, o10, o11, o12, o13]
          first | rfl | (simp only [huRdFail, huRdNumber, huRdNumber1, huRdNumber2, huRdNumber3, huRdOnce, huRdOnce1, huRdLevel1, huRdLevel2, huRdSchema1, huRdSchema2, huRdSchema3, huRdSchema4, huRdSchema5, huRdSchema6, huRdSchema7, huRdRule1, huRdRule2, huRdRule3]; rfl) | (simp only [hW, huRdFail, huRdNumber, huRdNumber1, huRdNumber2, huRdNumber3, huRdOnce, huRdOnce1, huRdLevel1, huRdLevel2, huRdSchema1, huRdSchema2, huRdSchema3, huRdSchema4, huRdSchema5, huRdSchema6, huRdSchema7, huRdRule1, huRdRule2, huRdRule3]; rfl)
      · have d2 : ¬ W.length = 5 := nn_ 5 c2
        repeat' (first | with_reducible (first | refine AKt.have ?_ | refine AKt.tt ?_ | refine AKt.ff ?_ | refine AKt.yes (by assumption) ?_ | refine AKt.no (by assumption) ?_ | refine AKt.node (fun hb => ?_) (fun hb => ?_) | refine AKt.need ?_ (fun hb => ?_) | refine AKt.leaf ?_) | ((with_reducible show _ = true); assumption))
        refine AKp.joinN hK16 _ (by rw [hfr]; exact Nat.le_of_ble_eq_true rfl) ?_ ?_ (rest16 f1 f2 f3 f4 (fun h => d2 h.2))
        · repeat (first | exact True.intro | refine ⟨⟨rfl, rfl⟩, ?_⟩)
        · repeat (first | exact True.intro | refine ⟨⟨rfl, rfl, rfl⟩, ?_⟩)
    · have d1 : ¬ wAt W 0 = SCHEMA := ns_ _ c1
      repeat' (first | with_reducible (first | refine AKt.have ?_ | refine AKt.tt ?_ | refine AKt.ff ?_ | refine AKt.yes (by assumption) ?_ | refine AKt.no (by assumption) ?_ | refine AKt.node (fun hb => ?_) (fun hb => ?_) | refine AKt.need ?_ (fun hb => ?_) | refine AKt.leaf ?_) | ((with_reducible show _ = true); assumption))
      refine AKp.joinN hK16 _ (by rw [hfr]; exact Nat.le_of_ble_eq_true rfl) ?_ ?_ (rest16 f1 f2 f3 f4 (fun h => d1 h.1))
      · repeat (first | exact True.intro | refine ⟨⟨rfl, rfl⟩, ?_⟩)
      · repeat (first | exact True.intro | refine ⟨⟨rfl, rfl, rfl⟩, ?_⟩)
  case' r16 =>
    intro f1 f2 f3 f4 f5
    rw [hK16]
    refine AK.runTn hF tabOK hmix hnt [] false _ hG (by rw [hfr]; exact Nat.le_of_ble_eq_true rfl) ?_
    conv => arg 4; cbv
    rw [s0]
    have hsl : F .lenD sd = (sd.length : Int) := by rw [hF]; rfl
    refine AKt.need k0 fun _ => AKt.node (fun c1 => ?_) (fun c1 => ?_)
    · have d1 : wAt W 0 = RULE := es_ _ c1
      refine AKt.node (fun c2 => ?_) (fun c2 => ?_)
      · have d2 : W.length = 6 := en_ 6 c2
        refine AKt.node (fun c3 => ?_) (fun c3 => ?_)
        · have d3 : 0 < sd.length := by rw [hsl, hF, f_ltI] at c3; have := of_decide_eq_true c3; omega
          have q0 : uRdRule es sd m nm lv rk bb rd = true := by rw [huRdRule]; simp only [rcP2, p1, p7, Bool.true_and, Bool.and_true, Bool.and_eq_true, decide_eq_true_eq]; omega
          repeat' (first | with_reducible (first | refine AKt.have ?_ | refine AKt.tt ?_ | refine AKt.ff ?_ | refine AKt.yes (by assumption) ?_ | refine AKt.no (by assumption) ?_ | refine AKt.node (fun hb => ?_) (fun hb => ?_) | refine AKt.need ?_ (fun hb => ?_) | refine AKt.leaf ?_) | ((with_reducible show _ = true); assumption))
          have hk : lineK W sd.length = 6 := by rw [lineK, if_neg f1, if_neg f2, if_neg f3, if_neg f4, if_neg f5, if_pos ⟨d1, d2, d3⟩]
          rw [hk] at ho
          simp only [RdO.mk.injEq] at ho
          obtain ⟨o1, o2, o3, o4, o5, o6, o7, o8, o9, o10, o11, o12, o13⟩ := ho
          refine AKp.anew 1 0 4 rfl rfl rfl (by decide) (Nat.le_of_ble_eq_true rfl) ?_
          conv => arg 4; arg 2; cbv
          refine AKp.anew 2 0 5 rfl rfl rfl (by decide) (Nat.le_of_ble_eq_true rfl) ?_
          conv => arg 4; arg 2; cbv
          first | refine AKp.doneI tabOK [0, 1, 2, 3, 5, 6, 4] hfr (by rfl) (by rfl) (by rfl) rfl rfl rfl ?_ ?_ | refine AKp.endI tabOK [0, 1, 2, 3, 5, 6, 4] hfr (by rfl) (by rfl) (by rfl) rfl rfl rfl ?_ ?_
          all_goals show _ = _
          · rfl
          · rw [o1, o2, o3, o4, o5, o6, o7, o8, o9, o10, o11, o12, o13]
            first | rfl | (simp only [huRdFail, huRdNumber, huRdNumber1, huRdNumber2, huRdNumber3, huRdOnce, huRdOnce1, huRdLevel1, huRdLevel2, huRdSchema1, huRdSchema2, huRdSchema3, huRdSchema4, huRdSchema5, huRdSchema6, huRdSchema7, huRdRule1, huRdRule2, huRdRule3]; rfl) | (simp only [hW, huRdFail, huRdNumber, huRdNumber1, huRdNumber2, huRdNumber3, huRdOnce, huRdOnce1, huRdLevel1, huRdLevel2, huRdSchema1, huRdSchema2, huRdSchema3, huRdSchema4, huRdSchema5, huRdSchema6, huRdSchema7, huRdRule1, huRdRule2, huRdRule3]; rfl)
        · have d3 : ¬ 0 < sd.length := by rw [hsl, hF, f_ltI] at c3; have := of_decide_eq_false c3; omega
          repeat' (first | with_reducible (first | refine AKt.have ?_ | refine AKt.tt ?_ | refine AKt.ff ?_ | refine AKt.yes (by assumption) ?_ | refine AKt.no (by assumption) ?_ | refine AKt.node (fun hb => ?_) (fun hb => ?_) | refine AKt.need ?_ (fun hb => ?_) | refine AKt.leaf ?_) | ((with_reducible show _ = true); assumption))
          have hk : lineK W sd.length = 0 := by rw [lineK, if_neg f1, if_neg f2, if_neg f3, if_neg f4, if_neg f5, if_neg (fun h => d3 h.2.2)]
          rw [hk] at ho
          simp only [RdO.mk.injEq] at ho
          obtain ⟨o1, o2, o3, o4, o5, o6, o7, o8, o9, o10, o11, o12, o13⟩ := ho
          refine AKp.anew 1 0 4 rfl rfl rfl (by decide) (Nat.le_of_ble_eq_true rfl) ?_
          conv => arg 4; arg 2; cbv
          refine AKp.anew 2 0 5 rfl rfl rfl (by decide) (Nat.le_of_ble_eq_true rfl) ?_
          conv => arg 4; arg 2; cbv
          refine AKp.anewX 3 5 4 rfl rfl rfl (by decide) (Nat.le_of_ble_eq_true rfl) ?_
          conv => arg 4; arg 2; cbv
          refine AKp.dim 0 7 rfl ?_
          conv => arg 4; arg 2; cbv
          first | refine AKp.doneI tabOK [0, 1, 2, 3, 4, 5, 6] hfr (by rfl) (by rfl) (by rfl) rfl rfl rfl ?_ ?_ | refine AKp.endI tabOK [0, 1, 2, 3, 4, 5, 6] hfr (by rfl) (by rfl) (by rfl) rfl rfl rfl ?_ ?_
          all_goals show _ = _
          · rfl
          · rw [o1, o2, o3, o4, o5, o6, o7, o8, o9, o10, o11, o12, o13]
            first | rfl | (simp only [huRdFail, huRdNumber, huRdNumber1, huRdNumber2, huRdNumber3, huRdOnce, huRdOnce1, huRdLevel1, huRdLevel2, huRdSchema1, huRdSchema2, huRdSchema3, huRdSchema4, huRdSchema5, huRdSchema6, huRdSchema7, huRdRule1, huRdRule2, huRdRule3]; rfl) | (simp only [hW, huRdFail, huRdNumber, huRdNumber1, huRdNumber2, huRdNumber3, huRdOnce, huRdOnce1, huRdLevel1, huRdLevel2, huRdSchema1, huRdSchema2, huRdSchema3, huRdSchema4, huRdSchema5, huRdSchema6, huRdSchema7, huRdRule1, huRdRule2, huRdRule3]; rfl)
      · have d2 : ¬ W.length = 6 := nn_ 6 c2
        repeat' (first | with_reducible (first | refine AKt.have ?_ | refine AKt.tt ?_ | refine AKt.ff ?_ | refine AKt.yes (by assumption) ?_ | refine AKt.no (by assumption) ?_ | refine AKt.node (fun hb => ?_) (fun hb => ?_) | refine AKt.need ?_ (fun hb => ?_) | refine AKt.leaf ?_) | ((with_reducible show _ = true); assumption))
        have hk : lineK W sd.length = 0 := by rw [lineK, if_neg f1, if_neg f2, if_neg f3, if_neg f4, if_neg f5, if_neg (fun h => d2 h.2.1)]
        rw [hk] at ho
        simp only [RdO.mk.injEq] at ho
        obtain ⟨o1, o2, o3, o4, o5, o6, o7, o8, o9, o10, o11, o12, o13⟩ := ho
        refine AKp.anew 1 0 4 rfl rfl rfl (by decide) (Nat.le_of_ble_eq_true rfl) ?_
        conv => arg 4; arg 2; cbv
        refine AKp.anew 2 0 5 rfl rfl rfl (by decide) (Nat.le_of_ble_eq_true rfl) ?_
        conv => arg 4; arg 2; cbv
        refine AKp.anewX 3 5 4 rfl rfl rfl (by decide) (Nat.le_of_ble_eq_true rfl) ?_
        conv => arg 4; arg 2; cbv
        refine AKp.dim 0 7 rfl ?_
        conv => arg 4; arg 2; cbv
        first | refine AKp.doneI tabOK [0, 1, 2, 3, 4, 5, 6] hfr (by rfl) (by rfl) (by rfl) rfl rfl rfl ?_ ?_ | refine AKp.endI tabOK [0, 1, 2, 3, 4, 5, 6] hfr (by rfl) (by rfl) (by rfl) rfl rfl rfl ?_ ?_
        all_goals show _ = _
        · rfl
        · rw [o1, o2, o3, o4, o5, o6, o7, o8, o9, o10, o11, o12, o13]
          first | rfl | (simp only [huRdFail, huRdNumber, huRdNumber1, huRdNumber2, huRdNumber3, huRdOnce, huRdOnce1, huRdLevel1, huRdLevel2, huRdSchema1, huRdSchema2, huRdSchema3, huRdSchema4, huRdSchema5, huRdSchema6, huRdSchema7, huRdRule1, huRdRule2, huRdRule3]; rfl) | (simp only [hW, huRdFail, huRdNumber, huRdNumber1, huRdNumber2, huRdNumber3, huRdOnce, huRdOnce1, huRdLevel1, huRdLevel2, huRdSchema1, huRdSchema2, huRdSchema3, huRdSchema4, huRdSchema5, huRdSchema6, huRdSchema7, huRdRule1, huRdRule2, huRdRule3]; rfl)
    · have d1 : ¬ wAt W 0 = RULE := ns_ _ c1
      repeat' (first | with_reducible (first | refine AKt.have ?_ | refine AKt.tt ?_ | refine AKt.ff ?_ | refine AKt.yes (by assumption) ?_ | refine AKt.no (by assumption) ?_ | refine AKt.node (fun hb => ?_) (fun hb => ?_) | refine AKt.need ?_ (fun hb => ?_) | refine AKt.leaf ?_) | ((with_reducible show _ = true); assumption))
      have hk : lineK W sd.length = 0 := by rw [lineK, if_neg f1, if_neg f2, if_neg f3, if_neg f4, if_neg f5, if_neg (fun h => d1 h.1)]
      rw [hk] at ho
      simp only [RdO.mk.injEq] at ho
      obtain ⟨o1, o2, o3, o4, o5, o6, o7, o8, o9, o10, o11, o12, o13⟩ := ho
      refine AKp.anew 1 0 4 rfl rfl rfl (by decide) (Nat.le_of_ble_eq_true rfl) ?_
      conv => arg 4; arg 2; cbv
      refine AKp.anew 2 0 5 rfl rfl rfl (by decide) (Nat.le_of_ble_eq_true rfl) ?_
      conv => arg 4; arg 2; cbv
      refine AKp.anewX 3 5 4 rfl rfl rfl (by decide) (Nat.le_of_ble_eq_true rfl) ?_
      conv => arg 4; arg 2; cbv
      refine AKp.dim 0 7 rfl ?_
      conv => arg 4; arg 2; cbv
      first | refine AKp.doneI tabOK [0, 1, 2, 3, 4, 5, 6] hfr (by rfl) (by rfl) (by rfl) rfl rfl rfl ?_ ?_ | refine AKp.endI tabOK [0, 1, 2, 3, 4, 5, 6] hfr (by rfl) (by rfl) (by rfl) rfl rfl rfl ?_ ?_
      all_goals show _ = _
      · rfl
      · rw [o1, o2, o3, o4, o5, o6, o7, o8, o9, o10, o11, o12, o13]
        first | rfl | (simp only [huRdFail, huRdNumber, huRdNumber1, huRdNumber2, huRdNumber3, huRdOnce, huRdOnce1, huRdLevel1, huRdLevel2, huRdSchema1, huRdSchema2, huRdSchema3, huRdSchema4, huRdSchema5, huRdSchema6, huRdSchema7, huRdRule1, huRdRule2, huRdRule3]; rfl) | (simp only [hW, huRdFail, huRdNumber, huRdNumber1, huRdNumber2, huRdNumber3, huRdOnce, huRdOnce1, huRdLevel1, huRdLevel2, huRdSchema1, huRdSchema2, huRdSchema3, huRdSchema4, huRdSchema5, huRdSchema6, huRdSchema7, huRdRule1, huRdRule2, huRdRule3]; rfl)
abbrev RA (β : Type) := List Dat → Int → Int → Int → Int → List Dat → Nat → List Dat → Wd → Wd → Int → Int → List Dat → β
def φRdLine (p : List Dat → List Dat → List Dat → Nat → Wd → Wd → Int → Int → List Dat → Bool) (u1 u2 u3 u4 : RA Int) (u5 : RA (List Dat)) (u6 : RA Nat) (u7 : RA (List Dat)) (u8 u9 : RA Wd) (ua ub : RA Int) (uc : RA (List Dat)) (ud : RA Int) : Nat → List AV → List (Nat × Blk) → Option (Bool × AV × List (Nat × Blk) × Nat)
  | 4, [.ptr 0 0 0 9], [(0, .cs 59 [.d (.s (.int .i64 tt)), .d (.s (.int .i64 pe)), .d (.s (.int .i64 pr)), .d (.s (.int .i64 mo)), .row 1 10, .row 2 5, .d (.view 1 es), .d (.s (.int .i64 0)), .d (.s (.int .i64 0))]), (1, .ds 34 10 ld), (2, .xs 37 5 m sd [.d (.s (.str nm)), .d (.s (.str lv)), .d (.s (.int .i64 rk)), .d (.s (.int .i64 bb)), .row 3 5]), (3, .ds 40 5 rd)] => some (p es ld sd m nm lv rk bb rd, .tup [], [(0, .cs 59 [.d (.s (.int .i64 (u1 es tt pe pr mo ld m sd nm lv rk bb rd))), .d (.s (.int .i64 (u2 es tt pe pr mo ld m sd nm lv rk bb rd))), .d (.s (.int .i64 (u3 es tt pe pr mo ld m sd nm lv rk bb rd))), .d (.s (.int .i64 (u4 es tt pe pr mo ld m sd nm lv rk bb rd))), .row 4 10, .row 5 5, .d (.view 1 es), .any, .d (.s (.int .i64 (ud es tt pe pr mo ld m sd nm lv rk bb rd)))]), (4, .ds 34 10 (u5 es tt pe pr mo ld m sd nm lv rk bb rd)), (5, .xs 37 5 (u6 es tt pe pr mo ld m sd nm lv rk bb rd) (u7 es tt pe pr mo ld m sd nm lv rk bb rd) [.d (.s (.str (u8 es tt pe pr mo ld m sd nm lv rk bb rd))), .d (.s (.str (u9 es tt pe pr mo ld m sd nm lv rk bb rd))), .d (.s (.int .i64 (ua es tt pe pr mo ld m sd nm lv rk bb rd))), .d (.s (.int .i64 (ub es tt pe pr mo ld m sd nm lv rk bb rd))), .row 6 5]), (6, .ds 40 5 (uc es tt pe pr mo ld m sd nm lv rk bb rd))], 7)
  | _, _, _ => none
theorem φRdLine_ok : MSpOK Tryd.prog 21 (φRdLine (lnRP) (fun es tt pe pr mo ld m sd nm lv rk bb rd => (rdO es ⟨tt, pe, pr, mo, ld, m, sd, nm, lv, rk, bb, rd, 0⟩).tt) (fun es tt pe pr mo ld m sd nm lv rk bb rd => (rdO es ⟨tt, pe, pr, mo, ld, m, sd, nm, lv, rk, bb, rd, 0⟩).pe) (fun es tt pe pr mo ld m sd nm lv rk bb rd => (rdO es ⟨tt, pe, pr, mo, ld, m, sd, nm, lv, rk, bb, rd, 0⟩).pr) (fun es tt pe pr mo ld m sd nm lv rk bb rd => (rdO es ⟨tt, pe, pr, mo, ld, m, sd, nm, lv, rk, bb, rd, 0⟩).mo) (fun es tt pe pr mo ld m sd nm lv rk bb rd => (rdO es ⟨tt, pe, pr, mo, ld, m, sd, nm, lv, rk, bb, rd, 0⟩).ld) (fun es tt pe pr mo ld m sd nm lv rk bb rd => (rdO es ⟨tt, pe, pr, mo, ld, m, sd, nm, lv, rk, bb, rd, 0⟩).m) (fun es tt pe pr mo ld m sd nm lv rk bb rd => (rdO es ⟨tt, pe, pr, mo, ld, m, sd, nm, lv, rk, bb, rd, 0⟩).sd) (fun es tt pe pr mo ld m sd nm lv rk bb rd => (rdO es ⟨tt, pe, pr, mo, ld, m, sd, nm, lv, rk, bb, rd, 0⟩).nm) (fun es tt pe pr mo ld m sd nm lv rk bb rd => (rdO es ⟨tt, pe, pr, mo, ld, m, sd, nm, lv, rk, bb, rd, 0⟩).lv) (fun es tt pe pr mo ld m sd nm lv rk bb rd => (rdO es ⟨tt, pe, pr, mo, ld, m, sd, nm, lv, rk, bb, rd, 0⟩).rk) (fun es tt pe pr mo ld m sd nm lv rk bb rd => (rdO es ⟨tt, pe, pr, mo, ld, m, sd, nm, lv, rk, bb, rd, 0⟩).bb) (fun es tt pe pr mo ld m sd nm lv rk bb rd => (rdO es ⟨tt, pe, pr, mo, ld, m, sd, nm, lv, rk, bb, rd, 0⟩).rd) (fun es tt pe pr mo ld m sd nm lv rk bb rd => (rdO es ⟨tt, pe, pr, mo, ld, m, sd, nm, lv, rk, bb, rd, 0⟩).e)) := by
  intro fr xs h b x h1 fr1 h hb
  unfold φRdLine at h
  split at h
  · simp only [Option.some.injEq, Prod.mk.injEq] at h
    obtain ⟨rfl, rfl, rfl, rfl⟩ := h
    exact rdline_spec _ _ _ _ _ _ _ _ _ _ _ _ _ _ _ _ _ _ _ _ _ _ _ _ _ _ rfl hb
  · cases h
end Go.Proofs.YtljidkmppeaecaaDoor

