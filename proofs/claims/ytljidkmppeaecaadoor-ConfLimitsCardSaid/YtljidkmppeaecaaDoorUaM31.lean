/- The library of this claim and its walks, part 31, joined out of smaller texts. No statement stands in it. -/
import Derived.Test.YtljidkmppeaecaaDoorUaM25
import Derived.Test.YtljidkmppeaecaaDoorUaM27
import Derived.Test.YtljidkmppeaecaaDoorUaM29
import Derived.Test.YtljidkmppeaecaaDoorUaM30
/- conf: the line of a level. -/
namespace Go.Proofs.YtljidkmppeaecaaDoor
open Go Go.Proofs Go.Ua Go.Extern
set_option linter.unusedVariables false
set_option linter.unusedSimpArgs false
set_option maxRecDepth 10000

def lvA (w : List Wd) (ld : List Dat) : List Dat := if kindL w = 0 then ld else ld ++ [(lvOf w).dat]
def lvP (es ld : List Dat) : Bool := isStrs es && (isLv ld && (decide (0 < es.length) && (decide (es.length ≤ 1000000) && decide (ld.length ≤ 100))))
def lvQ (es ld : List Dat) : Int := levE ⟨0, 0, 0, 0, unLv ld, []⟩ (unStr es)
theorem kindL_k (w : List Wd) : kindL w = 0 ∨ (kindL w = 1 ∧ w.length = 3) ∨ (kindL w = 2 ∧ w.length = 6) ∨ (kindL w = 3 ∧ w.length = 11) := by
  unfold kindL
  split
  · rename_i h
    exact .inr (.inl ⟨rfl, h.1⟩)
  · split
    · rename_i h
      exact .inr (.inr (.inl ⟨rfl, h.1⟩))
    · split
      · rename_i h
        exact .inr (.inr (.inr ⟨rfl, h.1⟩))
      · exact .inl rfl
def st (x : Int) (b : Bool) : Int := if x = 0 then (if b = true then 0 else 8) else x
theorem st_st (x : Int) (b c : Bool) : st (st x b) c = st x (b && c) := by
  unfold st
  by_cases h : x = 0 <;> cases b <;> cases c <;> simp [h]
theorem rn_st (es : List Dat) (av lf a b : Int) : rnE es av lf a b = st lf (numB (nxV es av) a b) := by
  unfold rnE st failV
  cases numB (nxV es av) a b <;> by_cases h : lf = 0 <;> simp [h]
theorem rb_st (es : List Dat) (av lf : Int) : rbE es av lf = st lf (borB (nxV es av)) := by
  unfold rbE st failV
  cases borB (nxV es av) <;> by_cases h : lf = 0 <;> simp [h]
theorem lvOf_nm (w : List Wd) : (lvOf w).nm = wAt w 1 := by
  unfold lvOf
  split
  · rfl
  · split <;> rfl
/-- The first fault of a level's words. -/
def LE1 (w : List Wd) : Int := if nameF (wAt w 1) = false then 4 else if kindL w ≠ 1 ∧ limB w = false then 8 else if kindL w = 3 ∧ queB w = false then 8 else 0
def LE2 (w : List Wd) (l : List Lv) : Int := if LE1 w = 0 then (if hasL l (wAt w 1) = true then 5 else 0) else LE1 w
theorem levE_eq {w : List Wd} {l : List Lv} (hk : kindL w ≠ 0) : levE ⟨0, 0, 0, 0, l, []⟩ w = if LE2 w l = 0 then (if 16 ≤ l.length then 3 else 0) else LE2 w l := by
  unfold levE LE2 LE1
  rw [if_neg hk]
  repeat' split
  all_goals first
    | rfl
    | (exfalso; simp_all; done)
    | simp_all
set_option maxHeartbeats 4000000 in
set_option cbv.maxSteps 10000000 in
set_option maxRecDepth 100000 in
theorem rdlevel_spec (tt pe pr mo : Int) (es : List Dat) (ld : List Dat) (m : Nat) (sd : List Dat) (nm lv : Wd) (rk bb : Int) (rd : List Dat) (h : lvP es ld = true) : ASpec Tryd.prog 34 [.ptr 0 0 0 9] [(0, .cs 59 [.d (.s (.int .i64 tt)), .d (.s (.int .i64 pe)), .d (.s (.int .i64 pr)), .d (.s (.int .i64 mo)), .row 1 10, .row 2 5, .d (.view 1 es), .d (.s (.int .i64 0)), .d (.s (.int .i64 0))]), (1, .ds 34 10 ld), (2, .xs 37 5 m sd [.d (.s (.str nm)), .d (.s (.str lv)), .d (.s (.int .i64 rk)), .d (.s (.int .i64 bb)), .row 3 5]), (3, .ds 40 5 rd)] 4 (fun y h1 fr1 => y = .tup [] ∧ h1 = [(0, .cs 59 [.d (.s (.int .i64 tt)), .d (.s (.int .i64 pe)), .d (.s (.int .i64 pr)), .d (.s (.int .i64 mo)), .row 4 10, .row 2 5, .d (.view 1 es), .any, .d (.s (.int .i64 (lvQ es ld)))]), (2, .xs 37 5 m sd [.d (.s (.str nm)), .d (.s (.str lv)), .d (.s (.int .i64 rk)), .d (.s (.int .i64 bb)), .row 3 5]), (3, .ds 40 5 rd), (4, .ds 34 10 (lvA (unStr es) ld))] ∧ fr1 = 5) := by
  obtain ⟨uRdFail, huRdFail⟩ : ∃ u : Int → Int → Int, u = failV := ⟨_, rfl⟩
  obtain ⟨uRdNumber, huRdNumber⟩ : ∃ u : List Dat → Int → Bool, u = nxP := ⟨_, rfl⟩
  obtain ⟨uRdNumber1, huRdNumber1⟩ : ∃ u : List Dat → Int → Int → Int → Int, u = fun es av a b => numV (nxV es av) a b := ⟨_, rfl⟩
  obtain ⟨uRdNumber2, huRdNumber2⟩ : ∃ u : Int → Int, u = fun a => a + 1 := ⟨_, rfl⟩
  obtain ⟨uRdNumber3, huRdNumber3⟩ : ∃ u : List Dat → Int → Int → Int → Int → Int, u = rnE := ⟨_, rfl⟩
  obtain ⟨uRdName, huRdName⟩ : ∃ u : List Dat → Int → Bool, u = nxP := ⟨_, rfl⟩
  obtain ⟨uRdName1, huRdName1⟩ : ∃ u : List Dat → Int → Wd, u = nxV := ⟨_, rfl⟩
  obtain ⟨uRdName2, huRdName2⟩ : ∃ u : Int → Int, u = fun a => a + 1 := ⟨_, rfl⟩
  obtain ⟨uRdName3, huRdName3⟩ : ∃ u : List Dat → Int → Int → Int, u = rnmE := ⟨_, rfl⟩
  obtain ⟨uRdBorrow, huRdBorrow⟩ : ∃ u : List Dat → Int → Bool, u = nxP := ⟨_, rfl⟩
  obtain ⟨uRdBorrow1, huRdBorrow1⟩ : ∃ u : List Dat → Int → Int, u = fun es av => borV (nxV es av) := ⟨_, rfl⟩
  obtain ⟨uRdBorrow2, huRdBorrow2⟩ : ∃ u : Int → Int, u = fun a => a + 1 := ⟨_, rfl⟩
  obtain ⟨uRdBorrow3, huRdBorrow3⟩ : ∃ u : List Dat → Int → Int → Int, u = rbE := ⟨_, rfl⟩
  obtain ⟨uRdKind, huRdKind⟩ : ∃ u : List Dat → Bool, u = isStrs := ⟨_, rfl⟩
  obtain ⟨uRdKind1, huRdKind1⟩ : ∃ u : List Dat → Int, u = fun es => kindL (unStr es) := ⟨_, rfl⟩
  have hG : TblOK Tryd.prog [(37, .m (φRdFail uRdFail)), (33, .m (φRdNumber uRdNumber uRdNumber1 uRdNumber2 uRdNumber3)), (51, .m (φRdName uRdName uRdName1 uRdName2 uRdName3)), (52, .m (φRdBorrow uRdBorrow uRdBorrow1 uRdBorrow2 uRdBorrow3)), (50, .p (φRdKind uRdKind uRdKind1))] := ⟨(by rw [huRdFail]; exact φRdFail_ok), (by rw [huRdNumber, huRdNumber1, huRdNumber2, huRdNumber3]; exact φRdNumber_ok), (by rw [huRdName, huRdName1, huRdName2, huRdName3]; exact φRdName_ok), (by rw [huRdBorrow, huRdBorrow1, huRdBorrow2, huRdBorrow3]; exact φRdBorrow_ok), (by rw [huRdKind, huRdKind1]; exact φRdKind_ok), trivial⟩
  simp only [lvP, Bool.and_eq_true, decide_eq_true_eq] at h
  obtain ⟨p1, p2, p3, p4, p5⟩ := h
  obtain ⟨LA, hLA⟩ : ∃ z, z = lvA (unStr es) ld := ⟨_, rfl⟩
  obtain ⟨LE, hLE⟩ : ∃ z, z = lvQ es ld := ⟨_, rfl⟩
  rw [← hLA, ← hLE]
  obtain ⟨W, hW⟩ : ∃ z, z = unStr es := ⟨_, rfl⟩
  obtain ⟨L, hL⟩ : ∃ z, z = unLv ld := ⟨_, rfl⟩
  have hes : es = strDs W := by rw [hW, strDs_unStr p1]
  have hld : ld = lvDs L := by rw [hL, lv_un p2]
  have hel : es.length = W.length := by rw [hes, strDs_length]
  have hll : ld.length = L.length := by rw [hld]; simp [lvDs]
  rw [← hW] at hLA
  rw [lvQ, ← hW, ← hL] at hLE
  refine ASpec.enterK Tryd.func34 (by kernel_rfl) rfl (Nat.le_of_ble_eq_true rfl) fun hok cx hnt hfr => ?_
  obtain ⟨F, hF⟩ := real_ex
  refine AK.runTn hF tabOK hmix hnt [12] false _ hG (Nat.le_of_eq hfr) ?_
  conv => arg 4; cbv
  have eK : uRdKind1 es = kindL W := by rw [huRdKind1, hW]
  obtain ⟨kd, hkd⟩ : ∃ z, z = kindL W := ⟨_, rfl⟩
  rw [eK, ← hkd]
  refine AKt.need (by rw [huRdKind]; exact p1) fun _ => ?_
  refine AKt.node (fun c0 => ?_) (fun c0 => ?_)
  · have k0 : kindL W = 0 := by rw [hF, f_eqI] at c0; rw [← hkd]; exact of_decide_eq_true c0
    have e1 : uRdFail 0 2 = LE := by rw [huRdFail, hLE, levE, if_pos k0]; rfl
    rw [e1]
    repeat' (first | with_reducible (first | refine AKt.have ?_ | refine AKt.tt ?_ | refine AKt.ff ?_ | refine AKt.yes (by assumption) ?_ | refine AKt.no (by assumption) ?_ | refine AKt.node (fun hb => ?_) (fun hb => ?_) | refine AKt.need ?_ (fun hb => ?_) | refine AKt.leaf ?_) | ((with_reducible show _ = true); assumption))
    refine AKp.anew 1 0 4 rfl rfl rfl (by decide) (Nat.le_of_ble_eq_true rfl) ?_
    conv => arg 4; arg 2; cbv
    refine AKp.dim 0 7 rfl ?_
    conv => arg 4; arg 2; cbv
    have e2 : ld = LA := by rw [hLA, lvA, if_pos k0]
    rw [e2]
    first | refine AKp.doneI tabOK [0, 1, 2, 3, 5] hfr (by rfl) (by rfl) (by rfl) rfl rfl rfl ?_ ?_ | refine AKp.endI tabOK [0, 1, 2, 3, 5] hfr (by rfl) (by rfl) (by rfl) rfl rfl rfl ?_ ?_
    all_goals show _ = _
    · rfl
    · rfl
  have k0 : ¬ kindL W = 0 := by rw [hF, f_eqI] at c0; rw [← hkd]; exact of_decide_eq_false c0
  rw [levE_eq k0] at hLE
  refine exK ?K12 fun k12 hK12 => ?_
  rotate_left
  have rest12 : ∀ (x0 : Wd) (x1 x2 x3 x4 x5 x6 x7 x8 x9 av lf : Int), (⟨x0, x1, x2, x3, x4, x5, x6, x7, x8, x9⟩ : Lv) = lvOf W → lf = LE1 W → AK Tryd.prog cx (fin Tryd.prog Tryd.f34 cx fun y h1 fr1 => y = .tup [] ∧ h1 = [(0, .cs 59 [.d (.s (.int .i64 tt)), .d (.s (.int .i64 pe)), .d (.s (.int .i64 pr)), .d (.s (.int .i64 mo)), .row 4 10, .row 2 5, .d (.view 1 es), .any, .d (.s (.int .i64 LE))]), (2, .xs 37 5 m sd [.d (.s (.str nm)), .d (.s (.str lv)), .d (.s (.int .i64 rk)), .d (.s (.int .i64 bb)), .row 3 5]), (3, .ds 40 5 rd), (4, .ds 34 10 LA)] ∧ fr1 = 5) k12 ⟨[(0, .ptr 0 0 0 9), (2, .ptr 4 0 0 10)], [(4, .cs 34 [.d (.s (.str x0)), .d (.s (.int .i64 x1)), .d (.s (.int .i64 x2)), .d (.s (.int .i64 x3)), .d (.s (.int .i64 x4)), .d (.s (.int .i64 x5)), .d (.s (.int .i64 x6)), .d (.s (.int .i64 x7)), .d (.s (.int .i64 x8)), .d (.s (.int .i64 x9))]), (0, .cs 59 [.d (.s (.int .i64 tt)), .d (.s (.int .i64 pe)), .d (.s (.int .i64 pr)), .d (.s (.int .i64 mo)), .row 1 10, .row 2 5, .d (.view 1 es), .d (.s (.int .i64 av)), .d (.s (.int .i64 lf))]), (1, .ds 34 10 ld), (2, .xs 37 5 m sd [.d (.s (.str nm)), .d (.s (.str lv)), .d (.s (.int .i64 rk)), .d (.s (.int .i64 bb)), .row 3 5]), (3, .ds 40 5 rd)], 5⟩ := ?r12
  have nx : ∀ i : Nat, nxV es (i : Int) = wAt W (i + 1) := fun i => by
    rw [nxV, ← hW]
    rfl
  have n0 : nxV es 0 = wAt W 1 := nx 0
  have n1 : nxV es 1 = wAt W 2 := nx 1
  have n2 : nxV es 2 = wAt W 3 := nx 2
  have n3 : nxV es 3 = wAt W 4 := nx 3
  have n5 : nxV es 5 = wAt W 6 := nx 5
  have n6 : nxV es 6 = wAt W 7 := nx 6
  have n7 : nxV es 7 = wAt W 8 := nx 7
  have n8 : nxV es 8 = wAt W 9 := nx 8
  have n9 : nxV es 9 = wAt W 10 := nx 9
  have qn : ∀ i : Nat, i + 1 < W.length → nxP es i = true := fun i hi => by
    simp only [nxP, p1, Bool.true_and, Bool.and_eq_true, decide_eq_true_eq]
    omega
  have q0 : 1 < W.length → uRdName es 0 = true := fun h => by rw [huRdName]; exact qn 0 h
  have q1 : 2 < W.length → uRdNumber es 1 = true := fun h => by rw [huRdNumber]; exact qn 1 h
  have q2 : 3 < W.length → uRdNumber es 2 = true := fun h => by rw [huRdNumber]; exact qn 2 h
  have q3 : 4 < W.length → uRdBorrow es 3 = true := fun h => by rw [huRdBorrow]; exact qn 3 h
  have q5 : 6 < W.length → uRdNumber es 5 = true := fun h => by rw [huRdNumber]; exact qn 5 h
  have q6 : 7 < W.length → uRdNumber es 6 = true := fun h => by rw [huRdNumber]; exact qn 6 h
  have q7 : 8 < W.length → uRdNumber es 7 = true := fun h => by rw [huRdNumber]; exact qn 7 h
  have q8 : 9 < W.length → uRdNumber es 8 = true := fun h => by rw [huRdNumber]; exact qn 8 h
  have q9 : 10 < W.length → uRdNumber es 9 = true := fun h => by rw [huRdNumber]; exact qn 9 h
  have a0 : uRdName2 0 = 1 := by rw [huRdName2]; rfl
  have a1 : uRdNumber2 1 = 2 := by rw [huRdNumber2]; rfl
  have a2 : uRdNumber2 2 = 3 := by rw [huRdNumber2]; rfl
  have a3 : uRdBorrow2 3 = 4 := by rw [huRdBorrow2]; rfl
  have a4 : F .wrap .i64 (F .add 4 1) = 5 := by rw [hF]; rfl
  have a5 : uRdNumber2 5 = 6 := by rw [huRdNumber2]; rfl
  have a6 : uRdNumber2 6 = 7 := by rw [huRdNumber2]; rfl
  have a7 : uRdNumber2 7 = 8 := by rw [huRdNumber2]; rfl
  have a8 : uRdNumber2 8 = 9 := by rw [huRdNumber2]; rfl
  have a9 : uRdNumber2 9 = 10 := by rw [huRdNumber2]; rfl
  rw [a0, a1, a2, a3, a4, a5, a6, a7, a8, a9]
  have eqk : ∀ n : Int, F .eqI kd n = decide (kindL W = n) := fun n => by
    rw [hF, f_eqI, hkd]
    rfl
  rw [eqk, eqk]
  obtain ⟨L1, hL1⟩ : ∃ z, z = uRdName3 es 0 0 := ⟨_, rfl⟩
  obtain ⟨L2, hL2⟩ : ∃ z, z = uRdNumber3 es 1 L1 0 10000 := ⟨_, rfl⟩
  obtain ⟨L3, hL3⟩ : ∃ z, z = uRdNumber3 es 2 L2 0 100 := ⟨_, rfl⟩
  obtain ⟨L4, hL4⟩ : ∃ z, z = uRdBorrow3 es 3 L3 := ⟨_, rfl⟩
  obtain ⟨L5, hL5⟩ : ∃ z, z = uRdNumber3 es 5 L4 1 64 := ⟨_, rfl⟩
  obtain ⟨L6, hL6⟩ : ∃ z, z = uRdNumber3 es 6 L5 1 8 := ⟨_, rfl⟩
  obtain ⟨L7, hL7⟩ : ∃ z, z = uRdNumber3 es 7 L6 1 64 := ⟨_, rfl⟩
  obtain ⟨L8, hL8⟩ : ∃ z, z = uRdNumber3 es 8 L7 1 1000 := ⟨_, rfl⟩
  obtain ⟨L9, hL9⟩ : ∃ z, z = uRdNumber3 es 9 L8 1 1000 := ⟨_, rfl⟩
  rw [← hL1, ← hL2, ← hL3, ← hL4, ← hL5, ← hL6, ← hL7, ← hL8, ← hL9]
  have g1 : L1 = if nameF (wAt W 1) = true then 0 else 4 := by rw [hL1, huRdName3, rnmE, n0]; rfl
  have g4 : L4 = st L1 (limB W) := by
    rw [hL4, huRdBorrow3, rb_st, hL3, huRdNumber3, rn_st, hL2, huRdNumber3, rn_st, n1, n2, n3, st_st, st_st, limB]
  have g9 : L9 = st L4 (queB W) := by
    rw [hL9, huRdNumber3, rn_st, hL8, huRdNumber3, rn_st, hL7, huRdNumber3, rn_st, hL6, huRdNumber3, rn_st, hL5, huRdNumber3, rn_st, n5, n6, n7, n8, n9, st_st, st_st, st_st, st_st, queB]
  obtain ⟨v0, hv0⟩ : ∃ z, z = uRdName1 es 0 := ⟨_, rfl⟩
  obtain ⟨v2, hv2⟩ : ∃ z, z = uRdNumber1 es 1 0 10000 := ⟨_, rfl⟩
  obtain ⟨v3, hv3⟩ : ∃ z, z = uRdNumber1 es 2 0 100 := ⟨_, rfl⟩
  obtain ⟨v4, hv4⟩ : ∃ z, z = uRdBorrow1 es 3 := ⟨_, rfl⟩
  obtain ⟨v5, hv5⟩ : ∃ z, z = uRdNumber1 es 5 1 64 := ⟨_, rfl⟩
  obtain ⟨v6, hv6⟩ : ∃ z, z = uRdNumber1 es 6 1 8 := ⟨_, rfl⟩
  obtain ⟨v7, hv7⟩ : ∃ z, z = uRdNumber1 es 7 1 64 := ⟨_, rfl⟩
  obtain ⟨v8, hv8⟩ : ∃ z, z = uRdNumber1 es 8 1 1000 := ⟨_, rfl⟩
  obtain ⟨v9, hv9⟩ : ∃ z, z = uRdNumber1 es 9 1 1000 := ⟨_, rfl⟩
  rw [← hv0, ← hv2, ← hv3, ← hv4, ← hv5, ← hv6, ← hv7, ← hv8, ← hv9]
  rw [huRdName1, n0] at hv0
  rw [huRdNumber1] at hv2 hv3 hv5 hv6 hv7 hv8 hv9
  rw [huRdBorrow1] at hv4
  simp only [n1, n2, n3, n5, n6, n7, n8, n9] at hv2 hv3 hv4 hv5 hv6 hv7 hv8 hv9
  rcases kindL_k W with g | ⟨g, gl⟩ | ⟨g, gl⟩ | ⟨g, gl⟩
  · exact absurd g k0
  · have e3 : decide (kindL W = 3) = false := by rw [g]; rfl
    have e2 : decide (kindL W = 2) = false := by rw [g]; rfl
    rw [e3, e2]
    have r0 := q0 (by omega)
    have hkd1 : kd = 1 := by rw [hkd, g]
    repeat' (first | with_reducible (first | refine AKt.have ?_ | refine AKt.tt ?_ | refine AKt.ff ?_ | refine AKt.yes (by assumption) ?_ | refine AKt.no (by assumption) ?_ | refine AKt.node (fun hb => ?_) (fun hb => ?_) | refine AKt.need ?_ (fun hb => ?_) | refine AKt.leaf ?_) | ((with_reducible show _ = true); assumption))
    refine AKp.joinN hK12 _ (by rw [hfr]; exact Nat.le_of_ble_eq_true rfl) ?_ ?_ (rest12 v0 kd 0 0 0 0 0 0 0 0 1 L1 (by rw [lvOf, if_pos g, hv0, hkd1]) (by rw [g1, LE1]; cases nameF (wAt W 1) <;> simp [g]))
    · repeat (first | exact True.intro | refine ⟨⟨rfl, rfl⟩, ?_⟩)
    · repeat (first | exact True.intro | refine ⟨⟨rfl, rfl, rfl⟩, ?_⟩)
  · have e3 : decide (kindL W = 3) = false := by rw [g]; rfl
    have e2 : decide (kindL W = 2) = true := by rw [g]; rfl
    rw [e3, e2]
    have r0 := q0 (by omega)
    have r1 := q1 (by omega)
    have r2 := q2 (by omega)
    have r3 := q3 (by omega)
    have hkd1 : kd = 2 := by rw [hkd, g]
    repeat' (first | with_reducible (first | refine AKt.have ?_ | refine AKt.tt ?_ | refine AKt.ff ?_ | refine AKt.yes (by assumption) ?_ | refine AKt.no (by assumption) ?_ | refine AKt.node (fun hb => ?_) (fun hb => ?_) | refine AKt.need ?_ (fun hb => ?_) | refine AKt.leaf ?_) | ((with_reducible show _ = true); assumption))
    refine AKp.joinN hK12 _ (by rw [hfr]; exact Nat.le_of_ble_eq_true rfl) ?_ ?_ (rest12 v0 kd v2 v3 v4 0 0 0 0 0 4 L4 (by rw [lvOf, if_neg (by rw [g]; decide), if_pos g, hv0, hkd1, hv2, hv3, hv4]) (by rw [g4, g1, LE1, st]; cases nameF (wAt W 1) <;> cases limB W <;> simp [g]))
    · repeat (first | exact True.intro | refine ⟨⟨rfl, rfl⟩, ?_⟩)
    · repeat (first | exact True.intro | refine ⟨⟨rfl, rfl, rfl⟩, ?_⟩)
  · have e3 : decide (kindL W = 3) = true := by rw [g]; rfl
    have e2 : decide (kindL W = 2) = false := by rw [g]; rfl
    rw [e3, e2]
    have r0 := q0 (by omega)
    have r1 := q1 (by omega)
    have r2 := q2 (by omega)
    have r3 := q3 (by omega)
    have r5 := q5 (by omega)
    have r6 := q6 (by omega)
    have r7 := q7 (by omega)
    have r8 := q8 (by omega)
    have r9 := q9 (by omega)
    have hkd1 : kd = 3 := by rw [hkd, g]
    repeat' (first | with_reducible (first | refine AKt.have ?_ | refine AKt.tt ?_ | refine AKt.ff ?_ | refine AKt.yes (by assumption) ?_ | refine AKt.no (by assumption) ?_ | refine AKt.node (fun hb => ?_) (fun hb => ?_) | refine AKt.need ?_ (fun hb => ?_) | refine AKt.leaf ?_) | ((with_reducible show _ = true); assumption))
    refine AKp.joinN hK12 _ (by rw [hfr]; exact Nat.le_of_ble_eq_true rfl) ?_ ?_ (rest12 v0 kd v2 v3 v4 v5 v6 v7 v8 v9 10 L9 (by rw [lvOf, if_neg (by rw [g]; decide), if_neg (by rw [g]; decide), hv0, hkd1, hv2, hv3, hv4, hv5, hv6, hv7, hv8, hv9]) (by rw [g9, g4, g1, LE1, st, st]; cases nameF (wAt W 1) <;> cases limB W <;> cases queB W <;> simp [g]))
    · repeat (first | exact True.intro | refine ⟨⟨rfl, rfl⟩, ?_⟩)
    · repeat (first | exact True.intro | refine ⟨⟨rfl, rfl, rfl⟩, ?_⟩)
  case' r12 =>
    intro x0 x1 x2 x3 x4 x5 x6 x7 x8 x9 av lf hx hlf
    have hx0 : x0 = wAt W 1 := by rw [← lvOf_nm, ← hx]
    rw [hK12]
    refine AK.runTn hF tabOK hmix hnt [18] false _ hG (by rw [hfr]; exact Nat.le_of_ble_eq_true rfl) ?_
    conv => arg 4; cbv
    repeat' (first | with_reducible (first | refine AKt.have ?_ | refine AKt.tt ?_ | refine AKt.ff ?_ | refine AKt.yes (by assumption) ?_ | refine AKt.no (by assumption) ?_ | refine AKt.node (fun hb => ?_) (fun hb => ?_) | refine AKt.need ?_ (fun hb => ?_) | refine AKt.leaf ?_) | ((with_reducible show _ = true); assumption))
    refine AKp.enterLoop 64 ?_
    conv => arg 7; cbv
    refine AKl.invTs hF tabOK hmix hnt (Nat.le_trans (Nat.le_of_eq hfr) (Nat.le_of_ble_eq_true rfl)) [18] false _ hG (fun n vs hs => ∃ (i : Nat) (iv lf : Int), i + n = L.length ∧ iv = i ∧ lf = LE2 W (L.take i) ∧ vs = [(64, .d (.s (.int .i64 iv)))] ∧ hs = [(4, .cs 34 [.d (.s (.str x0)), .d (.s (.int .i64 x1)), .d (.s (.int .i64 x2)), .d (.s (.int .i64 x3)), .d (.s (.int .i64 x4)), .d (.s (.int .i64 x5)), .d (.s (.int .i64 x6)), .d (.s (.int .i64 x7)), .d (.s (.int .i64 x8)), .d (.s (.int .i64 x9))]), (0, .cs 59 [.d (.s (.int .i64 tt)), .d (.s (.int .i64 pe)), .d (.s (.int .i64 pr)), .d (.s (.int .i64 mo)), .row 1 10, .row 2 5, .d (.view 1 es), .d (.s (.int .i64 av)), .d (.s (.int .i64 lf))]), (1, .ds 34 10 ld), (2, .xs 37 5 m sd [.d (.s (.str nm)), .d (.s (.str lv)), .d (.s (.int .i64 rk)), .d (.s (.int .i64 bb)), .row 3 5]), (3, .ds 40 5 rd)]) L.length ⟨0, _, lf, by omega, rfl, by rw [hlf, LE2]; by_cases h : LE1 W = 0 <;> simp [h, hasL], rfl, rfl⟩ (by repeat (first | exact True.intro | refine ⟨⟨rfl, rfl⟩, ?_⟩)) (by repeat (first | exact True.intro | refine ⟨⟨rfl, rfl, rfl⟩, ?_⟩)) ?_
    rintro J n vs hs hJ ⟨i, iv, lf, hi, hiv, hlf, rfl, rfl⟩
    conv => arg 4; cbv
    refine AKt.node (fun hb => ?_) (fun hb => ?_)
    · have hlt : i < L.length := by rw [hF, f_ltI, f_lenD, hll, hiv] at hb; have := of_decide_eq_true hb; omega
      obtain ⟨x, hx⟩ : ∃ x, L[i]? = some x := ⟨_, List.getElem?_eq_getElem hlt⟩
      have htk := hasL_take (n := wAt W 1) hx
      obtain ⟨y0, y1, y2, y3, y4, y5, y6, y7, y8, y9⟩ := x
      have hin : F .inL ld iv = some i := by
        rw [hF]
        show (if 0 ≤ iv ∧ iv < (ld.length : Int) then some iv.toNat else none) = some i
        rw [if_pos (by omega), hiv, Int.toNat_natCast]
      have hpd : ld[i]? = some (.agg [.s (.str y0), .s (.int .i64 y1), .s (.int .i64 y2), .s (.int .i64 y3), .s (.int .i64 y4), .s (.int .i64 y5), .s (.int .i64 y6), .s (.int .i64 y7), .s (.int .i64 y8), .s (.int .i64 y9)]) := by rw [hld, lvDs, List.getElem?_map, hx]; rfl
      conv at hpd => lhs; cbv
      refine AKt.leaf ?_
      refine AKp.stepO hF tabOK hnt rfl ?_
      conv => arg 5; cbv
      rw [hin]
      conv => arg 5; cbv
      refine .some ?_
      refine AK.runTn hF tabOK hmix hnt [] false _ hG (by rw [hfr]; exact Nat.le_of_ble_eq_true rfl) ?_
      conv => arg 4; cbv
      rw [hpd]
      conv => arg 4; cbv
      have hx0' : x0 = wAt W 1 := hx0
      refine AKt.node (fun c1 => ?_) (fun c1 => ?_)
      · have d1 : y0 = wAt W 1 := by rw [hF, f_eqS] at c1; rw [← hx0]; exact eq_of_beq c1
        repeat' (first | with_reducible (first | refine AKt.have ?_ | refine AKt.tt ?_ | refine AKt.ff ?_ | refine AKt.yes (by assumption) ?_ | refine AKt.no (by assumption) ?_ | refine AKt.node (fun hb => ?_) (fun hb => ?_) | refine AKt.need ?_ (fun hb => ?_) | refine AKt.leaf ?_) | ((with_reducible show _ = true); assumption))
        refine AKp.againL _ (by rw [hfr]; exact Nat.le_of_ble_eq_true rfl) (by repeat (first | exact True.intro | refine ⟨⟨rfl, rfl⟩, ?_⟩)) (by repeat (first | exact True.intro | refine ⟨⟨rfl, rfl, rfl⟩, ?_⟩)) (hJ (n - 1) _ _ (by omega) ⟨i + 1, _, uRdFail lf 5, by omega, inc_i hF hiv (by omega), ?_, rfl, rfl⟩)
        rw [huRdFail, hlf, LE2, LE2, htk, d1]
        unfold failV
        by_cases h1 : LE1 W = 0 <;> cases hasL (L.take i) (wAt W 1) <;> simp [h1]
      · have d1 : ¬ y0 = wAt W 1 := by rw [hF, f_eqS] at c1; rw [← hx0]; intro h; rw [h, beq_self_eq_true] at c1; cases c1
        repeat' (first | with_reducible (first | refine AKt.have ?_ | refine AKt.tt ?_ | refine AKt.ff ?_ | refine AKt.yes (by assumption) ?_ | refine AKt.no (by assumption) ?_ | refine AKt.node (fun hb => ?_) (fun hb => ?_) | refine AKt.need ?_ (fun hb => ?_) | refine AKt.leaf ?_) | ((with_reducible show _ = true); assumption))
        refine AKp.againL _ (by rw [hfr]; exact Nat.le_of_ble_eq_true rfl) (by repeat (first | exact True.intro | refine ⟨⟨rfl, rfl⟩, ?_⟩)) (by repeat (first | exact True.intro | refine ⟨⟨rfl, rfl, rfl⟩, ?_⟩)) (hJ (n - 1) _ _ (by omega) ⟨i + 1, _, lf, by omega, inc_i hF hiv (by omega), ?_, rfl, rfl⟩)
        rw [hlf, LE2, LE2, htk]
        simp [d1]
    · have hge : ¬ i < L.length := by rw [hF, f_ltI, f_lenD, hll, hiv] at hb; have := of_decide_eq_false hb; omega
      rw [List.take_of_length_le (show L.length ≤ i by omega)] at hlf
      have ap : ∀ a b, F .appD a b = a ++ b := fun a b => by rw [hF]; rfl
      have hLA2 : ld ++ [.agg [.s (.str x0), .s (.int .i64 x1), .s (.int .i64 x2), .s (.int .i64 x3), .s (.int .i64 x4), .s (.int .i64 x5), .s (.int .i64 x6), .s (.int .i64 x7), .s (.int .i64 x8), .s (.int .i64 x9)]] = LA := by
        rw [hLA, lvA, if_neg k0, ← hx]
        rfl
      repeat' (first | with_reducible (first | refine AKt.have ?_ | refine AKt.tt ?_ | refine AKt.ff ?_ | refine AKt.yes (by assumption) ?_ | refine AKt.no (by assumption) ?_ | refine AKt.node (fun hb => ?_) (fun hb => ?_) | refine AKt.need ?_ (fun hb => ?_) | refine AKt.leaf ?_) | ((with_reducible show _ = true); assumption))
      refine AK.runTn hF tabOK hmix hnt [20] false _ hG (by rw [hfr]; exact Nat.le_of_ble_eq_true rfl) ?_
      conv => arg 4; cbv
      refine AKt.node (fun c2 => ?g1) (fun c2 => ?g2)
      case' g1 =>
        have d2 : 16 ≤ L.length := by rw [hF, f_leI, f_lenD, hll] at c2; have := of_decide_eq_true c2; omega
        have hle : uRdFail lf 3 = LE := by
          rw [huRdFail, hLE, hlf, if_pos d2]
          unfold failV
          split <;> rfl
        rw [hle]
        refine AKt.need rfl fun _ => AKt.leaf ?_
      case' g2 =>
        have d2 : ¬ 16 ≤ L.length := by rw [hF, f_leI, f_lenD, hll] at c2; have := of_decide_eq_false c2; omega
        have hle : lf = LE := by
          rw [hLE, hlf, if_neg d2]
          split
          · assumption
          · rfl
        rw [hle]
        refine AKt.leaf ?_
      all_goals
        refine AKp.runD2 hF tabOK hmix hnt false _ hG (Nat.le_trans (Nat.le_of_eq hfr) (Nat.le_of_ble_eq_true rfl)) ?_
        conv => arg 4; cbv
        rw [ap, hLA2]
        have hfit : F .fits 88 LA = true := t_fits hF (by rw [← hLA2, List.length_append]; simp only [List.length_singleton]; omega)
        refine AKt.need hfit fun _ => ?_
        refine AKt.leaf ?_
        refine AKp.dim 0 7 rfl ?_
        conv => arg 4; arg 2; cbv

        first | refine AKp.doneI tabOK [0, 1, 2, 3, 5] hfr (by rfl) (by rfl) (by rfl) rfl rfl rfl ?_ ?_ | refine AKp.endI tabOK [0, 1, 2, 3, 5] hfr (by rfl) (by rfl) (by rfl) rfl rfl rfl ?_ ?_
        all_goals show _ = _
        · rfl
        · rfl
def φRdLevel (p : List Dat → List Dat → Bool) (u : List Dat → List Dat → Int) (v : List Dat → List Dat → List Dat) : Nat → List AV → List (Nat × Blk) → Option (Bool × AV × List (Nat × Blk) × Nat)
  | 4, [.ptr 0 0 0 9], [(0, .cs 59 [.d (.s (.int .i64 tt)), .d (.s (.int .i64 pe)), .d (.s (.int .i64 pr)), .d (.s (.int .i64 mo)), .row 1 10, .row 2 5, .d (.view 1 es), .d (.s (.int .i64 0)), .d (.s (.int .i64 0))]), (1, .ds 34 10 ld), (2, .xs 37 5 m sd [.d (.s (.str nm)), .d (.s (.str lv)), .d (.s (.int .i64 rk)), .d (.s (.int .i64 bb)), .row 3 5]), (3, .ds 40 5 rd)] => some (p es ld, .tup [], [(0, .cs 59 [.d (.s (.int .i64 tt)), .d (.s (.int .i64 pe)), .d (.s (.int .i64 pr)), .d (.s (.int .i64 mo)), .row 4 10, .row 2 5, .d (.view 1 es), .any, .d (.s (.int .i64 (u es ld)))]), (2, .xs 37 5 m sd [.d (.s (.str nm)), .d (.s (.str lv)), .d (.s (.int .i64 rk)), .d (.s (.int .i64 bb)), .row 3 5]), (3, .ds 40 5 rd), (4, .ds 34 10 (v es ld))], 5)
  | _, _, _ => none
theorem φRdLevel_ok : MSpOK Tryd.prog 34 (φRdLevel (lvP) (lvQ) (fun es ld => lvA (unStr es) ld)) := by
  intro fr xs h b x h1 fr1 h hb
  unfold φRdLevel at h
  split at h
  · simp only [Option.some.injEq, Prod.mk.injEq] at h
    obtain ⟨rfl, rfl, rfl, rfl⟩ := h
    exact rdlevel_spec _ _ _ _ _ _ _ _ _ _ _ _ _ hb
  · cases h
end Go.Proofs.YtljidkmppeaecaaDoor

/- Lines of words: plain laws; lists of bytes. -/
namespace Go.Proofs.YtljidkmppeaecaaDoor
open Go Go.Proofs Go.Ua Go.Extern
set_option linter.unusedVariables false
set_option linter.unusedSimpArgs false

end Go.Proofs.YtljidkmppeaecaaDoor

/- The lines of a configuration as the document tells them; what is formed by them: plain laws. -/
namespace Go.Proofs.YtljidkmppeaecaaDoor
open Go Go.Proofs Go.Ua Go.Extern
set_option linter.unusedVariables false
set_option linter.unusedSimpArgs false

/-! ### The lines -/
/-! ### Are two the same? -/
def sameL (a b : Lv) : Bool := decide (a.nm = b.nm) && (decide (a.kd = b.kd) && (decide (a.sh = b.sh) && (decide (a.ld = b.ld) && (decide (a.bo = b.bo) && (decide (a.qu = b.qu) && (decide (a.ha = b.ha) && (decide (a.le = b.le) && (decide (a.wa = b.wa) && decide (a.gu = b.gu)))))))))
theorem sameL_iff {a b : Lv} : sameL a b = true ↔ a = b := by
  obtain ⟨a1, a2, a3, a4, a5, a6, a7, a8, a9, a10⟩ := a
  obtain ⟨b1, b2, b3, b4, b5, b6, b7, b8, b9, b10⟩ := b
  simp only [sameL, Bool.and_eq_true, decide_eq_true_eq, Lv.mk.injEq]
instance (a b : Lv) : Decidable (a = b) := decidable_of_iff _ sameL_iff
instance (a b : Rl) : Decidable (a = b) := by
  obtain ⟨a1, a2, a3, a4, a5⟩ := a
  obtain ⟨b1, b2, b3, b4, b5⟩ := b
  exact decidable_of_iff (a1 = b1 ∧ a2 = b2 ∧ a3 = b3 ∧ a4 = b4 ∧ a5 = b5) (by simp)
instance (a b : Sm) : Decidable (a = b) := by
  obtain ⟨a1, a2, a3, a4, a5⟩ := a
  obtain ⟨b1, b2, b3, b4, b5⟩ := b
  exact decidable_of_iff (a1 = b1 ∧ a2 = b2 ∧ a3 = b3 ∧ a4 = b4 ∧ a5 = b5) (by simp)
instance (a b : Cf) : Decidable (a = b) := by
  obtain ⟨a1, a2, a3, a4, a5, a6⟩ := a
  obtain ⟨b1, b2, b3, b4, b5, b6⟩ := b
  exact decidable_of_iff (a1 = b1 ∧ a2 = b2 ∧ a3 = b3 ∧ a4 = b4 ∧ a5 = b5 ∧ a6 = b6) (by simp)
end Go.Proofs.YtljidkmppeaecaaDoor

