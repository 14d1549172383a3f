/- The library of this claim and its walks, part 18, joined out of smaller texts. No statement stands in it. -/
import Derived.Test.YtpoebpggapfooaaDoorUaM17
/- The three laws of what is told: the functions return true. -/
namespace Go.Proofs.YtpoebpggapfooaaDoor
open Go Go.Proofs Go.Ua Go.Extern
set_option linter.unusedVariables false
set_option linter.unusedSimpArgs false
set_option maxRecDepth 10000

theorem inD0 : inD 0 := ⟨by decide, by decide⟩
theorem awake_write : writeS ⟨5, 1, 7, [97], 2, 0, 0⟩ = [53, 32, 115, 116, 97, 114, 116, 101, 100, 32, 55, 32, 97, 32, 50] ∧ writeE ⟨5, 1, 7, [97], 2, 0, 0⟩ = 0 := by
  obtain ⟨h1, h2⟩ := write_ref (t := ⟨5, 1, 7, [97], 2, 0, 0⟩) inD0
  rw [h1, h2]
  have v : validB ⟨5, 1, 7, [97], 2, 0, 0⟩ = true := by decide +kernel
  rw [refS, refE, if_pos v, if_pos v]
  exact ⟨by decide +kernel, rfl⟩

set_option maxRecDepth 10000 in
theorem awake_spec : ESpec Tryd.prog 6 [] (fun x => x = .d (.s (.bool true))) := by
  obtain ⟨uWrite, huWrite⟩ : ∃ u : List UInt8 → Bool, u = lv3 := ⟨_, rfl⟩
  obtain ⟨uWrite1, huWrite1⟩ : ∃ u : Int → Int → Int → List UInt8 → Int → Int → Int → List UInt8, u = fun a k i lv s w d => writeS ⟨a, k, i, lv, s, w, d⟩ := ⟨_, rfl⟩
  obtain ⟨uWrite2, huWrite2⟩ : ∃ u : Int → Int → Int → List UInt8 → Int → Int → Int → Int, u = fun a k i lv s w d => writeE ⟨a, k, i, lv, s, w, d⟩ := ⟨_, rfl⟩
  have hG : TblOK Tryd.prog [(7, φWrite uWrite uWrite1 uWrite2)] := ⟨(by rw [huWrite, huWrite1, huWrite2]; exact φWrite_ok), trivial⟩
  have q : uWrite [97] = true := by subst huWrite huWrite1 huWrite2; decide
  have f1 : uWrite1 5 1 7 [97] 2 0 0 = [53, 32, 115, 116, 97, 114, 116, 101, 100, 32, 55, 32, 97, 32, 50] := by subst huWrite huWrite1 huWrite2; exact awake_write.1
  have f2 : uWrite2 5 1 7 [97] 2 0 0 = 0 := by subst huWrite huWrite1 huWrite2; exact awake_write.2
  refine ESpec.enter Tryd.func6 (by kernel_rfl) rfl (Nat.le_of_ble_eq_true rfl) fun hok cx hnt hfr => ?_
  obtain ⟨F, hF⟩ := real_ex
  refine AK.runT hF tabOK hmix hnt hfr false _ hG ?_
  conv => arg 4; cbv
  have eqS : ∀ b : List UInt8, F .eqS b b = true := fun b => by rw [hF, f_eqS]; simp
  have eqI : ∀ b : Int, F .eqI b b = true := fun b => by rw [hF, f_eqI]; simp
  rw [f1, f2, eqS, eqI]
  repeat' (first | with_reducible refine AKt.have ?_ | with_reducible refine AKt.tt ?_ | with_reducible refine AKt.ff ?_ | with_reducible refine AKt.yes (by assumption) ?_ | with_reducible refine AKt.no (by assumption) ?_ | with_reducible refine AKt.node (fun hb => ?_) (fun hb => ?_) | with_reducible refine AKt.need ?_ (fun hb => ?_) | with_reducible refine AKt.leaf ?_ | ((with_reducible show _ = true); assumption))
  all_goals exact AKp.doneE tabOK hfr (by rfl) (by rfl)
def φAwake27  : List AV → Option (Bool × AV)
  | [] => some (true, .d (.s (.bool true)))
  | _ => none
theorem φAwake27_ok : SpOK Tryd.prog 6 (φAwake27 ) := by
  intro xs b x h hb
  unfold φAwake27 at h
  split at h
  · simp only [Option.some.injEq, Prod.mk.injEq] at h
    obtain ⟨rfl, rfl⟩ := h
    exact awake_spec
  · cases h

theorem read_lv (s : List UInt8) : (readT s).lv.length ≤ s.length := by
  unfold readT
  split
  · exact parsed_lv fun p hp => words_le hp
  · exact Nat.zero_le _
theorem write_back {t : Tl} (h : writeE t = 0) : readT (writeS t) = t ∧ readE (writeS t) = 0 := by
  have ok : okW t = true := by
    unfold writeE at h
    split at h
    · assumption
    · exact absurd h (by decide)
  rw [writeS, if_pos ok]
  simp only [okW, Bool.and_eq_true, decide_eq_true_eq] at ok
  obtain ⟨h0, h1, h2, h3, h4, h5, h6, h7⟩ := ok
  refine ⟨?_, h0⟩
  cases hr : readT t.line
  rw [hr] at h1 h2 h3 h4 h5 h6 h7
  cases t
  simp_all
theorem read_back {s : List UInt8} (h : readE s = 0) : writeS (readT s) = s ∧ writeE (readT s) = 0 := by
  have ok : okR s = true := by
    unfold readE at h
    split at h
    · assumption
    · exact absurd h (by decide)
  obtain ⟨g1, g2, g3⟩ := read_valid ok
  have := okW_valid g2
  rw [writeS, writeE, this, g1]
  exact ⟨g3, rfl⟩
theorem read_none {s : List UInt8} (h : ¬ readE s = 0) : readT s = zeroT := by
  unfold readE at h
  unfold readT
  split at h
  · exact absurd rfl h
  · rename_i hn
    rw [if_neg hn]

set_option maxRecDepth 10000 in
theorem TraceWrites_spec (a k i : Int) (lv : List UInt8) (s w d : Int) : ESpec Tryd.prog 3 [.d (.agg [.s (.int .i64 a), .s (.int .i64 k), .s (.int .i64 i), .s (.str lv), .s (.int .i64 s), .s (.int .i64 w), .s (.int .u64 d)])] (fun x => x = .d (.s (.bool true))) := by
  obtain ⟨uWrite, huWrite⟩ : ∃ u : List UInt8 → Bool, u = lv3 := ⟨_, rfl⟩
  obtain ⟨uWrite1, huWrite1⟩ : ∃ u : Int → Int → Int → List UInt8 → Int → Int → Int → List UInt8, u = fun a k i lv s w d => writeS ⟨a, k, i, lv, s, w, d⟩ := ⟨_, rfl⟩
  obtain ⟨uWrite2, huWrite2⟩ : ∃ u : Int → Int → Int → List UInt8 → Int → Int → Int → Int, u = fun a k i lv s w d => writeE ⟨a, k, i, lv, s, w, d⟩ := ⟨_, rfl⟩
  obtain ⟨uRefWrite, huRefWrite⟩ : ∃ u : List UInt8 → Bool, u = lv3 := ⟨_, rfl⟩
  obtain ⟨uRefWrite1, huRefWrite1⟩ : ∃ u : Int → Int → Int → List UInt8 → Int → Int → Int → List UInt8, u = fun a k i lv s w d => refS ⟨a, k, i, lv, s, w, d⟩ := ⟨_, rfl⟩
  obtain ⟨uRefWrite2, huRefWrite2⟩ : ∃ u : Int → Int → Int → List UInt8 → Int → Int → Int → Int, u = fun a k i lv s w d => refE ⟨a, k, i, lv, s, w, d⟩ := ⟨_, rfl⟩
  have hG : TblOK Tryd.prog [(6, φAwake27 ), (7, φWrite uWrite uWrite1 uWrite2), (8, φRefWrite uRefWrite uRefWrite1 uRefWrite2)] := ⟨φAwake27_ok, (by rw [huWrite, huWrite1, huWrite2]; exact φWrite_ok), (by rw [huRefWrite, huRefWrite1, huRefWrite2]; exact φRefWrite_ok), trivial⟩
  refine ESpec.enter Tryd.func3 (by kernel_rfl) rfl (Nat.le_of_ble_eq_true rfl) fun hok cx hnt hfr => ?_
  obtain ⟨F, hF⟩ := real_ex
  refine AK.runT hF tabOK hmix hnt hfr false _ hG ?_
  conv => arg 4; cbv
  have hd : inD d := hok.1.2.2.2.2.2.2.1
  have eqS : ∀ b : List UInt8, F .eqS b b = true := fun b => by rw [hF, f_eqS]; simp
  have eqI : ∀ b : Int, F .eqI b b = true := fun b => by rw [hF, f_eqI]; simp
  have f1 : uRefWrite1 a k i lv s w d = uWrite1 a k i lv s w d := by subst huWrite huWrite1 huWrite2 huRefWrite huRefWrite1 huRefWrite2; exact (write_ref (t := ⟨a, k, i, lv, s, w, d⟩) hd).1.symm
  have f2 : uRefWrite2 a k i lv s w d = uWrite2 a k i lv s w d := by subst huWrite huWrite1 huWrite2 huRefWrite huRefWrite1 huRefWrite2; exact (write_ref (t := ⟨a, k, i, lv, s, w, d⟩) hd).2.symm
  rw [l_not1 hF, f1, f2, eqS, eqI]
  have q : F .ltI 1000 (F .lenS lv) = false → uWrite lv = true ∧ uRefWrite lv = true := fun h => by
    simp only [hF, f_ltI, f_leI, f_eqI, f_eqS, f_eqB, f_not, f_andB, f_orB, f_lenS, f_lenD, f_hasS, f_atS, f_hasC, f_subS, f_hasCat, f_app, f_wrap, f_add, f_sub, f_mul, f_appD, f_fits, f_hasV, f_subV, decide_eq_true_eq, decide_eq_false_iff_not, beq_iff_eq, beq_eq_false_iff_ne, Bool.and_eq_true, Bool.and_eq_false_iff, Bool.not_eq_true, Bool.not_eq_false, Bool.not_eq_eq_eq_not, Bool.not_true, Bool.not_false] at h
    subst huWrite huWrite1 huWrite2 huRefWrite huRefWrite1 huRefWrite2
    exact ⟨decide_eq_true (by omega), decide_eq_true (by omega)⟩
  refine AKt.need rfl fun _ => ?_
  refine AKt.ff ?_
  refine AKt.node (fun hb2 => ?_) (fun hb2 => ?_)
  · repeat' (first | with_reducible refine AKt.have ?_ | with_reducible refine AKt.tt ?_ | with_reducible refine AKt.ff ?_ | with_reducible refine AKt.yes (by assumption) ?_ | with_reducible refine AKt.no (by assumption) ?_ | with_reducible refine AKt.node (fun hb => ?_) (fun hb => ?_) | with_reducible refine AKt.need ?_ (fun hb => ?_) | with_reducible refine AKt.leaf ?_ | ((with_reducible show _ = true); assumption))
    exact AKp.doneE tabOK hfr (by rfl) (by rfl)
  · obtain ⟨q1, q2⟩ := q hb2
    repeat' (first | with_reducible refine AKt.have ?_ | with_reducible refine AKt.tt ?_ | with_reducible refine AKt.ff ?_ | with_reducible refine AKt.yes (by assumption) ?_ | with_reducible refine AKt.no (by assumption) ?_ | with_reducible refine AKt.node (fun hb => ?_) (fun hb => ?_) | with_reducible refine AKt.need ?_ (fun hb => ?_) | with_reducible refine AKt.leaf ?_ | ((with_reducible show _ = true); assumption))
    all_goals exact AKp.doneE tabOK hfr (by rfl) (by rfl)
set_option maxRecDepth 10000 in
theorem TraceReads_spec (s : List UInt8) : ESpec Tryd.prog 4 [.d (.s (.str s))] (fun x => x = .d (.s (.bool true))) := by
  obtain ⟨uRead, huRead⟩ : ∃ u : List UInt8 → Bool, u = le20 := ⟨_, rfl⟩
  obtain ⟨uRead1, huRead1⟩ : ∃ u : List UInt8 → Int, u = fun s => (readT s).a := ⟨_, rfl⟩
  obtain ⟨uRead2, huRead2⟩ : ∃ u : List UInt8 → Int, u = fun s => (readT s).k := ⟨_, rfl⟩
  obtain ⟨uRead3, huRead3⟩ : ∃ u : List UInt8 → Int, u = fun s => (readT s).i := ⟨_, rfl⟩
  obtain ⟨uRead4, huRead4⟩ : ∃ u : List UInt8 → List UInt8, u = fun s => (readT s).lv := ⟨_, rfl⟩
  obtain ⟨uRead5, huRead5⟩ : ∃ u : List UInt8 → Int, u = fun s => (readT s).s := ⟨_, rfl⟩
  obtain ⟨uRead6, huRead6⟩ : ∃ u : List UInt8 → Int, u = fun s => (readT s).w := ⟨_, rfl⟩
  obtain ⟨uRead7, huRead7⟩ : ∃ u : List UInt8 → Int, u = fun s => (readT s).d := ⟨_, rfl⟩
  obtain ⟨uRead8, huRead8⟩ : ∃ u : List UInt8 → Int, u = readE := ⟨_, rfl⟩
  obtain ⟨uRefRead, huRefRead⟩ : ∃ u : List UInt8 → Bool, u = le4 := ⟨_, rfl⟩
  obtain ⟨uRefRead1, huRefRead1⟩ : ∃ u : List UInt8 → Int, u = fun s => (readT s).a := ⟨_, rfl⟩
  obtain ⟨uRefRead2, huRefRead2⟩ : ∃ u : List UInt8 → Int, u = fun s => (readT s).k := ⟨_, rfl⟩
  obtain ⟨uRefRead3, huRefRead3⟩ : ∃ u : List UInt8 → Int, u = fun s => (readT s).i := ⟨_, rfl⟩
  obtain ⟨uRefRead4, huRefRead4⟩ : ∃ u : List UInt8 → List UInt8, u = fun s => (readT s).lv := ⟨_, rfl⟩
  obtain ⟨uRefRead5, huRefRead5⟩ : ∃ u : List UInt8 → Int, u = fun s => (readT s).s := ⟨_, rfl⟩
  obtain ⟨uRefRead6, huRefRead6⟩ : ∃ u : List UInt8 → Int, u = fun s => (readT s).w := ⟨_, rfl⟩
  obtain ⟨uRefRead7, huRefRead7⟩ : ∃ u : List UInt8 → Int, u = fun s => (readT s).d := ⟨_, rfl⟩
  obtain ⟨uRefRead8, huRefRead8⟩ : ∃ u : List UInt8 → Int, u = readE := ⟨_, rfl⟩
  have hG : TblOK Tryd.prog [(6, φAwake27 ), (9, φRead uRead uRead1 uRead2 uRead3 uRead4 uRead5 uRead6 uRead7 uRead8), (10, φRefRead uRefRead uRefRead1 uRefRead2 uRefRead3 uRefRead4 uRefRead5 uRefRead6 uRefRead7 uRefRead8)] := ⟨φAwake27_ok, (by rw [huRead, huRead1, huRead2, huRead3, huRead4, huRead5, huRead6, huRead7, huRead8]; exact φRead_ok), (by rw [huRefRead, huRefRead1, huRefRead2, huRefRead3, huRefRead4, huRefRead5, huRefRead6, huRefRead7, huRefRead8]; exact φRefRead_ok), trivial⟩
  refine ESpec.enter Tryd.func4 (by kernel_rfl) rfl (Nat.le_of_ble_eq_true rfl) fun hok cx hnt hfr => ?_
  obtain ⟨F, hF⟩ := real_ex
  refine AK.runT hF tabOK hmix hnt hfr false _ hG ?_
  conv => arg 4; cbv
  have q : F .ltI 4000 (F .lenS s) = false → uRead s = true ∧ uRefRead s = true := fun h => by
    simp only [hF, f_ltI, f_leI, f_eqI, f_eqS, f_eqB, f_not, f_andB, f_orB, f_lenS, f_lenD, f_hasS, f_atS, f_hasC, f_subS, f_hasCat, f_app, f_wrap, f_add, f_sub, f_mul, f_appD, f_fits, f_hasV, f_subV, decide_eq_true_eq, decide_eq_false_iff_not, beq_iff_eq, beq_eq_false_iff_ne, Bool.and_eq_true, Bool.and_eq_false_iff, Bool.not_eq_true, Bool.not_eq_false, Bool.not_eq_eq_eq_not, Bool.not_true, Bool.not_false] at h
    subst huRead huRead1 huRead2 huRead3 huRead4 huRead5 huRead6 huRead7 huRead8 huRefRead huRefRead1 huRefRead2 huRefRead3 huRefRead4 huRefRead5 huRefRead6 huRefRead7 huRefRead8
    exact ⟨decide_eq_true (by omega), decide_eq_true (by omega)⟩
  have f1 : uRefRead1 s = uRead1 s := by subst huRead huRead1 huRead2 huRead3 huRead4 huRead5 huRead6 huRead7 huRead8 huRefRead huRefRead1 huRefRead2 huRefRead3 huRefRead4 huRefRead5 huRefRead6 huRefRead7 huRefRead8; rfl
  have f2 : uRefRead2 s = uRead2 s := by subst huRead huRead1 huRead2 huRead3 huRead4 huRead5 huRead6 huRead7 huRead8 huRefRead huRefRead1 huRefRead2 huRefRead3 huRefRead4 huRefRead5 huRefRead6 huRefRead7 huRefRead8; rfl
  have f3 : uRefRead3 s = uRead3 s := by subst huRead huRead1 huRead2 huRead3 huRead4 huRead5 huRead6 huRead7 huRead8 huRefRead huRefRead1 huRefRead2 huRefRead3 huRefRead4 huRefRead5 huRefRead6 huRefRead7 huRefRead8; rfl
  have f4 : uRefRead4 s = uRead4 s := by subst huRead huRead1 huRead2 huRead3 huRead4 huRead5 huRead6 huRead7 huRead8 huRefRead huRefRead1 huRefRead2 huRefRead3 huRefRead4 huRefRead5 huRefRead6 huRefRead7 huRefRead8; rfl
  have f5 : uRefRead5 s = uRead5 s := by subst huRead huRead1 huRead2 huRead3 huRead4 huRead5 huRead6 huRead7 huRead8 huRefRead huRefRead1 huRefRead2 huRefRead3 huRefRead4 huRefRead5 huRefRead6 huRefRead7 huRefRead8; rfl
  have f6 : uRefRead6 s = uRead6 s := by subst huRead huRead1 huRead2 huRead3 huRead4 huRead5 huRead6 huRead7 huRead8 huRefRead huRefRead1 huRefRead2 huRefRead3 huRefRead4 huRefRead5 huRefRead6 huRefRead7 huRefRead8; rfl
  have f7 : uRefRead7 s = uRead7 s := by subst huRead huRead1 huRead2 huRead3 huRead4 huRead5 huRead6 huRead7 huRead8 huRefRead huRefRead1 huRefRead2 huRefRead3 huRefRead4 huRefRead5 huRefRead6 huRefRead7 huRefRead8; rfl
  have f8 : uRefRead8 s = uRead8 s := by subst huRead huRead1 huRead2 huRead3 huRead4 huRead5 huRead6 huRead7 huRead8 huRefRead huRefRead1 huRefRead2 huRefRead3 huRefRead4 huRefRead5 huRefRead6 huRefRead7 huRefRead8; rfl
  rw [l_not1 hF]
  refine AKt.need rfl fun _ => ?_
  refine AKt.ff ?_
  refine AKt.node (fun hb2 => ?_) (fun hb2 => ?_)
  · repeat' (first | with_reducible refine AKt.have ?_ | with_reducible refine AKt.tt ?_ | with_reducible refine AKt.ff ?_ | with_reducible refine AKt.yes (by assumption) ?_ | with_reducible refine AKt.no (by assumption) ?_ | with_reducible refine AKt.node (fun hb => ?_) (fun hb => ?_) | with_reducible refine AKt.need ?_ (fun hb => ?_) | with_reducible refine AKt.leaf ?_ | ((with_reducible show _ = true); assumption))
    exact AKp.doneE tabOK hfr (by rfl) (by rfl)
  · obtain ⟨q1, q2⟩ := q hb2
    rw [f1, f2, f3, f4, f5, f6, f7, f8]
    repeat' (first | with_reducible refine AKt.have ?_ | with_reducible refine AKt.tt ?_ | with_reducible refine AKt.ff ?_ | with_reducible refine AKt.yes (by assumption) ?_ | with_reducible refine AKt.no (by assumption) ?_ | with_reducible refine AKt.node (fun hb => ?_) (fun hb => ?_) | with_reducible refine AKt.need ?_ (fun hb => ?_) | with_reducible refine AKt.leaf ?_ | ((with_reducible show _ = true); assumption))
    all_goals
      refine AKp.doneE tabOK hfr (by rfl) ?_
      show _ = _
      simp only [tupAV]
      refine avb (Bool.eq_iff_iff.2 ?_)
      clear q q1 q2 hb2 hG f1 f2 f3 f4 f5 f6 f7 f8
      simp only [hF, f_ltI, f_leI, f_eqI, f_eqS, f_eqB, f_not, f_andB, f_orB, f_lenS, f_lenD, f_hasS, f_atS, f_hasC, f_subS, f_hasCat, f_app, f_wrap, f_add, f_sub, f_mul, f_appD, f_fits, f_hasV, f_subV, decide_eq_true_eq, decide_eq_false_iff_not, beq_iff_eq, beq_eq_false_iff_ne, Bool.and_eq_true, Bool.and_eq_false_iff, Bool.not_eq_true, Bool.not_eq_false, Bool.not_eq_eq_eq_not, Bool.not_true, Bool.not_false] at *
      try grind
set_option maxRecDepth 10000 in
theorem TraceBack_spec (a k i : Int) (lv : List UInt8) (s w d : Int) (l : List UInt8) : ESpec Tryd.prog 5 [.d (.agg [.s (.int .i64 a), .s (.int .i64 k), .s (.int .i64 i), .s (.str lv), .s (.int .i64 s), .s (.int .i64 w), .s (.int .u64 d)]), .d (.s (.str l))] (fun x => x = .d (.s (.bool true))) := by
  obtain ⟨uWrite, huWrite⟩ : ∃ u : List UInt8 → Bool, u = lv3 := ⟨_, rfl⟩
  obtain ⟨uWrite1, huWrite1⟩ : ∃ u : Int → Int → Int → List UInt8 → Int → Int → Int → List UInt8, u = fun a k i lv s w d => writeS ⟨a, k, i, lv, s, w, d⟩ := ⟨_, rfl⟩
  obtain ⟨uWrite2, huWrite2⟩ : ∃ u : Int → Int → Int → List UInt8 → Int → Int → Int → Int, u = fun a k i lv s w d => writeE ⟨a, k, i, lv, s, w, d⟩ := ⟨_, rfl⟩
  obtain ⟨uRead, huRead⟩ : ∃ u : List UInt8 → Bool, u = le20 := ⟨_, rfl⟩
  obtain ⟨uRead1, huRead1⟩ : ∃ u : List UInt8 → Int, u = fun s => (readT s).a := ⟨_, rfl⟩
  obtain ⟨uRead2, huRead2⟩ : ∃ u : List UInt8 → Int, u = fun s => (readT s).k := ⟨_, rfl⟩
  obtain ⟨uRead3, huRead3⟩ : ∃ u : List UInt8 → Int, u = fun s => (readT s).i := ⟨_, rfl⟩
  obtain ⟨uRead4, huRead4⟩ : ∃ u : List UInt8 → List UInt8, u = fun s => (readT s).lv := ⟨_, rfl⟩
  obtain ⟨uRead5, huRead5⟩ : ∃ u : List UInt8 → Int, u = fun s => (readT s).s := ⟨_, rfl⟩
  obtain ⟨uRead6, huRead6⟩ : ∃ u : List UInt8 → Int, u = fun s => (readT s).w := ⟨_, rfl⟩
  obtain ⟨uRead7, huRead7⟩ : ∃ u : List UInt8 → Int, u = fun s => (readT s).d := ⟨_, rfl⟩
  obtain ⟨uRead8, huRead8⟩ : ∃ u : List UInt8 → Int, u = readE := ⟨_, rfl⟩
  have hG : TblOK Tryd.prog [(6, φAwake27 ), (7, φWrite uWrite uWrite1 uWrite2), (9, φRead uRead uRead1 uRead2 uRead3 uRead4 uRead5 uRead6 uRead7 uRead8)] := ⟨φAwake27_ok, (by rw [huWrite, huWrite1, huWrite2]; exact φWrite_ok), (by rw [huRead, huRead1, huRead2, huRead3, huRead4, huRead5, huRead6, huRead7, huRead8]; exact φRead_ok), trivial⟩
  refine ESpec.enter Tryd.func5 (by kernel_rfl) rfl (Nat.le_of_ble_eq_true rfl) fun hok cx hnt hfr => ?_
  obtain ⟨F, hF⟩ := real_ex
  refine AK.runT hF tabOK hmix hnt hfr false _ hG ?_
  conv => arg 4; cbv
  have o1 : a ≤ 9223372036854775807 := hok.1.1.2
  have o3 : i ≤ 9223372036854775807 := hok.1.2.2.1.2
  have o5 : s ≤ 9223372036854775807 := hok.1.2.2.2.2.1.2
  have o6 : w ≤ 9223372036854775807 := hok.1.2.2.2.2.2.1.2
  obtain ⟨zs, hzs⟩ : ∃ z, z = uWrite1 a k i lv s w d := ⟨_, rfl⟩
  obtain ⟨ze, hze⟩ : ∃ z, z = uWrite2 a k i lv s w d := ⟨_, rfl⟩
  have q : F .ltI 4000 (F .lenS l) = false → F .ltI 1000 (F .lenS lv) = false → uWrite lv = true ∧ uRead zs = true ∧ uRead l = true ∧ uWrite (uRead4 l) = true := fun h1 h2 => by
    simp only [hF, f_ltI, f_leI, f_eqI, f_eqS, f_eqB, f_not, f_andB, f_orB, f_lenS, f_lenD, f_hasS, f_atS, f_hasC, f_subS, f_hasCat, f_app, f_wrap, f_add, f_sub, f_mul, f_appD, f_fits, f_hasV, f_subV, decide_eq_true_eq, decide_eq_false_iff_not, beq_iff_eq, beq_eq_false_iff_ne, Bool.and_eq_true, Bool.and_eq_false_iff, Bool.not_eq_true, Bool.not_eq_false, Bool.not_eq_eq_eq_not, Bool.not_true, Bool.not_false] at h1 h2
    have hll := line_len (k := k) (d := d) o1 o3 o5 o6 (n := 1000) (by decide) (lv := lv) (by omega)
    have hr := read_lv l
    subst hzs
    subst huWrite huWrite1 huWrite2 huRead huRead1 huRead2 huRead3 huRead4 huRead5 huRead6 huRead7 huRead8
    refine ⟨decide_eq_true (by omega), decide_eq_true ?_, decide_eq_true (by omega), decide_eq_true (show (readT l).lv.length ≤ 4000 by omega)⟩
    show (writeS ⟨a, k, i, lv, s, w, d⟩).length ≤ 25000
    unfold writeS
    split
    · exact Nat.le_trans hll (by decide)
    · exact Nat.zero_le _
  have wb : ze = 0 → uRead8 zs = 0 ∧ uRead1 zs = a ∧ uRead2 zs = k ∧ uRead3 zs = i ∧ uRead4 zs = lv ∧ uRead5 zs = s ∧ uRead6 zs = w ∧ uRead7 zs = d := fun h => by
    subst hzs hze
    subst huWrite huWrite1 huWrite2 huRead huRead1 huRead2 huRead3 huRead4 huRead5 huRead6 huRead7 huRead8
    obtain ⟨g1, g2⟩ := write_back (t := ⟨a, k, i, lv, s, w, d⟩) h
    refine ⟨g2, ?_⟩
    simp [g1]
  have rb : uRead8 l = 0 → uWrite1 (uRead1 l) (uRead2 l) (uRead3 l) (uRead4 l) (uRead5 l) (uRead6 l) (uRead7 l) = l ∧ uWrite2 (uRead1 l) (uRead2 l) (uRead3 l) (uRead4 l) (uRead5 l) (uRead6 l) (uRead7 l) = 0 := fun h => by
    clear hzs hze wb q
    subst huWrite huWrite1 huWrite2 huRead huRead1 huRead2 huRead3 huRead4 huRead5 huRead6 huRead7 huRead8
    exact read_back h
  have rn : ¬ uRead8 l = 0 → uRead1 l = 0 ∧ uRead2 l = 0 ∧ uRead3 l = 0 ∧ uRead4 l = [] ∧ uRead5 l = 0 ∧ uRead6 l = 0 ∧ uRead7 l = 0 := fun h => by
    clear hzs hze wb q rb
    subst huWrite huWrite1 huWrite2 huRead huRead1 huRead2 huRead3 huRead4 huRead5 huRead6 huRead7 huRead8
    have g := read_none h
    simp [g, zeroT]
  rw [l_not1 hF, ← hzs, ← hze]
  obtain ⟨zl, hzl⟩ : ∃ z, z = uWrite1 (uRead1 l) (uRead2 l) (uRead3 l) (uRead4 l) (uRead5 l) (uRead6 l) (uRead7 l) := ⟨_, rfl⟩
  obtain ⟨zm, hzm⟩ : ∃ z, z = uWrite2 (uRead1 l) (uRead2 l) (uRead3 l) (uRead4 l) (uRead5 l) (uRead6 l) (uRead7 l) := ⟨_, rfl⟩
  rw [← hzl, ← hzm] at rb
  refine AKt.need rfl fun _ => ?_
  refine AKt.ff ?_
  refine AKt.node (fun hb2 => ?_) (fun hb2 => ?_)
  · repeat' (first | with_reducible refine AKt.have ?_ | with_reducible refine AKt.tt ?_ | with_reducible refine AKt.ff ?_ | with_reducible refine AKt.yes (by assumption) ?_ | with_reducible refine AKt.no (by assumption) ?_ | with_reducible refine AKt.node (fun hb => ?_) (fun hb => ?_) | with_reducible refine AKt.need ?_ (fun hb => ?_) | with_reducible refine AKt.leaf ?_ | ((with_reducible show _ = true); assumption))
    exact AKp.doneE tabOK hfr (by rfl) (by rfl)
  refine AKt.node (fun hb3 => ?_) (fun hb3 => ?_)
  · repeat' (first | with_reducible refine AKt.have ?_ | with_reducible refine AKt.tt ?_ | with_reducible refine AKt.ff ?_ | with_reducible refine AKt.yes (by assumption) ?_ | with_reducible refine AKt.no (by assumption) ?_ | with_reducible refine AKt.node (fun hb => ?_) (fun hb => ?_) | with_reducible refine AKt.need ?_ (fun hb => ?_) | with_reducible refine AKt.leaf ?_ | ((with_reducible show _ = true); assumption))
    exact AKp.doneE tabOK hfr (by rfl) (by rfl)
  obtain ⟨q1, q2, q3, q4⟩ := q hb2 hb3
  rw [← hzl, ← hzm]
  clear q hok o1 o3 o5 o6 hzs hze
  repeat' (first | with_reducible refine AKt.have ?_ | with_reducible refine AKt.tt ?_ | with_reducible refine AKt.ff ?_ | with_reducible refine AKt.yes (by assumption) ?_ | with_reducible refine AKt.no (by assumption) ?_ | with_reducible refine AKt.node (fun hb => ?_) (fun hb => ?_) | with_reducible refine AKt.need ?_ (fun hb => ?_) | with_reducible refine AKt.leaf ?_ | ((with_reducible show _ = true); assumption))
  all_goals
    refine AKp.doneE tabOK hfr (by rfl) ?_
    show _ = _
    simp only [tupAV]
    refine avb (Bool.eq_iff_iff.2 ?_)
    clear q1 q2 q3 q4 hb2 hb3 hG hzl hzm
    simp only [hF, f_ltI, f_leI, f_eqI, f_eqS, f_eqB, f_not, f_andB, f_orB, f_lenS, f_lenD, f_hasS, f_atS, f_hasC, f_subS, f_hasCat, f_app, f_wrap, f_add, f_sub, f_mul, f_appD, f_fits, f_hasV, f_subV, decide_eq_true_eq, decide_eq_false_iff_not, beq_iff_eq, beq_eq_false_iff_ne, Bool.and_eq_true, Bool.and_eq_false_iff, Bool.not_eq_true, Bool.not_eq_false, Bool.not_eq_eq_eq_not, Bool.not_true, Bool.not_false] at *
    try grind
end Go.Proofs.YtpoebpggapfooaaDoor
