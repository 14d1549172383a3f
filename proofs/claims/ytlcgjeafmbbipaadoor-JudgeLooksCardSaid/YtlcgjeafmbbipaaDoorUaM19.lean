/- The library of this claim and its walks, part 19, joined out of smaller texts. No statement stands in it. -/
import Derived.Test.YtlcgjeafmbbipaaDoorUaM18
/- The beginning of a trace. -/
namespace Go.Proofs.YtlcgjeafmbbipaaDoor
open Go Go.Proofs Go.Ua Go.Extern
set_option linter.unusedVariables false
set_option linter.unusedSimpArgs false
set_option maxRecDepth 10000

theorem inD0 : inD 0 := ⟨by decide, by decide⟩
theorem cut_no {c : UInt8} : ∀ {s p : List UInt8}, p ∈ cutF c s → c ∉ p
  | [], p, h => by simp [cutF] at h; subst h; simp
  | b :: r, p, h => by
    unfold cutF at h
    split at h
    · rcases List.mem_cons.1 h with h | h
      · rw [h]; simp
      · exact cut_no h
    · rename_i hb
      split at h
      · rename_i q qs hq
        rcases List.mem_cons.1 h with h | h
        · rw [h]
          intro hm
          rcases List.mem_cons.1 hm with hm | hm
          · exact hb hm.symm
          · exact cut_no (s := r) (p := q) (by rw [hq]; simp) hm
        · exact cut_no (s := r) (by rw [hq]; exact List.mem_cons_of_mem _ h)
      · rw [List.mem_singleton.1 h]
        intro hm
        exact hb (List.mem_singleton.1 hm).symm
theorem lines_no {s x : List UInt8} (h : x ∈ linesF s) : (10 : UInt8) ∉ x := by
  unfold linesF at h
  split at h
  · exact cut_no ((List.dropLast_sublist _).subset h)
  · exact cut_no h
theorem cut_linesG : ∀ {ws : List (List UInt8)}, (∀ w, w ∈ ws → (10 : UInt8) ∉ w) → cutF 10 (linesOf ws) = ws ++ [[]]
  | [], _ => rfl
  | w :: ws, h => by
    have ih := cut_linesG (ws := ws) fun x hx => h x (List.mem_cons_of_mem _ hx)
    have : linesOf (w :: ws) = w ++ 10 :: linesOf ws := by simp [linesOf]
    rw [this, cut_app _ (h w (by simp)), ih]
    rfl
theorem lines_ofG {ws : List (List UInt8)} (h : ∀ w, w ∈ ws → (10 : UInt8) ∉ w) : linesF (linesOf ws) = ws := by
  unfold linesF
  rw [cut_linesG h]
  simp
/-- All that was cut, together. -/
theorem cut_sum (c : UInt8) : ∀ s : List UInt8, (linesOf (cutF c s)).length = s.length + 1
  | [] => rfl
  | b :: r => by
    have ih := cut_sum c r
    unfold cutF
    split
    · simp [linesOf] at ih ⊢; omega
    · split
      · rename_i q qs hq
        rw [hq] at ih
        simp [linesOf] at ih ⊢; omega
      · rename_i hq
        exact absurd hq (cutF_ne c r)
theorem linesOf_take (ws : List (List UInt8)) (k : Nat) : (linesOf (ws.take k)).length ≤ (linesOf ws).length := by
  have : linesOf ws = linesOf (ws.take k) ++ linesOf (ws.drop k) := by
    conv => lhs; rw [← List.take_append_drop k ws]
    simp only [linesOf, List.map_append, List.flatten_append]
  rw [this, List.length_append]
  omega
theorem lines_sum (s : List UInt8) (k : Nat) : (linesOf ((linesF s).take k)).length ≤ s.length + 1 := by
  refine Nat.le_trans (linesOf_take _ k) ?_
  rw [← cut_sum 10 s]
  unfold linesF
  split
  · rw [List.dropLast_eq_take]; exact linesOf_take _ _
  · exact Nat.le_refl _

theorem look_take : ∀ (ls : List (List UInt8)) (i : Int) (b : List En) (a : Int) (k : Nat),
    (i < (lookR ls i b a).1 ∨ lookR ls i b a = (0, 0)) ∧ ((lookR ls i b a).2 = 0 → lookR ls i b a = (0, 0)) ∧
    ((lookR ls i b a = (0, 0) ∨ i + k < (lookR ls i b a).1) → lookR (ls.take k) i b a = (0, 0)) ∧ (¬ lookR ls i b a = (0, 0) → (lookR ls i b a).1 ≤ i + k → lookR (ls.take k) i b a = lookR ls i b a)
  | [], i, b, a, k => by
    simp [lookR]
  | s :: ls, i, b, a, 0 => by
    obtain ⟨h1, h2, h3, h4⟩ := look_take ls (i + 1) (noteV b (readT s)) (readT s).a 0
    rw [List.take_zero]
    by_cases c : ¬ readE s = 0
    · have e : lookR (s :: ls) i b a = (i + 1, readE s) := by rw [lookR, if_pos c]
      rw [e]
      refine ⟨.inl (by show i < i + 1; omega), fun h => absurd h c, fun _ => rfl, fun _ h => by have : i + 1 ≤ i + (0 : Nat) := h; omega⟩
    · by_cases d : (readT s).a < a ∨ noteB b (readT s) = false
      · have e : lookR (s :: ls) i b a = (i + 1, 13) := by rw [lookR, if_neg c, if_pos d]
        rw [e]
        refine ⟨.inl (by show i < i + 1; omega), fun h => (by cases h), fun _ => rfl, fun _ h => by have : i + 1 ≤ i + (0 : Nat) := h; omega⟩
      · have e : lookR (s :: ls) i b a = lookR ls (i + 1) (noteV b (readT s)) (readT s).a := by rw [lookR, if_neg c, if_neg d]
        rw [e]
        refine ⟨?_, h2, fun _ => rfl, fun g h => ?_⟩
        · rcases h1 with h1 | h1
          · exact .inl (by omega)
          · exact .inr h1
        · rcases h1 with h1 | h1
          · exfalso; have : (lookR ls (i + 1) (noteV b (readT s)) (readT s).a).1 ≤ i + (0 : Nat) := h; omega
          · exact absurd h1 g
  | s :: ls, i, b, a, k + 1 => by
    obtain ⟨h1, h2, h3, h4⟩ := look_take ls (i + 1) (noteV b (readT s)) (readT s).a k
    rw [List.take_succ_cons]
    by_cases c : ¬ readE s = 0
    · have e : ∀ l, lookR (s :: l) i b a = (i + 1, readE s) := fun l => by rw [lookR, if_pos c]
      rw [e, e]
      refine ⟨.inl (by show i < i + 1; omega), fun h => absurd h c, fun h => ?_, fun _ _ => rfl⟩
      rcases h with h | h
      · exact absurd (congrArg Prod.snd h) c
      · have : i + ((k + 1 : Nat) : Int) < i + 1 := h
        omega
    · by_cases d : (readT s).a < a ∨ noteB b (readT s) = false
      · have e : ∀ l, lookR (s :: l) i b a = (i + 1, 13) := fun l => by rw [lookR, if_neg c, if_pos d]
        rw [e, e]
        refine ⟨.inl (by show i < i + 1; omega), fun h => (by cases h), fun h => ?_, fun _ _ => rfl⟩
        rcases h with h | h
        · cases congrArg Prod.snd h
        · have : i + ((k + 1 : Nat) : Int) < i + 1 := h
          omega
      · have e : ∀ l, lookR (s :: l) i b a = lookR l (i + 1) (noteV b (readT s)) (readT s).a := fun l => by rw [lookR, if_neg c, if_neg d]
        rw [e, e]
        refine ⟨?_, h2, fun h => h3 ?_, fun g h => h4 g ?_⟩
        · rcases h1 with h1 | h1
          · exact .inl (by omega)
          · exact .inr h1
        · rcases h with h | h
          · exact .inl h
          · exact .inr (by omega)
        · omega

theorem aw1 : readT [48, 32, 115, 116, 97, 114, 116, 101, 100, 32, 49, 32, 97, 32, 50] = ⟨0, 1, 1, [97], 2, 0, 0⟩ ∧ readE [48, 32, 115, 116, 97, 114, 116, 101, 100, 32, 49, 32, 97, 32, 50] = 0 := by
  have h := valid_read (t := ⟨0, 1, 1, [97], 2, 0, 0⟩) (by decide +kernel) inD0
  rw [show (Tl.line ⟨0, 1, 1, [97], 2, 0, 0⟩) = [48, 32, 115, 116, 97, 114, 116, 101, 100, 32, 49, 32, 97, 32, 50] by decide +kernel] at h
  exact h.2
theorem aw2 : readT [51, 32, 101, 110, 100, 101, 100, 32, 49, 32, 97] = ⟨3, 5, 1, [97], 0, 0, 0⟩ ∧ readE [51, 32, 101, 110, 100, 101, 100, 32, 49, 32, 97] = 0 := by
  have h := valid_read (t := ⟨3, 5, 1, [97], 0, 0, 0⟩) (by decide +kernel) inD0
  rw [show (Tl.line ⟨3, 5, 1, [97], 0, 0, 0⟩) = [51, 32, 101, 110, 100, 101, 100, 32, 49, 32, 97] by decide +kernel] at h
  exact h.2
theorem awake_a : lookF [48, 32, 115, 116, 97, 114, 116, 101, 100, 32, 49, 32, 97, 32, 50, 10, 51, 32, 101, 110, 100, 101, 100, 32, 49, 32, 97] = (0, 0) := by
  rw [lookF, if_neg (by decide), show linesF _ = [[48, 32, 115, 116, 97, 114, 116, 101, 100, 32, 49, 32, 97, 32, 50], [51, 32, 101, 110, 100, 101, 100, 32, 49, 32, 97]] by decide +kernel]
  rw [lookR, lookR, aw1.1, aw1.2, aw2.1, aw2.2]
  decide +kernel
theorem awake_b : lookF [51, 32, 101, 110, 100, 101, 100, 32, 49, 32, 97, 10] = (1, 13) := by
  rw [lookF, if_neg (by decide), show linesF _ = [[51, 32, 101, 110, 100, 101, 100, 32, 49, 32, 97]] by decide +kernel]
  rw [lookR, aw2.1, aw2.2]
  decide +kernel

set_option maxRecDepth 10000 in
theorem awake29_spec : ESpec Tryd.prog 8 [] (fun x => x = .d (.s (.bool true))) := by
  obtain ⟨uLook, huLook⟩ : ∃ u : List UInt8 → Bool, u = leL := ⟨_, rfl⟩
  obtain ⟨uLook1, huLook1⟩ : ∃ u : List UInt8 → Int, u = fun s => (lookF s).1 := ⟨_, rfl⟩
  obtain ⟨uLook2, huLook2⟩ : ∃ u : List UInt8 → Int, u = fun s => (lookF s).2 := ⟨_, rfl⟩
  have hG : TblOK Tryd.prog [(9, .p (φLook uLook uLook1 uLook2))] := ⟨(by rw [huLook, huLook1, huLook2]; exact φLook_ok), trivial⟩
  have q1 : uLook [48, 32, 115, 116, 97, 114, 116, 101, 100, 32, 49, 32, 97, 32, 50, 10, 51, 32, 101, 110, 100, 101, 100, 32, 49, 32, 97] = true := by subst huLook huLook1 huLook2; decide
  have q2 : uLook [51, 32, 101, 110, 100, 101, 100, 32, 49, 32, 97, 10] = true := by subst huLook huLook1 huLook2; decide
  have f1 : uLook1 [48, 32, 115, 116, 97, 114, 116, 101, 100, 32, 49, 32, 97, 32, 50, 10, 51, 32, 101, 110, 100, 101, 100, 32, 49, 32, 97] = 0 := by subst huLook huLook1 huLook2; exact congrArg Prod.fst awake_a
  have f2 : uLook2 [48, 32, 115, 116, 97, 114, 116, 101, 100, 32, 49, 32, 97, 32, 50, 10, 51, 32, 101, 110, 100, 101, 100, 32, 49, 32, 97] = 0 := by subst huLook huLook1 huLook2; exact congrArg Prod.snd awake_a
  have f3 : uLook1 [51, 32, 101, 110, 100, 101, 100, 32, 49, 32, 97, 10] = 1 := by subst huLook huLook1 huLook2; exact congrArg Prod.fst awake_b
  have f4 : uLook2 [51, 32, 101, 110, 100, 101, 100, 32, 49, 32, 97, 10] = 13 := by subst huLook huLook1 huLook2; exact congrArg Prod.snd awake_b
  refine ESpec.enter Tryd.func8 (by kernel_rfl) rfl (Nat.le_of_ble_eq_true rfl) fun hok cx hnt hfr => ?_
  obtain ⟨F, hF⟩ := real_ex
  refine AK.runT hF tabOK hmix hnt hfr false _ hG ?_
  conv => arg 4; cbv
  have eqI : ∀ b : Int, F .eqI b b = true := fun b => by rw [hF, f_eqI]; simp
  rw [f1, f2, f3, f4, eqI, eqI, eqI]
  repeat' (first | with_reducible refine AKt.have ?_ | with_reducible refine AKt.tt ?_ | with_reducible refine AKt.ff ?_ | with_reducible refine AKt.yes (by assumption) ?_ | with_reducible refine AKt.no (by assumption) ?_ | with_reducible refine AKt.node (fun hb => ?_) (fun hb => ?_) | with_reducible refine AKt.need ?_ (fun hb => ?_) | with_reducible refine AKt.leaf ?_ | ((with_reducible show _ = true); assumption))
  all_goals exact AKp.doneE tabOK hfr (by rfl) (by rfl)
def φAwake29  : List AV → Option (Bool × AV)
  | [] => some (true, .d (.s (.bool true)))
  | _ => none
theorem φAwake29_ok : SpOK Tryd.prog 8 (φAwake29 ) := by
  intro xs b x h hb
  unfold φAwake29 at h
  split at h
  · simp only [Option.some.injEq, Prod.mk.injEq] at h
    obtain ⟨rfl, rfl⟩ := h
    exact awake29_spec
  · cases h

set_option maxRecDepth 10000 in
theorem JudgeBeginning_spec (s : List UInt8) (at_ : Int) (hs : s.length ≤ 1048576) : ESpec Tryd.prog 4 [.d (.s (.str s)), .d (.s (.int .i64 at_))] (fun x => x = .d (.s (.bool true))) := by
  obtain ⟨uRefLines, huRefLines⟩ : ∃ u : List UInt8 → Bool, u = le32 := ⟨_, rfl⟩
  obtain ⟨uRefLines1, huRefLines1⟩ : ∃ u : List UInt8 → List Dat, u = fun w => strDs (linesF w) := ⟨_, rfl⟩
  obtain ⟨uLook, huLook⟩ : ∃ u : List UInt8 → Bool, u = leL := ⟨_, rfl⟩
  obtain ⟨uLook1, huLook1⟩ : ∃ u : List UInt8 → Int, u = fun s => (lookF s).1 := ⟨_, rfl⟩
  obtain ⟨uLook2, huLook2⟩ : ∃ u : List UInt8 → Int, u = fun s => (lookF s).2 := ⟨_, rfl⟩
  have hG : TblOK Tryd.prog [(8, .p (φAwake29 )), (11, .p (φRefLines uRefLines uRefLines1)), (9, .p (φLook uLook uLook1 uLook2))] := ⟨φAwake29_ok, (by rw [huRefLines, huRefLines1]; exact φRefLines_ok), (by rw [huLook, huLook1, huLook2]; exact φLook_ok), trivial⟩
  obtain ⟨l, hl⟩ : ∃ z, z = linesF s := ⟨_, rfl⟩
  obtain ⟨es, hes⟩ : ∃ z, z = uRefLines1 s := ⟨_, rfl⟩
  have hsd : es = strDs l := by rw [hes, hl]; subst huRefLines huRefLines1 huLook huLook1 huLook2; rfl
  have hel : es.length = l.length := by rw [hsd]; simp [strDs]
  have hll : l.length ≤ s.length + 1 := by rw [hl]; exact lines_num s
  have hlc : ∀ x, x ∈ l → x.length ≤ s.length := fun x hx => lines_le (by rw [← hl]; exact hx)
  have hls : ∀ k, (linesOf (l.take k)).length ≤ s.length + 1 := fun k => by rw [hl]; exact lines_sum s k
  have hno : ∀ x, x ∈ l → (10 : UInt8) ∉ x := fun x hx => lines_no (by rw [← hl]; exact hx)
  have q1 : uRefLines s = true := by subst huRefLines huRefLines1 huLook huLook1 huLook2; exact decide_eq_true (by omega)
  have q2 : uLook s = true := by subst huRefLines huRefLines1 huLook huLook1 huLook2; exact decide_eq_true (by omega)
  refine ESpec.enter Tryd.func4 (by kernel_rfl) rfl (Nat.le_of_ble_eq_true rfl) fun hok cx hnt hfr => ?_
  obtain ⟨F, hF⟩ := real_ex
  refine AK.runT hF tabOK hmix hnt hfr false _ hG ?_
  conv => arg 4; cbv
  rw [← hes]
  refine AKt.need rfl fun _ => ?_
  rw [l_not1 hF]
  refine AKt.ff ?_
  refine AKt.need q1 fun _ => ?_
  refine AKt.node (fun hb1 => ?_) (fun hb1 => ?_)
  · repeat' (first | with_reducible refine AKt.have ?_ | with_reducible refine AKt.tt ?_ | with_reducible refine AKt.ff ?_ | with_reducible refine AKt.yes (by assumption) ?_ | with_reducible refine AKt.no (by assumption) ?_ | with_reducible refine AKt.node (fun hb => ?_) (fun hb => ?_) | with_reducible refine AKt.need ?_ (fun hb => ?_) | with_reducible refine AKt.leaf ?_ | ((with_reducible show _ = true); assumption))
    exact AKp.doneE tabOK hfr (by rfl) (by rfl)
  refine AKt.node (fun hb2 => ?_) (fun hb2 => ?_)
  · repeat' (first | with_reducible refine AKt.have ?_ | with_reducible refine AKt.tt ?_ | with_reducible refine AKt.ff ?_ | with_reducible refine AKt.yes (by assumption) ?_ | with_reducible refine AKt.no (by assumption) ?_ | with_reducible refine AKt.node (fun hb => ?_) (fun hb => ?_) | with_reducible refine AKt.need ?_ (fun hb => ?_) | with_reducible refine AKt.leaf ?_ | ((with_reducible show _ = true); assumption))
    exact AKp.doneE tabOK hfr (by rfl) (by rfl)
  refine AKt.node (fun hb3 => ?_) (fun hb3 => ?_)
  · repeat' (first | with_reducible refine AKt.have ?_ | with_reducible refine AKt.tt ?_ | with_reducible refine AKt.ff ?_ | with_reducible refine AKt.yes (by assumption) ?_ | with_reducible refine AKt.no (by assumption) ?_ | with_reducible refine AKt.node (fun hb => ?_) (fun hb => ?_) | with_reducible refine AKt.need ?_ (fun hb => ?_) | with_reducible refine AKt.leaf ?_ | ((with_reducible show _ = true); assumption))
    exact AKp.doneE tabOK hfr (by rfl) (by rfl)
  obtain ⟨k, hk, hkl, hs8⟩ : ∃ k : Nat, at_ = k ∧ k ≤ l.length ∧ s.length ≤ 8000 := by
    simp only [hF, f_ltI, f_leI, f_eqI, f_eqS, f_eqB, f_not, f_andB, f_orB, f_lenS, f_lenD, f_hasS, f_atS, f_hasC, f_subS, f_hasCat, f_app, f_wrap, f_add, f_sub, f_mul, f_appD, f_fits, f_hasV, f_subV, decide_eq_true_eq, decide_eq_false_iff_not, beq_iff_eq, beq_eq_false_iff_ne, Bool.and_eq_true, Bool.and_eq_false_iff, Bool.not_eq_true, Bool.not_eq_false, Bool.not_eq_eq_eq_not, Bool.not_true, Bool.not_false] at hb1 hb2 hb3
    rw [hel] at hb3
    exact ⟨at_.toNat, by omega, by omega, by omega⟩
  clear hb1 hb2 hb3
  obtain ⟨u, hu⟩ : ∃ z, z = linesOf (l.take k) := ⟨_, rfl⟩
  have q3 : uLook u = true := by subst huRefLines huRefLines1 huLook huLook1 huLook2; rw [hu]; exact decide_eq_true (by have := hls k; omega)
  have res : lookF s = lookR l 0 [] 0 ∧ lookF u = lookR (l.take k) 0 [] 0 := by
    have h1 := hls k
    rw [lookF, if_neg (by omega), lookF, if_neg (by rw [hu]; omega), hu, ← hl, lines_ofG fun w hw => hno w (List.mem_of_mem_take hw)]
    exact ⟨rfl, rfl⟩
  obtain ⟨t1, t2, t3, t4⟩ := look_take l 0 [] 0 k
  rw [← res.1] at t1 t2 t3 t4
  rw [← res.2] at t3 t4
  repeat' (first | with_reducible refine AKt.have ?_ | with_reducible refine AKt.tt ?_ | with_reducible refine AKt.ff ?_ | with_reducible refine AKt.yes (by assumption) ?_ | with_reducible refine AKt.no (by assumption) ?_ | with_reducible refine AKt.node (fun hb => ?_) (fun hb => ?_) | with_reducible refine AKt.need ?_ (fun hb => ?_) | with_reducible refine AKt.leaf ?_ | ((with_reducible show _ = true); assumption))
  refine AKp.enterLoop 8 ?_
  conv => arg 7; cbv
  refine AKl.invT hF tabOK hmix hnt hfr false _ hG (fun n vs hs => ∃ (i : Nat) (iv : Int) (v : List UInt8), i + n = k ∧ iv = i ∧ v = linesOf (l.take i) ∧ vs = [(7, .d (.s (.int .i64 iv))), (6, .d (.s (.str v)))] ∧ hs = []) k ⟨0, _, [], by omega, rfl, rfl, rfl, rfl⟩ (by repeat (first | exact True.intro | refine ⟨⟨rfl, rfl⟩, ?_⟩)) (by repeat (first | exact True.intro | refine ⟨⟨rfl, rfl, rfl⟩, ?_⟩)) ?_
  rintro J n vs hs hJ ⟨i, iv, v, hi, hiv, hv, rfl, rfl⟩
  conv => arg 4; cbv
  refine AKt.node (fun hb1 => ?_) (fun hb1 => ?_)
  · have hlt : i < k := by rw [hiv, hk] at hb1; simp only [hF, f_ltI, f_leI, f_eqI, f_eqS, f_eqB, f_not, f_andB, f_orB, f_lenS, f_lenD, f_hasS, f_atS, f_hasC, f_subS, f_hasCat, f_app, f_wrap, f_add, f_sub, f_mul, f_appD, f_fits, f_hasV, f_subV, decide_eq_true_eq, decide_eq_false_iff_not, beq_iff_eq, beq_eq_false_iff_ne, Bool.and_eq_true, Bool.and_eq_false_iff, Bool.not_eq_true, Bool.not_eq_false, Bool.not_eq_eq_eq_not, Bool.not_true, Bool.not_false] at hb1; omega
    obtain ⟨x, hx⟩ : ∃ x, l[i]? = some x := ⟨_, List.getElem?_eq_getElem (by omega)⟩
    have hxl := hlc x (List.mem_of_getElem? hx)
    have e1 : F .strA es iv 0 = x := by rw [hsd, hiv, t_strG hF, List.getD_eq_getElem?_getD, hx]; rfl
    have h1 : F .hasD es iv [.str] = true := by rw [hsd, hiv]; exact t_hasG hF (by omega)
    have hvl := hls i
    rw [← hv] at hvl
    have h2 : F .hasCat x [10] = true := by rw [hF]; exact decide_eq_true (by simp; omega)
    have h3 : F .hasCat v (F .app x [10]) = true := by rw [hF]; exact decide_eq_true (by show v.length + (x ++ [10]).length ≤ _; simp; omega)
    rw [e1]
    repeat' (first | with_reducible refine AKt.have ?_ | with_reducible refine AKt.tt ?_ | with_reducible refine AKt.ff ?_ | with_reducible refine AKt.yes (by assumption) ?_ | with_reducible refine AKt.no (by assumption) ?_ | with_reducible refine AKt.node (fun hb => ?_) (fun hb => ?_) | with_reducible refine AKt.need ?_ (fun hb => ?_) | with_reducible refine AKt.leaf ?_ | ((with_reducible show _ = true); assumption))
    have hw : F .app v (F .app x [10]) = linesOf (l.take (i + 1)) := by
      rw [hF, List.take_add_one, hx]
      show v ++ (x ++ [10]) = linesOf (l.take i ++ [x])
      rw [linesOf_snoc, hv]
    refine AKp.again _ hfr (by repeat (first | exact True.intro | refine ⟨⟨rfl, rfl⟩, ?_⟩)) (by repeat (first | exact True.intro | refine ⟨⟨rfl, rfl, rfl⟩, ?_⟩)) (hJ (n - 1) _ _ (by omega) ⟨i + 1, _, _, by omega, inc_i hF hiv (by omega), hw, rfl, rfl⟩)
  · have hge : ¬ i < k := by rw [hiv, hk] at hb1; simp only [hF, f_ltI, f_leI, f_eqI, f_eqS, f_eqB, f_not, f_andB, f_orB, f_lenS, f_lenD, f_hasS, f_atS, f_hasC, f_subS, f_hasCat, f_app, f_wrap, f_add, f_sub, f_mul, f_appD, f_fits, f_hasV, f_subV, decide_eq_true_eq, decide_eq_false_iff_not, beq_iff_eq, beq_eq_false_iff_ne, Bool.and_eq_true, Bool.and_eq_false_iff, Bool.not_eq_true, Bool.not_eq_false, Bool.not_eq_eq_eq_not, Bool.not_true, Bool.not_false] at hb1; omega
    have hvu : v = u := by rw [hv, hu, show i = k by omega]
    rw [hvu]
    clear hJ hv hiv hi hvu
    obtain ⟨n1, hn1⟩ : ∃ z, z = (lookF s).1 := ⟨_, rfl⟩
    obtain ⟨n2, hn2⟩ : ∃ z, z = (lookF s).2 := ⟨_, rfl⟩
    obtain ⟨m1, hm1⟩ : ∃ z, z = (lookF u).1 := ⟨_, rfl⟩
    obtain ⟨m2, hm2⟩ : ∃ z, z = (lookF u).2 := ⟨_, rfl⟩
    have f1 : uLook1 s = n1 := by rw [hn1]; subst huRefLines huRefLines1 huLook huLook1 huLook2; rfl
    have f2 : uLook2 s = n2 := by rw [hn2]; subst huRefLines huRefLines1 huLook huLook1 huLook2; rfl
    have f3 : uLook1 u = m1 := by rw [hm1]; subst huRefLines huRefLines1 huLook huLook1 huLook2; rfl
    have f4 : uLook2 u = m2 := by rw [hm2]; subst huRefLines huRefLines1 huLook huLook1 huLook2; rfl
    have good : (n2 = 0 ∨ at_ < n1) → m1 = 0 ∧ m2 = 0 := fun h => by
      have : lookF u = (0, 0) := t3 (by
        rcases h with h | h
        · exact .inl (t2 (by rw [← hn2]; exact h))
        · exact .inr (by rw [← hn1]; omega))
      rw [hm1, hm2, this]
      exact ⟨rfl, rfl⟩
    have bad : ¬ (n2 = 0 ∨ at_ < n1) → m1 = n1 ∧ m2 = n2 := fun h => by
      have : lookF u = lookF s := t4 (fun e => h (.inl (by rw [hn2, e]))) (by rw [← hn1]; omega)
      rw [hm1, hm2, this, hn1, hn2]
      exact ⟨rfl, rfl⟩
    rw [f1, f2, f3, f4]
    clear f1 f2 f3 f4 hn1 hn2 hm1 hm2 t1 t2 t3 t4 res
    repeat' (first | with_reducible refine AKt.have ?_ | with_reducible refine AKt.tt ?_ | with_reducible refine AKt.ff ?_ | with_reducible refine AKt.yes (by assumption) ?_ | with_reducible refine AKt.no (by assumption) ?_ | with_reducible refine AKt.node (fun hb => ?_) (fun hb => ?_) | with_reducible refine AKt.need ?_ (fun hb => ?_) | with_reducible refine AKt.leaf ?_ | ((with_reducible show _ = true); assumption))
    all_goals
      refine AKp.doneE tabOK hfr (by rfl) ?_
      show _ = _
      simp only [tupAV]
      refine avb (Bool.eq_iff_iff.2 ?_)
      clear hG hls hlc hno
      simp only [hF, f_ltI, f_leI, f_eqI, f_eqS, f_eqB, f_not, f_andB, f_orB, f_lenS, f_lenD, f_hasS, f_atS, f_hasC, f_subS, f_hasCat, f_app, f_wrap, f_add, f_sub, f_mul, f_appD, f_fits, f_hasV, f_subV, decide_eq_true_eq, decide_eq_false_iff_not, beq_iff_eq, beq_eq_false_iff_ne, Bool.and_eq_true, Bool.and_eq_false_iff, Bool.not_eq_true, Bool.not_eq_false, Bool.not_eq_eq_eq_not, Bool.not_true, Bool.not_false] at *
      by_cases c : n2 = 0 ∨ at_ < n1
      · obtain ⟨g1, g2⟩ := good c
        grind
      · obtain ⟨g1, g2⟩ := bad c
        grind
end Go.Proofs.YtlcgjeafmbbipaaDoor

/- Any trace is looked at as the document says. -/
namespace Go.Proofs.YtlcgjeafmbbipaaDoor
open Go Go.Proofs Go.Ua Go.Extern
set_option linter.unusedVariables false
set_option linter.unusedSimpArgs false
set_option maxRecDepth 10000

set_option maxRecDepth 10000 in
theorem JudgeLooks_spec (s : List UInt8) : ESpec Tryd.prog 3 [.d (.s (.str s))] (fun x => x = .d (.s (.bool true))) := by
  obtain ⟨uLook, huLook⟩ : ∃ u : List UInt8 → Bool, u = leL := ⟨_, rfl⟩
  obtain ⟨uLook1, huLook1⟩ : ∃ u : List UInt8 → Int, u = fun s => (lookF s).1 := ⟨_, rfl⟩
  obtain ⟨uLook2, huLook2⟩ : ∃ u : List UInt8 → Int, u = fun s => (lookF s).2 := ⟨_, rfl⟩
  obtain ⟨uRefLook, huRefLook⟩ : ∃ u : List UInt8 → Bool, u = le4 := ⟨_, rfl⟩
  obtain ⟨uRefLook1, huRefLook1⟩ : ∃ u : List UInt8 → Int, u = fun s => (lookF s).1 := ⟨_, rfl⟩
  obtain ⟨uRefLook2, huRefLook2⟩ : ∃ u : List UInt8 → Int, u = fun s => (lookF s).2 := ⟨_, rfl⟩
  have hG : TblOK Tryd.prog [(8, .p (φAwake29 )), (9, .p (φLook uLook uLook1 uLook2)), (10, .p (φRefLook uRefLook uRefLook1 uRefLook2))] := ⟨φAwake29_ok, (by rw [huLook, huLook1, huLook2]; exact φLook_ok), (by rw [huRefLook, huRefLook1, huRefLook2]; exact φRefLook_ok), trivial⟩
  refine ESpec.enter Tryd.func3 (by kernel_rfl) rfl (Nat.le_of_ble_eq_true rfl) fun hok cx hnt hfr => ?_
  obtain ⟨F, hF⟩ := real_ex
  refine AK.runT hF tabOK hmix hnt hfr false _ hG ?_
  conv => arg 4; cbv
  have eqI : ∀ b : Int, F .eqI b b = true := fun b => by rw [hF, f_eqI]; simp
  have f1 : uRefLook1 s = uLook1 s := by subst huLook huLook1 huLook2 huRefLook huRefLook1 huRefLook2; rfl
  have f2 : uRefLook2 s = uLook2 s := by subst huLook huLook1 huLook2 huRefLook huRefLook1 huRefLook2; rfl
  rw [l_not1 hF, f1, f2, eqI, eqI]
  have q : F .ltI 8000 (F .lenS s) = false → uLook s = true ∧ uRefLook s = true := fun h => by
    simp only [hF, f_ltI, f_leI, f_eqI, f_eqS, f_eqB, f_not, f_andB, f_orB, f_lenS, f_lenD, f_hasS, f_atS, f_hasC, f_subS, f_hasCat, f_app, f_wrap, f_add, f_sub, f_mul, f_appD, f_fits, f_hasV, f_subV, decide_eq_true_eq, decide_eq_false_iff_not, beq_iff_eq, beq_eq_false_iff_ne, Bool.and_eq_true, Bool.and_eq_false_iff, Bool.not_eq_true, Bool.not_eq_false, Bool.not_eq_eq_eq_not, Bool.not_true, Bool.not_false] at h
    subst huLook huLook1 huLook2 huRefLook huRefLook1 huRefLook2
    exact ⟨decide_eq_true (by omega), decide_eq_true (by omega)⟩
  refine AKt.need rfl fun _ => ?_
  refine AKt.ff ?_
  refine AKt.node (fun hb2 => ?_) (fun hb2 => ?_)
  · repeat' (first | with_reducible refine AKt.have ?_ | with_reducible refine AKt.tt ?_ | with_reducible refine AKt.ff ?_ | with_reducible refine AKt.yes (by assumption) ?_ | with_reducible refine AKt.no (by assumption) ?_ | with_reducible refine AKt.node (fun hb => ?_) (fun hb => ?_) | with_reducible refine AKt.need ?_ (fun hb => ?_) | with_reducible refine AKt.leaf ?_ | ((with_reducible show _ = true); assumption))
    exact AKp.doneE tabOK hfr (by rfl) (by rfl)
  · obtain ⟨q1, q2⟩ := q hb2
    repeat' (first | with_reducible refine AKt.have ?_ | with_reducible refine AKt.tt ?_ | with_reducible refine AKt.ff ?_ | with_reducible refine AKt.yes (by assumption) ?_ | with_reducible refine AKt.no (by assumption) ?_ | with_reducible refine AKt.node (fun hb => ?_) (fun hb => ?_) | with_reducible refine AKt.need ?_ (fun hb => ?_) | with_reducible refine AKt.leaf ?_ | ((with_reducible show _ = true); assumption))
    all_goals exact AKp.doneE tabOK hfr (by rfl) (by rfl)
end Go.Proofs.YtlcgjeafmbbipaaDoor
