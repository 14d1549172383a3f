/- The library of this claim and its walks, part 18, joined out of smaller texts. No statement stands in it. -/
import Derived.Test.YtmhkmoeailamlaaDoorUaM17
/- The reference reads. -/
namespace Go.Proofs.YtmhkmoeailamlaaDoor
open Go Go.Proofs Go.Ua Go.Extern
set_option linter.unusedVariables false
set_option linter.unusedSimpArgs false
set_option maxRecDepth 10000

set_option maxHeartbeats 4000000 in
set_option cbv.maxSteps 10000000 in
theorem request_spec (ws : List (List UInt8)) (hw : ∀ w, w ∈ ws → w.length ≤ 1000000) (hne : ∀ w, w ∈ ws → w ≠ []) : ESpec Tryd.prog 24 [.d (.view 1 (strDs ws))] (fun x => x = .tup [.d (if ws.length = 8 then (orE (newV ws) (newE ws)).1 else ev0).dat, .d (.s (.int .i64 (if ws.length = 8 then (orE (newV ws) (newE ws)).2 else 2)))]) := by
  obtain ⟨uRNumber, huRNumber⟩ : ∃ u : List UInt8 → Int → Int → Int, u = numV := ⟨_, rfl⟩
  obtain ⟨uRNumber1, huRNumber1⟩ : ∃ u : List UInt8 → Int → Int → Int, u = rNumE := ⟨_, rfl⟩
  obtain ⟨uRefWord, huRefWord⟩ : ∃ u : List UInt8 → Bool, u = wordF := ⟨_, rfl⟩
  obtain ⟨uRefList, huRefList⟩ : ∃ u : List UInt8 → Bool, u = le32 := ⟨_, rfl⟩
  obtain ⟨uRefList1, huRefList1⟩ : ∃ u : List UInt8 → List Dat, u = listV := ⟨_, rfl⟩
  obtain ⟨uRefList2, huRefList2⟩ : ∃ u : List UInt8 → Bool, u = listB := ⟨_, rfl⟩
  have hG : TblOK Tryd.prog [(23, .p (φRNumber uRNumber uRNumber1)), (30, .p (φRefWord uRefWord)), (44, .p (φRefList uRefList uRefList1 uRefList2))] := ⟨(by rw [huRNumber, huRNumber1]; exact φRNumber_ok), (by rw [huRefWord]; exact φRefWord_ok), (by rw [huRefList, huRefList1, huRefList2]; exact φRefList_ok), trivial⟩
  obtain ⟨Z, hZ⟩ : ∃ z : Ev × Int, z = (if ws.length = 8 then orE (newV ws) (newE ws) else (ev0, 2)) := ⟨_, rfl⟩
  have hz1 : (if ws.length = 8 then (orE (newV ws) (newE ws)).1 else ev0) = Z.1 := by rw [hZ]; split <;> rfl
  have hz2 : (if ws.length = 8 then (orE (newV ws) (newE ws)).2 else 2) = Z.2 := by rw [hZ]; split <;> rfl
  rw [hz1, hz2]
  clear hz1 hz2
  obtain ⟨es, hsd⟩ : ∃ z, z = strDs ws := ⟨_, rfl⟩
  have hel : es.length = ws.length := by rw [hsd]; simp [strDs]
  rw [← hsd]
  refine ESpec.enter Tryd.func24 (by kernel_rfl) rfl (Nat.le_of_ble_eq_true rfl) fun hok cx hnt hfr => ?_
  obtain ⟨F, hF⟩ := real_ex
  refine AK.runT hF tabOK hmix hnt hfr false _ hG ?_
  conv => arg 4; cbv
  have hs : ∀ k : Nat, F .strA es (k : Int) 0 = ws.getD k [] := fun k => by rw [hsd]; exact t_strG hF ws k
  have hh : ws.length = 8 → ∀ k : Nat, k < 8 → F .hasD es (k : Int) [.str] = true := fun h k hk => by rw [hsd]; exact t_hasG hF (by omega)
  obtain ⟨w1, hw1⟩ : ∃ z, z = ws.getD 1 [] := ⟨_, rfl⟩
  obtain ⟨w2, hw2⟩ : ∃ z, z = ws.getD 2 [] := ⟨_, rfl⟩
  obtain ⟨w3, hw3⟩ : ∃ z, z = ws.getD 3 [] := ⟨_, rfl⟩
  obtain ⟨w4, hw4⟩ : ∃ z, z = ws.getD 4 [] := ⟨_, rfl⟩
  obtain ⟨w5, hw5⟩ : ∃ z, z = ws.getD 5 [] := ⟨_, rfl⟩
  obtain ⟨w6, hw6⟩ : ∃ z, z = ws.getD 6 [] := ⟨_, rfl⟩
  obtain ⟨w7, hw7⟩ : ∃ z, z = ws.getD 7 [] := ⟨_, rfl⟩
  have s1 : F .strA es 1 0 = w1 := by rw [hw1]; exact hs 1
  have s2 : F .strA es 2 0 = w2 := by rw [hw2]; exact hs 2
  have s3 : F .strA es 3 0 = w3 := by rw [hw3]; exact hs 3
  have s4 : F .strA es 4 0 = w4 := by rw [hw4]; exact hs 4
  have s5 : F .strA es 5 0 = w5 := by rw [hw5]; exact hs 5
  have s6 : F .strA es 6 0 = w6 := by rw [hw6]; exact hs 6
  have s7 : F .strA es 7 0 = w7 := by rw [hw7]; exact hs 7
  have hE : newE ws = eN w7 0 1048576 (eS w6 (eW w5 (eW w4 (eL w3 (eW w2 (eN w1 0 999999999 0)))))) := by rw [hw1, hw2, hw3, hw4, hw5, hw6, hw7]; rfl
  have hV : newV ws = ⟨1, numV w1 0 999999999, 0, w2, unStr (listV w3), w4, w5, spV w6, numV w7 0 1048576, []⟩ := by rw [hw1, hw2, hw3, hw4, hw5, hw6, hw7]; rfl
  have q3 : uRefList w3 = true := by
    rw [huRefList]
    refine decide_eq_true ?_
    have : w3.length ≤ 1000000 := by
      rw [hw3, List.getD_eq_getElem?_getD]
      cases h : ws[3]? with
      | none => exact Nat.zero_le _
      | some w => exact hw w (List.mem_of_getElem? h)
    omega
  rw [hE, hV] at hZ
  clear hE hV
  rw [s1, s2, s3, s4, s5, s6, s7]
  refine AKt.node (fun h8 => ?_) (fun h8 => ?_)
  · have hz : Z = (ev0, 2) := by
      rw [hZ, if_neg]
      simp only [hF, f_ltI, f_leI, f_eqI, f_eqS, f_eqB, f_not, f_andB, f_orB, f_lenS, f_lenD, f_hasS, f_atS, f_hasC, f_subS, f_hasCat, f_app, f_wrap, f_add, f_sub, f_mul, f_appD, f_fits, f_hasV, f_subV, decide_eq_true_eq, decide_eq_false_iff_not, beq_iff_eq, beq_eq_false_iff_ne, Bool.and_eq_true, Bool.and_eq_false_iff, Bool.not_eq_true, Bool.not_eq_false, Bool.not_eq_eq_eq_not, Bool.not_true, Bool.not_false] at h8
      omega
    repeat' (first | with_reducible refine AKt.have ?_ | with_reducible refine AKt.tt ?_ | with_reducible refine AKt.ff ?_ | with_reducible refine AKt.yes (by assumption) ?_ | with_reducible refine AKt.no (by assumption) ?_ | with_reducible refine AKt.node (fun hb => ?_) (fun hb => ?_) | with_reducible refine AKt.need ?_ (fun hb => ?_) | with_reducible refine AKt.leaf ?_ | ((with_reducible show _ = true); assumption))
    refine AKp.doneL tabOK hfr (by rfl) ?_
    rw [hz]
    exact lex1
  have l8 : ws.length = 8 := by simp only [hF, f_ltI, f_leI, f_eqI, f_eqS, f_eqB, f_not, f_andB, f_orB, f_lenS, f_lenD, f_hasS, f_atS, f_hasC, f_subS, f_hasCat, f_app, f_wrap, f_add, f_sub, f_mul, f_appD, f_fits, f_hasV, f_subV, decide_eq_true_eq, decide_eq_false_iff_not, beq_iff_eq, beq_eq_false_iff_ne, Bool.and_eq_true, Bool.and_eq_false_iff, Bool.not_eq_true, Bool.not_eq_false, Bool.not_eq_eq_eq_not, Bool.not_true, Bool.not_false] at h8; omega
  have h1 := hh l8 1 (by omega)
  have h2 := hh l8 2 (by omega)
  have h3 := hh l8 3 (by omega)
  have h4 := hh l8 4 (by omega)
  have h5 := hh l8 5 (by omega)
  have h6 := hh l8 6 (by omega)
  have h7 := hh l8 7 (by omega)
  rw [if_pos l8] at hZ
  have w6n : F .eqS w6 [] = false := by
    rw [hF, f_eqS, beq_eq_false_iff_ne, hw6, List.getD_eq_getElem?_getD, List.getElem?_eq_getElem (by omega)]
    exact hne _ (List.getElem_mem _)
  have w6m : F .not (F .eqS w6 []) = true := by rw [w6n, hF]; rfl
  have bad : ∀ e, eN w7 0 1048576 (eS w6 (eW w5 (eW w4 (eL w3 (eW w2 (eN w1 0 999999999 0)))))) = e → ¬ e = 0 → Z = (ev0, e) := fun e h h' => by rw [hZ, h, orE, if_neg h']
  have good : eN w7 0 1048576 (eS w6 (eW w5 (eW w4 (eL w3 (eW w2 (eN w1 0 999999999 0)))))) = 0 → Z = (⟨1, numV w1 0 999999999, 0, w2, unStr (listV w3), w4, w5, spV w6, numV w7 0 1048576, []⟩, 0) := fun h => by rw [hZ, h, orE, if_pos rfl]
  clear hZ hh hs hel hw l8 h8 hok hne
  repeat' (first | with_reducible refine AKt.have ?_ | with_reducible refine AKt.tt ?_ | with_reducible refine AKt.ff ?_ | with_reducible refine AKt.yes (by assumption) ?_ | with_reducible refine AKt.no (by assumption) ?_ | with_reducible refine AKt.node (fun hb => ?_) (fun hb => ?_) | with_reducible refine AKt.need ?_ (fun hb => ?_) | with_reducible refine AKt.leaf ?_ | ((with_reducible show _ = true); assumption))
  all_goals
    refine AKp.doneL tabOK hfr (by rfl) ?_
    clear h1 h2 h3 h4 h5 h6 h7 s1 s2 s3 s4 s5 s6 s7 hG q3 hsd hw1 hw2 hw3 hw4 hw5 hw6 hw7
    have ls : strDs (unStr (listV w3)) = listV w3 := by rw [listV, unStr_strDs]
    subst huRNumber huRNumber1 huRefWord huRefList huRefList1 huRefList2
    first
      | (rw [bad (rNumE w1 0 999999999) ?_ ?_]
         · exact lex1
         · clear bad good ls
           simp only [hF, f_ltI, f_leI, f_eqI, f_eqS, f_eqB, f_not, f_andB, f_orB, f_lenS, f_lenD, f_hasS, f_atS, f_hasC, f_subS, f_hasCat, f_app, f_wrap, f_add, f_sub, f_mul, f_appD, f_fits, f_hasV, f_subV, decide_eq_true_eq, decide_eq_false_iff_not, beq_iff_eq, beq_eq_false_iff_ne, Bool.and_eq_true, Bool.and_eq_false_iff, Bool.not_eq_true, Bool.not_eq_false, Bool.not_eq_eq_eq_not, Bool.not_true, Bool.not_false] at *
           simp [eN, eW, eS, eL, failV, rNumE] at *
           try simp [*]
           done
         · clear bad good ls
           simp only [hF, f_ltI, f_leI, f_eqI, f_eqS, f_eqB, f_not, f_andB, f_orB, f_lenS, f_lenD, f_hasS, f_atS, f_hasC, f_subS, f_hasCat, f_app, f_wrap, f_add, f_sub, f_mul, f_appD, f_fits, f_hasV, f_subV, decide_eq_true_eq, decide_eq_false_iff_not, beq_iff_eq, beq_eq_false_iff_ne, Bool.and_eq_true, Bool.and_eq_false_iff, Bool.not_eq_true, Bool.not_eq_false, Bool.not_eq_eq_eq_not, Bool.not_true, Bool.not_false] at *
           simp [eN, eW, eS, eL, failV, rNumE] at *
           try simp [*]
           done)
      | (rw [bad (rNumE w7 0 1048576) ?_ ?_]
         · exact lex1
         · clear bad good ls
           simp only [hF, f_ltI, f_leI, f_eqI, f_eqS, f_eqB, f_not, f_andB, f_orB, f_lenS, f_lenD, f_hasS, f_atS, f_hasC, f_subS, f_hasCat, f_app, f_wrap, f_add, f_sub, f_mul, f_appD, f_fits, f_hasV, f_subV, decide_eq_true_eq, decide_eq_false_iff_not, beq_iff_eq, beq_eq_false_iff_ne, Bool.and_eq_true, Bool.and_eq_false_iff, Bool.not_eq_true, Bool.not_eq_false, Bool.not_eq_eq_eq_not, Bool.not_true, Bool.not_false] at *
           simp [eN, eW, eS, eL, failV, rNumE] at *
           try simp [*]
           done
         · clear bad good ls
           simp only [hF, f_ltI, f_leI, f_eqI, f_eqS, f_eqB, f_not, f_andB, f_orB, f_lenS, f_lenD, f_hasS, f_atS, f_hasC, f_subS, f_hasCat, f_app, f_wrap, f_add, f_sub, f_mul, f_appD, f_fits, f_hasV, f_subV, decide_eq_true_eq, decide_eq_false_iff_not, beq_iff_eq, beq_eq_false_iff_ne, Bool.and_eq_true, Bool.and_eq_false_iff, Bool.not_eq_true, Bool.not_eq_false, Bool.not_eq_eq_eq_not, Bool.not_true, Bool.not_false] at *
           simp [eN, eW, eS, eL, failV, rNumE] at *
           try simp [*]
           done)
      | (rw [bad 4 ?_ (by decide)]
         · exact lex1
         · clear bad good ls
           simp only [hF, f_ltI, f_leI, f_eqI, f_eqS, f_eqB, f_not, f_andB, f_orB, f_lenS, f_lenD, f_hasS, f_atS, f_hasC, f_subS, f_hasCat, f_app, f_wrap, f_add, f_sub, f_mul, f_appD, f_fits, f_hasV, f_subV, decide_eq_true_eq, decide_eq_false_iff_not, beq_iff_eq, beq_eq_false_iff_ne, Bool.and_eq_true, Bool.and_eq_false_iff, Bool.not_eq_true, Bool.not_eq_false, Bool.not_eq_eq_eq_not, Bool.not_true, Bool.not_false] at *
           simp [eN, eW, eS, eL, failV, rNumE] at *
           try simp [*]
           done)
      | (rw [bad 2 ?_ (by decide)]
         · exact lex1
         · clear bad good ls
           simp only [hF, f_ltI, f_leI, f_eqI, f_eqS, f_eqB, f_not, f_andB, f_orB, f_lenS, f_lenD, f_hasS, f_atS, f_hasC, f_subS, f_hasCat, f_app, f_wrap, f_add, f_sub, f_mul, f_appD, f_fits, f_hasV, f_subV, decide_eq_true_eq, decide_eq_false_iff_not, beq_iff_eq, beq_eq_false_iff_ne, Bool.and_eq_true, Bool.and_eq_false_iff, Bool.not_eq_true, Bool.not_eq_false, Bool.not_eq_eq_eq_not, Bool.not_true, Bool.not_false] at *
           simp [eN, eW, eS, eL, failV, rNumE] at *
           try simp [*]
           done)
      | (rw [good ?_]
         · have sp1 : F .eqS w6 [45] = true → spV w6 = [] := fun h => by simp only [hF, f_ltI, f_leI, f_eqI, f_eqS, f_eqB, f_not, f_andB, f_orB, f_lenS, f_lenD, f_hasS, f_atS, f_hasC, f_subS, f_hasCat, f_app, f_wrap, f_add, f_sub, f_mul, f_appD, f_fits, f_hasV, f_subV, decide_eq_true_eq, decide_eq_false_iff_not, beq_iff_eq, beq_eq_false_iff_ne, Bool.and_eq_true, Bool.and_eq_false_iff, Bool.not_eq_true, Bool.not_eq_false, Bool.not_eq_eq_eq_not, Bool.not_true, Bool.not_false] at h; rw [spV, if_pos h]
           have sp0 : F .eqS w6 [45] = false → spV w6 = w6 := fun h => by simp only [hF, f_ltI, f_leI, f_eqI, f_eqS, f_eqB, f_not, f_andB, f_orB, f_lenS, f_lenD, f_hasS, f_atS, f_hasC, f_subS, f_hasCat, f_app, f_wrap, f_add, f_sub, f_mul, f_appD, f_fits, f_hasV, f_subV, decide_eq_true_eq, decide_eq_false_iff_not, beq_iff_eq, beq_eq_false_iff_ne, Bool.and_eq_true, Bool.and_eq_false_iff, Bool.not_eq_true, Bool.not_eq_false, Bool.not_eq_eq_eq_not, Bool.not_true, Bool.not_false] at h; rw [spV, if_neg h]
           show LeX _ (.tup [.d (.agg [_, _, _, _, .view 1 (strDs (unStr (listV w3))), _, _, .s (.str (spV w6)), _, _]), _])
           rw [ls]
           first
             | rw [sp1 (by assumption)]
             | rw [sp0 (by assumption)]
           exact .tup (.cons (.refl _) (.cons (.refl _) .nil))
         · clear bad good ls
           simp only [hF, f_ltI, f_leI, f_eqI, f_eqS, f_eqB, f_not, f_andB, f_orB, f_lenS, f_lenD, f_hasS, f_atS, f_hasC, f_subS, f_hasCat, f_app, f_wrap, f_add, f_sub, f_mul, f_appD, f_fits, f_hasV, f_subV, decide_eq_true_eq, decide_eq_false_iff_not, beq_iff_eq, beq_eq_false_iff_ne, Bool.and_eq_true, Bool.and_eq_false_iff, Bool.not_eq_true, Bool.not_eq_false, Bool.not_eq_eq_eq_not, Bool.not_true, Bool.not_false] at *
           simp [eN, eW, eS, eL, failV, rNumE] at *
           try simp [*]
           done)
def wsP (es : List Dat) : Bool := isStrs es && (unStr es).all fun w => decide (w.length ≤ 1000000) && !(w == [])
def reqV (ws : List (List UInt8)) : Ev × Int := if ws.length = 8 then orE (newV ws) (newE ws) else (ev0, 2)
theorem requestD_spec (es : List Dat) (h : wsP es = true) : ESpec Tryd.prog 24 [.d (.view 1 es)] (fun x => x = .tup [.d (reqV (unStr es)).1.dat, .d (.s (.int .i64 (reqV (unStr es)).2))]) := by
  simp only [wsP, Bool.and_eq_true, List.all_eq_true, decide_eq_true_eq, Bool.not_eq_true', beq_eq_false_iff_ne] at h
  have := request_spec (unStr es) (fun w hw => (h.2 w hw).1) (fun w hw => (h.2 w hw).2)
  rw [strDs_unStr h.1] at this
  refine this.mono fun x hx => ?_
  rw [hx]
  unfold reqV
  split <;> rfl
def φRRequest (p : List Dat → Bool) (ui : List Dat → Int) (uk un : List Dat → Int) (uu : List Dat → List UInt8) (ug : List Dat → List Dat) (uv ur us : List Dat → List UInt8) (uo : List Dat → Int) (ut : List Dat → List UInt8) (ue : List Dat → Int) : List AV → Option (Bool × AV)
  | [.d (.view 1 l)] => some (p l, .tup [.d (.agg [.s (.int .i64 (uk l)), .s (.int .i64 (ui l)), .s (.int .i64 (un l)), .s (.str (uu l)), .view 1 (ug l), .s (.str (uv l)), .s (.str (ur l)), .s (.str (us l)), .s (.int .i64 (uo l)), .s (.str (ut l))]), .d (.s (.int .i64 (ue l)))])
  | _ => none
theorem φRRequest_ok : SpOK Tryd.prog 24 (φRRequest (wsP) (fun s => (reqV (unStr s)).1.id) (fun s => (reqV (unStr s)).1.k) (fun s => (reqV (unStr s)).1.n) (fun s => (reqV (unStr s)).1.us) (fun s => strDs (reqV (unStr s)).1.gs) (fun s => (reqV (unStr s)).1.vb) (fun s => (reqV (unStr s)).1.rs) (fun s => (reqV (unStr s)).1.sp) (fun s => (reqV (unStr s)).1.ob) (fun s => (reqV (unStr s)).1.tx) (fun s => (reqV (unStr s)).2)) := by
  intro xs b x h hb
  unfold φRRequest at h
  split at h
  · simp only [Option.some.injEq, Prod.mk.injEq] at h
    obtain ⟨rfl, rfl⟩ := h
    exact requestD_spec _ hb
  · cases h
end Go.Proofs.YtmhkmoeailamlaaDoor

/- The reference writes. -/
namespace Go.Proofs.YtmhkmoeailamlaaDoor
open Go Go.Proofs Go.Ua Go.Extern
set_option linter.unusedVariables false
set_option linter.unusedSimpArgs false
set_option maxRecDepth 10000

def refS (e : Ev) : List UInt8 := if refB e = true then e.line else []
def refE (e : Ev) : Int := if refB e = true then 0 else 2
set_option maxHeartbeats 4000000 in
set_option cbv.maxSteps 10000000 in
theorem RefWrite_spec (k id n : Int) (us : List UInt8) (gs : List Dat) (vb rs sp : List UInt8) (ob : Int) (tx : List UInt8) (h : lineP us gs vb rs sp tx = true) :
    ESpec Tryd.prog 14 [.d (.agg [.s (.int .i64 k), .s (.int .i64 id), .s (.int .i64 n), .s (.str us), .view 1 gs, .s (.str vb), .s (.str rs), .s (.str sp), .s (.int .i64 ob), .s (.str tx)])]
      (fun x => x = .tup [.d (.s (.str (refS ⟨k, id, n, us, unStr gs, vb, rs, sp, ob, tx⟩))), .d (.s (.int .i64 (refE ⟨k, id, n, us, unStr gs, vb, rs, sp, ob, tx⟩)))]) := by
  obtain ⟨uRefJoin, huRefJoin⟩ : ∃ u : List Dat → Bool, u = isStrs := ⟨_, rfl⟩
  obtain ⟨uRefJoin1, huRefJoin1⟩ : ∃ u : List Dat → List UInt8, u = fun l => joinF (unStr l) := ⟨_, rfl⟩
  obtain ⟨uWithin, huWithin⟩ : ∃ u : Int → Int → Int → Bool, u = inB3 := ⟨_, rfl⟩
  obtain ⟨uRefWord, huRefWord⟩ : ∃ u : List UInt8 → Bool, u = wordF := ⟨_, rfl⟩
  obtain ⟨uRefDigits, huRefDigits⟩ : ∃ u : Int → List UInt8, u = fun n => Lib.decDigits n.toNat := ⟨_, rfl⟩
  obtain ⟨uRBare, huRBare⟩ : ∃ u : List Dat → Bool, u = isStrs := ⟨_, rfl⟩
  obtain ⟨uRBare1, huRBare1⟩ : ∃ u : Int → Int → Int → List UInt8 → List Dat → List UInt8 → List UInt8 → List UInt8 → Int → List UInt8 → Int → Int → Int → List UInt8 → Bool, u = fun k id n us gs vb rs sp ob tx k' id' n' tx' => rsameF k id n us (unStr gs) vb rs sp ob tx k' id' n' [] [] [] [] [] 0 tx' := ⟨_, rfl⟩
  have hG : TblOK Tryd.prog [(28, .p (φRefJoin uRefJoin uRefJoin1)), (29, .p (φWithin uWithin)), (30, .p (φRefWord uRefWord)), (31, .p (φRefDigits uRefDigits)), (32, .p (φRBare uRBare uRBare1))] := ⟨(by rw [huRefJoin, huRefJoin1]; exact φRefJoin_ok), (by rw [huWithin]; exact φWithin_ok), (by rw [huRefWord]; exact φRefWord_ok), (by rw [huRefDigits]; exact φRefDigits_ok), (by rw [huRBare, huRBare1]; exact φRBare_ok), trivial⟩
  have h' := h
  simp only [lineP, Bool.and_eq_true, w2, decide_eq_true_eq] at h'
  obtain ⟨hg, l1, l2, l3, l4, l5⟩ := h'
  obtain ⟨zs, hzs⟩ : ∃ z, z = refS ⟨k, id, n, us, unStr gs, vb, rs, sp, ob, tx⟩ := ⟨_, rfl⟩
  obtain ⟨ze, hze⟩ : ∃ z, z = refE ⟨k, id, n, us, unStr gs, vb, rs, sp, ob, tx⟩ := ⟨_, rfl⟩
  rw [← hzs, ← hze]
  have qj : uRefJoin gs = true := by subst huRefJoin huRefJoin1 huWithin huRefWord huRefDigits huRBare huRBare1; exact hg
  have qb : uRBare gs = true := by subst huRefJoin huRefJoin1 huWithin huRefWord huRefDigits huRBare huRBare1; exact hg
  refine ESpec.enter Tryd.func14 (by kernel_rfl) rfl (Nat.le_of_ble_eq_true rfl) fun hok cx hnt hfr => ?_
  obtain ⟨F, hF⟩ := real_ex
  refine AK.runT hF tabOK hmix hnt hfr false _ hG ?_
  conv => arg 4; cbv
  have o2 : id ≤ 9223372036854775807 := hok.1.2.1.2
  have o3 : n ≤ 9223372036854775807 := hok.1.2.2.1.2
  have o9 : ob ≤ 9223372036854775807 := hok.1.2.2.2.2.2.2.2.2.1.2
  have d2 := digI_len o2
  have d3 := digI_len o3
  have d9 := digI_len o9
  have hj := joinF_len (unStr gs)
  have ei : uRefDigits id = digI id := by subst huRefJoin huRefJoin1 huWithin huRefWord huRefDigits huRBare huRBare1; rfl
  have en : uRefDigits n = digI n := by subst huRefJoin huRefJoin1 huWithin huRefWord huRefDigits huRBare huRBare1; rfl
  have eo : uRefDigits ob = digI ob := by subst huRefJoin huRefJoin1 huWithin huRefWord huRefDigits huRBare huRBare1; rfl
  have ej : uRefJoin1 gs = joinF (unStr gs) := by subst huRefJoin huRefJoin1 huWithin huRefWord huRefDigits huRBare huRBare1; rfl
  obtain ⟨di, hdi⟩ : ∃ z, z = digI id := ⟨_, rfl⟩
  obtain ⟨dn, hdn⟩ : ∃ z, z = digI n := ⟨_, rfl⟩
  obtain ⟨dO, hdO⟩ : ∃ z, z = digI ob := ⟨_, rfl⟩
  obtain ⟨jn, hjn⟩ : ∃ z, z = joinF (unStr gs) := ⟨_, rfl⟩
  rw [ei, en, eo, ej, ← hdi, ← hdn, ← hdO, ← hjn]
  rw [← hdi] at d2
  rw [← hdn] at d3
  rw [← hdO] at d9
  rw [← hjn] at hj
  have bad : refB ⟨k, id, n, us, unStr gs, vb, rs, sp, ob, tx⟩ = false → zs = [] ∧ ze = 2 := fun h => by rw [hzs, hze, refS, refE, h]; exact ⟨rfl, rfl⟩
  have good : refB ⟨k, id, n, us, unStr gs, vb, rs, sp, ob, tx⟩ = true → zs = lineF k id n us (unStr gs) vb rs sp ob tx ∧ ze = 0 := fun h => by rw [hzs, hze, refS, refE, h]; exact ⟨rfl, rfl⟩
  have bar : ∀ k' id' n' tx', uRBare1 k id n us gs vb rs sp ob tx k' id' n' tx' = decide (Ev.mk k id n us (unStr gs) vb rs sp ob tx = ⟨k', id', n', [], [], [], [], [], 0, tx'⟩) := fun k' id' n' tx' => by
    rw [huRBare1, Bool.eq_iff_iff]
    simp only [rsameF, Bool.and_eq_true, decide_eq_true_eq, Ev.mk.injEq, show unStr [] = [] from rfl]
    constructor
    · rintro ⟨a1, a2, a3, a4, a5, a6, a7, a8, a9, a10⟩; exact ⟨a1, a2, a3, a5, a10, a6, a7, a8, a9, a4⟩
    · rintro ⟨a1, a2, a3, a5, a10, a6, a7, a8, a9, a4⟩; exact ⟨a1, a2, a3, a4, a5, a6, a7, a8, a9, a10⟩
  rw [bar, bar, bar]
  have hcat : ∀ x y : List UInt8, x.length + y.length ≤ 1000000 → F .hasCat x y = true := fun x y h => t_hasCat hF (by omega)
  have app := t_app hF
  unfold refB at bad good
  rw [← hjn] at bad good
  simp only [show ∀ a b c : Int, inB a b c = inB3 a b c from fun _ _ _ => rfl] at bad good
  clear hzs hze bar
  repeat' (first | with_reducible refine AKt.have ?_ | with_reducible refine AKt.tt ?_ | with_reducible refine AKt.ff ?_ | with_reducible refine AKt.yes (by assumption) ?_ | with_reducible refine AKt.no (by assumption) ?_ | with_reducible refine AKt.node (fun hb => ?_) (fun hb => ?_) | with_reducible refine AKt.need ?_ (fun hb => ?_) | with_reducible refine AKt.leaf ?_ | ((with_reducible show _ = true); assumption))
  all_goals try first
    | (with_reducible refine hcat _ _ ?_
       simp only [app, List.length_append, List.length_cons, List.length_nil]
       omega)
    | (refine AKp.doneE tabOK hfr (by rfl) ?_
       show _ = _
       simp only [tupAV]
       clear hcat ei en eo ej hG
       subst huWithin huRefWord
       refine (fun g => ?_) (bad ?_)
       · rw [g.1, g.2]
       · clear bad good app hjn hdi hdn hdO
         simp only [hF, f_ltI, f_leI, f_eqI, f_eqS, f_eqB, f_not, f_andB, f_orB, f_lenS, f_lenD, f_hasS, f_atS, f_hasC, f_subS, f_hasCat, f_app, f_wrap, f_add, f_sub, f_mul, f_appD, f_fits, f_hasV, f_subV, decide_eq_true_eq, decide_eq_false_iff_not, beq_iff_eq, beq_eq_false_iff_ne, Bool.and_eq_true, Bool.and_eq_false_iff, Bool.not_eq_true, Bool.not_eq_false, Bool.not_eq_eq_eq_not, Bool.not_true, Bool.not_false] at *
         first
           | (simp [*]; done)
           | (simp_all; done))
    | (refine AKp.doneE tabOK hfr (by rfl) ?_
       show _ = _
       simp only [tupAV]
       clear hcat ei en eo ej hG
       subst huWithin huRefWord
       refine (fun g => ?_) (good ?_)
       · clear bad good
         rw [g.1, g.2]
         clear g
         simp only [app]
         simp only [hF, f_ltI, f_leI, f_eqI, f_eqS, f_eqB, f_not, f_andB, f_orB, f_lenS, f_lenD, f_hasS, f_atS, f_hasC, f_subS, f_hasCat, f_app, f_wrap, f_add, f_sub, f_mul, f_appD, f_fits, f_hasV, f_subV, decide_eq_true_eq, decide_eq_false_iff_not, beq_iff_eq, beq_eq_false_iff_ne, Bool.and_eq_true, Bool.and_eq_false_iff, Bool.not_eq_true, Bool.not_eq_false, Bool.not_eq_eq_eq_not, Bool.not_true, Bool.not_false] at *
         try simp only [Ev.mk.injEq] at *
         simp [lineF, lineW, space, join_cons2, Lib.join_one, *]
         done
       · clear bad good app hjn hdi hdn hdO
         simp only [hF, f_ltI, f_leI, f_eqI, f_eqS, f_eqB, f_not, f_andB, f_orB, f_lenS, f_lenD, f_hasS, f_atS, f_hasC, f_subS, f_hasCat, f_app, f_wrap, f_add, f_sub, f_mul, f_appD, f_fits, f_hasV, f_subV, decide_eq_true_eq, decide_eq_false_iff_not, beq_iff_eq, beq_eq_false_iff_ne, Bool.and_eq_true, Bool.and_eq_false_iff, Bool.not_eq_true, Bool.not_eq_false, Bool.not_eq_eq_eq_not, Bool.not_true, Bool.not_false] at *
         try simp only [Ev.mk.injEq] at *
         simp [*]
         done)
    | (exfalso
       clear bad good app hjn hdi hdn hdO hcat
       simp only [hF, f_ltI, f_leI, f_eqI, f_eqS, f_eqB, f_not, f_andB, f_orB, f_lenS, f_lenD, f_hasS, f_atS, f_hasC, f_subS, f_hasCat, f_app, f_wrap, f_add, f_sub, f_mul, f_appD, f_fits, f_hasV, f_subV, decide_eq_true_eq, decide_eq_false_iff_not, beq_iff_eq, beq_eq_false_iff_ne, Bool.and_eq_true, Bool.and_eq_false_iff, Bool.not_eq_true, Bool.not_eq_false, Bool.not_eq_eq_eq_not, Bool.not_true, Bool.not_false] at *
       contradiction)
  · rename_i b1 b2 b3 b4 b5 b6 b7
    have k5 : k = 5 := by simp only [hF, f_ltI, f_leI, f_eqI, f_eqS, f_eqB, f_not, f_andB, f_orB, f_lenS, f_lenD, f_hasS, f_atS, f_hasC, f_subS, f_hasCat, f_app, f_wrap, f_add, f_sub, f_mul, f_appD, f_fits, f_hasV, f_subV, decide_eq_true_eq, decide_eq_false_iff_not, beq_iff_eq, beq_eq_false_iff_ne, Bool.and_eq_true, Bool.and_eq_false_iff, Bool.not_eq_true, Bool.not_eq_false, Bool.not_eq_eq_eq_not, Bool.not_true, Bool.not_false] at b5; exact b5
    have ht : tx = [] := by simp only [hF, f_ltI, f_leI, f_eqI, f_eqS, f_eqB, f_not, f_andB, f_orB, f_lenS, f_lenD, f_hasS, f_atS, f_hasC, f_subS, f_hasCat, f_app, f_wrap, f_add, f_sub, f_mul, f_appD, f_fits, f_hasV, f_subV, decide_eq_true_eq, decide_eq_false_iff_not, beq_iff_eq, beq_eq_false_iff_ne, Bool.and_eq_true, Bool.and_eq_false_iff, Bool.not_eq_true, Bool.not_eq_false, Bool.not_eq_eq_eq_not, Bool.not_true, Bool.not_false] at hb; exact hb
    have eb : Ev.mk k id n us (unStr gs) vb rs sp ob tx = ⟨5, 0, 0, [], [], [], [], [], 0, tx⟩ := by simp only [hF, f_ltI, f_leI, f_eqI, f_eqS, f_eqB, f_not, f_andB, f_orB, f_lenS, f_lenD, f_hasS, f_atS, f_hasC, f_subS, f_hasCat, f_app, f_wrap, f_add, f_sub, f_mul, f_appD, f_fits, f_hasV, f_subV, decide_eq_true_eq, decide_eq_false_iff_not, beq_iff_eq, beq_eq_false_iff_ne, Bool.and_eq_true, Bool.and_eq_false_iff, Bool.not_eq_true, Bool.not_eq_false, Bool.not_eq_eq_eq_not, Bool.not_true, Bool.not_false] at b7; exact b7
    clear bad hcat hok hG
    have g := good (by rw [if_neg (by omega), if_neg (by omega), if_neg (by omega), if_pos k5, decide_eq_true eb]; simp [ht])
    refine AKp.doneE tabOK hfr (by rfl) ?_
    show _ = _
    simp only [tupAV]
    rw [g.1, g.2, lineF, if_neg (by omega), if_neg (by omega), if_neg (by omega), if_neg (by omega), if_pos ht]
  · rename_i b1 b2 b3 b4 b5 b6 b7
    have k5 : k = 5 := by simp only [hF, f_ltI, f_leI, f_eqI, f_eqS, f_eqB, f_not, f_andB, f_orB, f_lenS, f_lenD, f_hasS, f_atS, f_hasC, f_subS, f_hasCat, f_app, f_wrap, f_add, f_sub, f_mul, f_appD, f_fits, f_hasV, f_subV, decide_eq_true_eq, decide_eq_false_iff_not, beq_iff_eq, beq_eq_false_iff_ne, Bool.and_eq_true, Bool.and_eq_false_iff, Bool.not_eq_true, Bool.not_eq_false, Bool.not_eq_eq_eq_not, Bool.not_true, Bool.not_false] at b5; exact b5
    have ht : ¬ tx = [] := by simp only [hF, f_ltI, f_leI, f_eqI, f_eqS, f_eqB, f_not, f_andB, f_orB, f_lenS, f_lenD, f_hasS, f_atS, f_hasC, f_subS, f_hasCat, f_app, f_wrap, f_add, f_sub, f_mul, f_appD, f_fits, f_hasV, f_subV, decide_eq_true_eq, decide_eq_false_iff_not, beq_iff_eq, beq_eq_false_iff_ne, Bool.and_eq_true, Bool.and_eq_false_iff, Bool.not_eq_true, Bool.not_eq_false, Bool.not_eq_eq_eq_not, Bool.not_true, Bool.not_false] at hb; exact hb
    have eb : Ev.mk k id n us (unStr gs) vb rs sp ob tx = ⟨5, 0, 0, [], [], [], [], [], 0, tx⟩ := by simp only [hF, f_ltI, f_leI, f_eqI, f_eqS, f_eqB, f_not, f_andB, f_orB, f_lenS, f_lenD, f_hasS, f_atS, f_hasC, f_subS, f_hasCat, f_app, f_wrap, f_add, f_sub, f_mul, f_appD, f_fits, f_hasV, f_subV, decide_eq_true_eq, decide_eq_false_iff_not, beq_iff_eq, beq_eq_false_iff_ne, Bool.and_eq_true, Bool.and_eq_false_iff, Bool.not_eq_true, Bool.not_eq_false, Bool.not_eq_eq_eq_not, Bool.not_true, Bool.not_false] at b7; exact b7
    have gd : (59 : UInt8) ∉ tx → zs = [108, 111, 97, 100, 32] ++ swapB 10 59 tx ∧ ze = 0 := fun h => by
      have g := good (by rw [if_neg (by omega), if_neg (by omega), if_neg (by omega), if_pos k5, decide_eq_true eb]; simp [h])
      rw [lineF, if_neg (by omega), if_neg (by omega), if_neg (by omega), if_neg (by omega), if_neg ht, replace_map (by decide)] at g
      exact g
    have bd : (59 : UInt8) ∈ tx → zs = [] ∧ ze = 2 := fun h => bad (by rw [if_neg (by omega), if_neg (by omega), if_neg (by omega), if_pos k5, decide_eq_true eb]; simp [h])
    clear bad good hcat hok b1 b2 b3 b4 b5 b6 b7 hb hjn hdi hdn hdO
    refine AKp.enterLoop 11 ?_
    conv => arg 7; cbv
    refine AKl.invT hF tabOK hmix hnt hfr false [] trivial (fun m vs hs => ∃ (i : Nat) (iv : Int) (es : List Dat), i + m = tx.length ∧ iv = i ∧ (59 : UInt8) ∉ tx.take i ∧ es = bytesDs ([108, 111, 97, 100, 32] ++ swapB 10 59 (tx.take i)) ∧ vs = [(8, .d (.s (.int .i64 iv))), (7, .row 2 1)] ∧ hs = [(0, .cs 27 [.d (.s (.int .i64 k)), .d (.s (.int .i64 id)), .d (.s (.int .i64 n)), .d (.s (.str us)), .d (.view 1 gs), .d (.s (.str vb)), .d (.s (.str rs)), .d (.s (.str sp)), .d (.s (.int .i64 ob)), .d (.s (.str tx))]), (1, .cs 25 [.d (.s (.str us)), .d (.view 1 gs), .d (.s (.str vb)), .d (.s (.str rs)), .d (.s (.str sp)), .d (.s (.int .i64 ob))]), (2, .ds 5 1 es)]) tx.length ⟨0, _, _, by omega, rfl, by simp, by rfl, rfl, rfl⟩ (by repeat (first | exact True.intro | refine ⟨⟨rfl, rfl⟩, ?_⟩)) (by repeat (first | exact True.intro | refine ⟨⟨rfl, rfl, rfl⟩, ?_⟩)) ?_
    rintro J m vs hs' hJ ⟨i, iv, es, hi, hiv, hno, hes, rfl, rfl⟩
    have hesl : es.length ≤ tx.length + 5 := by rw [hes]; simp [bytesDs, swapB]; omega
    conv => arg 4; cbv
    refine AKt.node (fun hb => ?_) (fun hb => ?_)
    · have hlt : i < tx.length := by simp only [hF, f_ltI, f_leI, f_eqI, f_eqS, f_eqB, f_not, f_andB, f_orB, f_lenS, f_lenD, f_hasS, f_atS, f_hasC, f_subS, f_hasCat, f_app, f_wrap, f_add, f_sub, f_mul, f_appD, f_fits, f_hasV, f_subV, decide_eq_true_eq, decide_eq_false_iff_not, beq_iff_eq, beq_eq_false_iff_ne, Bool.and_eq_true, Bool.and_eq_false_iff, Bool.not_eq_true, Bool.not_eq_false, Bool.not_eq_eq_eq_not, Bool.not_true, Bool.not_false] at hb; omega
      obtain ⟨x, hx⟩ : ∃ c, tx[i]? = some c := ⟨_, List.getElem?_eq_getElem hlt⟩
      have h1 : F .hasS tx iv = true := t_hasS hF hlt hiv
      obtain ⟨xv, hxv⟩ : ∃ z : Int, z = (x.toNat : Int) := ⟨_, rfl⟩
      have e1 : F .atS tx iv = xv := by rw [hxv]; exact t_atS hF hx hiv
      have hft : ∀ c : Dat, F .fits 1 (F .appD es [c]) = true := fun c => by rw [hF]; exact decide_eq_true (by show (es ++ [c]).length * 1 ≤ _; simp; omega)
      have hnext : ∀ cv : Int, cv = ((if x = 10 then (59 : UInt8) else x).toNat : Int) → F .appD es [.s (.int .u8 cv)] = bytesDs ([108, 111, 97, 100, 32] ++ swapB 10 59 (tx.take (i + 1))) := fun cv hcv => by
        rw [hF, f_appD, hes, hcv, List.take_add_one, hx]
        show _ = bytesDs ([108, 111, 97, 100, 32] ++ swapB 10 59 (_ ++ [x]))
        rw [swap_snoc, ← List.append_assoc, bytesDs_snoc]
      have hno' : ¬ x = 59 → (59 : UInt8) ∉ tx.take (i + 1) := fun h => by
        rw [List.take_add_one, hx]
        simp only [Option.toList_some, List.mem_append, List.mem_singleton, not_or]
        exact ⟨hno, fun e => h e.symm⟩
      rw [e1]
      refine AKt.need h1 fun _ => ?_
      refine AKt.node (fun hb2 => ?_) (fun hb2 => ?_)
      · have hc : x = 59 := by
          rw [hxv] at hb2
          simp only [hF, f_ltI, f_leI, f_eqI, f_eqS, f_eqB, f_not, f_andB, f_orB, f_lenS, f_lenD, f_hasS, f_atS, f_hasC, f_subS, f_hasCat, f_app, f_wrap, f_add, f_sub, f_mul, f_appD, f_fits, f_hasV, f_subV, decide_eq_true_eq, decide_eq_false_iff_not, beq_iff_eq, beq_eq_false_iff_ne, Bool.and_eq_true, Bool.and_eq_false_iff, Bool.not_eq_true, Bool.not_eq_false, Bool.not_eq_eq_eq_not, Bool.not_true, Bool.not_false] at hb2
          exact UInt8.toNat_inj.1 (by show x.toNat = 59; omega)
        obtain ⟨g1, g2⟩ := bd (by rw [← hc]; exact List.mem_of_getElem? hx)
        repeat' (first | with_reducible refine AKt.have ?_ | with_reducible refine AKt.tt ?_ | with_reducible refine AKt.ff ?_ | with_reducible refine AKt.yes (by assumption) ?_ | with_reducible refine AKt.no (by assumption) ?_ | with_reducible refine AKt.node (fun hb => ?_) (fun hb => ?_) | with_reducible refine AKt.need ?_ (fun hb => ?_) | with_reducible refine AKt.leaf ?_ | ((with_reducible show _ = true); assumption))
        refine AKp.doneE tabOK hfr (by rfl) ?_
        show _ = _
        simp only [tupAV]
        rw [g1, g2]
      have hc9 : ¬ x = 59 := fun e => by
        rw [hxv, e] at hb2
        simp only [hF, f_ltI, f_leI, f_eqI, f_eqS, f_eqB, f_not, f_andB, f_orB, f_lenS, f_lenD, f_hasS, f_atS, f_hasC, f_subS, f_hasCat, f_app, f_wrap, f_add, f_sub, f_mul, f_appD, f_fits, f_hasV, f_subV, decide_eq_true_eq, decide_eq_false_iff_not, beq_iff_eq, beq_eq_false_iff_ne, Bool.and_eq_true, Bool.and_eq_false_iff, Bool.not_eq_true, Bool.not_eq_false, Bool.not_eq_eq_eq_not, Bool.not_true, Bool.not_false] at hb2
        exact absurd rfl hb2
      refine AKt.node (fun hb3 => ?_) (fun hb3 => ?_)
      · have hc : x = 10 := by
          rw [hxv] at hb3
          simp only [hF, f_ltI, f_leI, f_eqI, f_eqS, f_eqB, f_not, f_andB, f_orB, f_lenS, f_lenD, f_hasS, f_atS, f_hasC, f_subS, f_hasCat, f_app, f_wrap, f_add, f_sub, f_mul, f_appD, f_fits, f_hasV, f_subV, decide_eq_true_eq, decide_eq_false_iff_not, beq_iff_eq, beq_eq_false_iff_ne, Bool.and_eq_true, Bool.and_eq_false_iff, Bool.not_eq_true, Bool.not_eq_false, Bool.not_eq_eq_eq_not, Bool.not_true, Bool.not_false] at hb3
          exact UInt8.toNat_inj.1 (by show x.toNat = 10; omega)
        have h10 := hft (.s (.int .u8 59))
        repeat' (first | with_reducible refine AKt.have ?_ | with_reducible refine AKt.tt ?_ | with_reducible refine AKt.ff ?_ | with_reducible refine AKt.yes (by assumption) ?_ | with_reducible refine AKt.no (by assumption) ?_ | with_reducible refine AKt.node (fun hb => ?_) (fun hb => ?_) | with_reducible refine AKt.need ?_ (fun hb => ?_) | with_reducible refine AKt.leaf ?_ | ((with_reducible show _ = true); assumption))
        refine AKp.againR [(2, 4)] _ hfr (by repeat (first | exact True.intro | refine ⟨⟨rfl, rfl⟩, ?_⟩)) (by repeat (first | exact True.intro | refine ⟨⟨Nat.le_of_ble_eq_true rfl, rfl, rfl⟩, ?_⟩)) rfl (hJ (m - 1) _ _ (by omega) ⟨i + 1, _, _, by omega, inc_i hF hiv (by omega), hno' hc9, hnext 59 (by rw [if_pos hc]; rfl), rfl, rfl⟩)
      · have hc : ¬ x = 10 := fun e => by
          rw [hxv, e] at hb3
          simp only [hF, f_ltI, f_leI, f_eqI, f_eqS, f_eqB, f_not, f_andB, f_orB, f_lenS, f_lenD, f_hasS, f_atS, f_hasC, f_subS, f_hasCat, f_app, f_wrap, f_add, f_sub, f_mul, f_appD, f_fits, f_hasV, f_subV, decide_eq_true_eq, decide_eq_false_iff_not, beq_iff_eq, beq_eq_false_iff_ne, Bool.and_eq_true, Bool.and_eq_false_iff, Bool.not_eq_true, Bool.not_eq_false, Bool.not_eq_eq_eq_not, Bool.not_true, Bool.not_false] at hb3
          exact absurd rfl hb3
        have h10 := hft (.s (.int .u8 xv))
        repeat' (first | with_reducible refine AKt.have ?_ | with_reducible refine AKt.tt ?_ | with_reducible refine AKt.ff ?_ | with_reducible refine AKt.yes (by assumption) ?_ | with_reducible refine AKt.no (by assumption) ?_ | with_reducible refine AKt.node (fun hb => ?_) (fun hb => ?_) | with_reducible refine AKt.need ?_ (fun hb => ?_) | with_reducible refine AKt.leaf ?_ | ((with_reducible show _ = true); assumption))
        refine AKp.againR [(2, 4)] _ hfr (by repeat (first | exact True.intro | refine ⟨⟨rfl, rfl⟩, ?_⟩)) (by repeat (first | exact True.intro | refine ⟨⟨Nat.le_of_ble_eq_true rfl, rfl, rfl⟩, ?_⟩)) rfl (hJ (m - 1) _ _ (by omega) ⟨i + 1, _, _, by omega, inc_i hF hiv (by omega), hno' hc9, hnext xv (by rw [if_neg hc, hxv]), rfl, rfl⟩)
    · have hge : ¬ i < tx.length := by simp only [hF, f_ltI, f_leI, f_eqI, f_eqS, f_eqB, f_not, f_andB, f_orB, f_lenS, f_lenD, f_hasS, f_atS, f_hasC, f_subS, f_hasCat, f_app, f_wrap, f_add, f_sub, f_mul, f_appD, f_fits, f_hasV, f_subV, decide_eq_true_eq, decide_eq_false_iff_not, beq_iff_eq, beq_eq_false_iff_ne, Bool.and_eq_true, Bool.and_eq_false_iff, Bool.not_eq_true, Bool.not_eq_false, Bool.not_eq_eq_eq_not, Bool.not_true, Bool.not_false] at hb; omega
      rw [List.take_of_length_le (by omega)] at hes hno
      obtain ⟨g1, g2⟩ := gd hno
      repeat' (first | with_reducible refine AKt.have ?_ | with_reducible refine AKt.tt ?_ | with_reducible refine AKt.ff ?_ | with_reducible refine AKt.yes (by assumption) ?_ | with_reducible refine AKt.no (by assumption) ?_ | with_reducible refine AKt.node (fun hb => ?_) (fun hb => ?_) | with_reducible refine AKt.need ?_ (fun hb => ?_) | with_reducible refine AKt.leaf ?_ | ((with_reducible show _ = true); assumption))
      refine AKp.freeze 2 rfl ?_
      conv => arg 4; arg 2; cbv
      refine AK.runT hF tabOK hmix hnt hfr false [] trivial ?_
      conv => arg 4; cbv
      have h1 : F .hasStr es = true := by rw [hF, f_hasStr, hes, strOf_bytes]; rfl
      have h2 : F .ofStr es = zs := by rw [hF, f_ofStr, hes, strOf_bytes, g1]; rfl
      rw [h2]
      repeat' (first | with_reducible refine AKt.have ?_ | with_reducible refine AKt.tt ?_ | with_reducible refine AKt.ff ?_ | with_reducible refine AKt.yes (by assumption) ?_ | with_reducible refine AKt.no (by assumption) ?_ | with_reducible refine AKt.node (fun hb => ?_) (fun hb => ?_) | with_reducible refine AKt.need ?_ (fun hb => ?_) | with_reducible refine AKt.leaf ?_ | ((with_reducible show _ = true); assumption))
      refine AKp.doneE tabOK hfr (by rfl) ?_
      show _ = _
      simp only [tupAV]
      rw [g2]
def φRefWrite (p : List UInt8 → List Dat → List UInt8 → List UInt8 → List UInt8 → List UInt8 → Bool) (u : Int → Int → Int → List UInt8 → List Dat → List UInt8 → List UInt8 → List UInt8 → Int → List UInt8 → List UInt8) (e : Int → Int → Int → List UInt8 → List Dat → List UInt8 → List UInt8 → List UInt8 → Int → List UInt8 → Int) : List AV → Option (Bool × AV)
  | [.d (.agg [.s (.int .i64 k), .s (.int .i64 id), .s (.int .i64 n), .s (.str us), .view 1 gs, .s (.str vb), .s (.str rs), .s (.str sp), .s (.int .i64 ob), .s (.str tx)])] => some (p us gs vb rs sp tx, .tup [.d (.s (.str (u k id n us gs vb rs sp ob tx))), .d (.s (.int .i64 (e k id n us gs vb rs sp ob tx)))])
  | _ => none
theorem φRefWrite_ok : SpOK Tryd.prog 14 (φRefWrite (lineP) (fun k id n us gs vb rs sp ob tx => refS ⟨k, id, n, us, unStr gs, vb, rs, sp, ob, tx⟩) (fun k id n us gs vb rs sp ob tx => refE ⟨k, id, n, us, unStr gs, vb, rs, sp, ob, tx⟩)) := by
  intro xs b x h hb
  unfold φRefWrite at h
  split at h
  · simp only [Option.some.injEq, Prod.mk.injEq] at h
    obtain ⟨rfl, rfl⟩ := h
    exact RefWrite_spec _ _ _ _ _ _ _ _ _ _ hb
  · cases h
end Go.Proofs.YtmhkmoeailamlaaDoor

/- The reference reads: whole. -/
namespace Go.Proofs.YtmhkmoeailamlaaDoor
open Go Go.Proofs Go.Ua Go.Extern
set_option linter.unusedVariables false
set_option linter.unusedSimpArgs false
set_option maxRecDepth 10000

theorem words_ne {s w : List UInt8} (h : w ∈ wordsF s) : w ≠ [] ∧ w.length ≤ s.length := by
  obtain ⟨h1, h2⟩ := List.mem_filter.1 h
  exact ⟨by simpa using h2, cutF_all h1⟩
theorem eN_r (w : List UInt8) (a b : Int) : eN w a b 0 = rNumE w a b := by
  unfold eN rNumE
  split
  · rfl
  · rfl
set_option maxHeartbeats 4000000 in
set_option cbv.maxSteps 10000000 in
theorem RefRead_spec (s : List UInt8) (hs : leL s = true) : ESpec Tryd.prog 10 [.d (.s (.str s))] (fun x => x = .tup [.d (readV s).dat, .d (.s (.int .i64 (readE s)))]) := by
  obtain ⟨uRefWords, huRefWords⟩ : ∃ u : List UInt8 → Bool, u = le32 := ⟨_, rfl⟩
  obtain ⟨uRefWords1, huRefWords1⟩ : ∃ u : List UInt8 → List Dat, u = fun w => strDs (wordsF w) := ⟨_, rfl⟩
  obtain ⟨uRLoad, huRLoad⟩ : ∃ u : List UInt8 → Bool, u = fun s => leL s && decide ((wordsF s).getD 0 [] = loadW) := ⟨_, rfl⟩
  obtain ⟨uRLoad1, huRLoad1⟩ : ∃ u : List UInt8 → List UInt8, u = loadF := ⟨_, rfl⟩
  obtain ⟨uRNumber, huRNumber⟩ : ∃ u : List UInt8 → Int → Int → Int, u = numV := ⟨_, rfl⟩
  obtain ⟨uRNumber1, huRNumber1⟩ : ∃ u : List UInt8 → Int → Int → Int, u = rNumE := ⟨_, rfl⟩
  obtain ⟨uRRequest, huRRequest⟩ : ∃ u : List Dat → Bool, u = wsP := ⟨_, rfl⟩
  obtain ⟨uRRequest1, huRRequest1⟩ : ∃ u : List Dat → Int, u = fun s => (reqV (unStr s)).1.id := ⟨_, rfl⟩
  obtain ⟨uRRequest2, huRRequest2⟩ : ∃ u : List Dat → Int, u = fun s => (reqV (unStr s)).1.k := ⟨_, rfl⟩
  obtain ⟨uRRequest3, huRRequest3⟩ : ∃ u : List Dat → Int, u = fun s => (reqV (unStr s)).1.n := ⟨_, rfl⟩
  obtain ⟨uRRequest4, huRRequest4⟩ : ∃ u : List Dat → List UInt8, u = fun s => (reqV (unStr s)).1.us := ⟨_, rfl⟩
  obtain ⟨uRRequest5, huRRequest5⟩ : ∃ u : List Dat → List Dat, u = fun s => strDs (reqV (unStr s)).1.gs := ⟨_, rfl⟩
  obtain ⟨uRRequest6, huRRequest6⟩ : ∃ u : List Dat → List UInt8, u = fun s => (reqV (unStr s)).1.vb := ⟨_, rfl⟩
  obtain ⟨uRRequest7, huRRequest7⟩ : ∃ u : List Dat → List UInt8, u = fun s => (reqV (unStr s)).1.rs := ⟨_, rfl⟩
  obtain ⟨uRRequest8, huRRequest8⟩ : ∃ u : List Dat → List UInt8, u = fun s => (reqV (unStr s)).1.sp := ⟨_, rfl⟩
  obtain ⟨uRRequest9, huRRequest9⟩ : ∃ u : List Dat → Int, u = fun s => (reqV (unStr s)).1.ob := ⟨_, rfl⟩
  obtain ⟨uRRequest10, huRRequest10⟩ : ∃ u : List Dat → List UInt8, u = fun s => (reqV (unStr s)).1.tx := ⟨_, rfl⟩
  obtain ⟨uRRequest11, huRRequest11⟩ : ∃ u : List Dat → Int, u = fun s => (reqV (unStr s)).2 := ⟨_, rfl⟩
  have hG : TblOK Tryd.prog [(15, .p (φRefWords uRefWords uRefWords1)), (22, .p (φRLoad uRLoad uRLoad1)), (23, .p (φRNumber uRNumber uRNumber1)), (24, .p (φRRequest uRRequest uRRequest1 uRRequest2 uRRequest3 uRRequest4 uRRequest5 uRRequest6 uRRequest7 uRRequest8 uRRequest9 uRRequest10 uRRequest11))] := ⟨(by rw [huRefWords, huRefWords1]; exact φRefWords_ok), (by rw [huRLoad, huRLoad1]; exact φRLoad_ok), (by rw [huRNumber, huRNumber1]; exact φRNumber_ok), (by rw [huRRequest, huRRequest1, huRRequest2, huRRequest3, huRRequest4, huRRequest5, huRRequest6, huRRequest7, huRRequest8, huRRequest9, huRRequest10, huRRequest11]; exact φRRequest_ok), trivial⟩
  have hl : s.length ≤ 1000000 := of_decide_eq_true hs
  have q0 : uRefWords s = true := by subst huRefWords huRefWords1 huRLoad huRLoad1 huRNumber huRNumber1 huRRequest huRRequest1 huRRequest2 huRRequest3 huRRequest4 huRRequest5 huRRequest6 huRRequest7 huRRequest8 huRRequest9 huRRequest10 huRRequest11; exact decide_eq_true (by omega)
  obtain ⟨ws, hws⟩ : ∃ z, z = wordsF s := ⟨_, rfl⟩
  obtain ⟨es, hes⟩ : ∃ z, z = uRefWords1 s := ⟨_, rfl⟩
  have hsd : es = strDs ws := by rw [hes, hws, huRefWords1]
  have hel : es.length = ws.length := by rw [hsd]; simp [strDs]
  obtain ⟨w0, hw0⟩ : ∃ z, z = ws.getD 0 [] := ⟨_, rfl⟩
  obtain ⟨w1, hw1⟩ : ∃ z, z = ws.getD 1 [] := ⟨_, rfl⟩
  obtain ⟨Z, hZ⟩ : ∃ z, z = readP s ws := ⟨_, rfl⟩
  unfold readV readE
  rw [← hws, ← hZ]
  have qr : uRRequest es = true := by
    rw [huRRequest, hsd]
    simp only [wsP, isStrs_strDs, unStr_strDs, Bool.true_and, List.all_eq_true]
    intro w hw
    rw [hws] at hw
    obtain ⟨g1, g2⟩ := words_ne hw
    simp only [Bool.and_eq_true, decide_eq_true_eq, Bool.not_eq_true', beq_eq_false_iff_ne]
    exact ⟨by omega, g1⟩
  have qv : unStr es = ws := by rw [hsd, unStr_strDs]
  refine ESpec.enter Tryd.func10 (by kernel_rfl) rfl (Nat.le_of_ble_eq_true rfl) fun hok cx hnt hfr => ?_
  obtain ⟨F, hF⟩ := real_ex
  refine AK.runT hF tabOK hmix hnt hfr false _ hG ?_
  conv => arg 4; cbv
  have s0 : F .strA es 0 0 = w0 := by rw [hsd, hw0]; exact t_strG hF ws 0
  have s1 : F .strA es 1 0 = w1 := by rw [hsd, hw1]; exact t_strG hF ws 1
  rw [← hes, s0, s1]
  refine AKt.need q0 fun _ => ?_
  refine AKt.node (fun hb => ?_) (fun hb => ?_)
  · have h0 : ws.length = 0 := by simp only [hF, f_ltI, f_leI, f_eqI, f_eqS, f_eqB, f_not, f_andB, f_orB, f_lenS, f_lenD, f_hasS, f_atS, f_hasC, f_subS, f_hasCat, f_app, f_wrap, f_add, f_sub, f_mul, f_appD, f_fits, f_hasV, f_subV, decide_eq_true_eq, decide_eq_false_iff_not, beq_iff_eq, beq_eq_false_iff_ne, Bool.and_eq_true, Bool.and_eq_false_iff, Bool.not_eq_true, Bool.not_eq_false, Bool.not_eq_eq_eq_not, Bool.not_true, Bool.not_false] at hb; omega
    have hz : Z = (ev0, 2) := by rw [hZ, readP, if_pos h0]
    repeat' (first | with_reducible refine AKt.have ?_ | with_reducible refine AKt.tt ?_ | with_reducible refine AKt.ff ?_ | with_reducible refine AKt.yes (by assumption) ?_ | with_reducible refine AKt.no (by assumption) ?_ | with_reducible refine AKt.node (fun hb => ?_) (fun hb => ?_) | with_reducible refine AKt.need ?_ (fun hb => ?_) | with_reducible refine AKt.leaf ?_ | ((with_reducible show _ = true); assumption))
    refine AKp.doneL tabOK hfr (by rfl) ?_
    rw [hz]
    exact lex1
  have h0 : ¬ ws.length = 0 := by simp only [hF, f_ltI, f_leI, f_eqI, f_eqS, f_eqB, f_not, f_andB, f_orB, f_lenS, f_lenD, f_hasS, f_atS, f_hasC, f_subS, f_hasCat, f_app, f_wrap, f_add, f_sub, f_mul, f_appD, f_fits, f_hasV, f_subV, decide_eq_true_eq, decide_eq_false_iff_not, beq_iff_eq, beq_eq_false_iff_ne, Bool.and_eq_true, Bool.and_eq_false_iff, Bool.not_eq_true, Bool.not_eq_false, Bool.not_eq_eq_eq_not, Bool.not_true, Bool.not_false] at hb; omega
  have k0 : F .hasD es 0 [.str] = true := by rw [hsd]; exact t_hasG (n := 0) hF (by omega)
  have dif : ∀ a b : List UInt8, a ≠ b → F .eqS w0 a = true → F .eqS w0 b = false := fun a b h h1 => by
    simp only [hF, f_ltI, f_leI, f_eqI, f_eqS, f_eqB, f_not, f_andB, f_orB, f_lenS, f_lenD, f_hasS, f_atS, f_hasC, f_subS, f_hasCat, f_app, f_wrap, f_add, f_sub, f_mul, f_appD, f_fits, f_hasV, f_subV, decide_eq_true_eq, decide_eq_false_iff_not, beq_iff_eq, beq_eq_false_iff_ne, Bool.and_eq_true, Bool.and_eq_false_iff, Bool.not_eq_true, Bool.not_eq_false, Bool.not_eq_eq_eq_not, Bool.not_true, Bool.not_false] at h1
    rw [hF, f_eqS, beq_eq_false_iff_ne, h1]
    exact h
  have eqw : ∀ b : List UInt8, F .eqS w0 b = true → w0 = b := fun b h => by simp only [hF, f_ltI, f_leI, f_eqI, f_eqS, f_eqB, f_not, f_andB, f_orB, f_lenS, f_lenD, f_hasS, f_atS, f_hasC, f_subS, f_hasCat, f_app, f_wrap, f_add, f_sub, f_mul, f_appD, f_fits, f_hasV, f_subV, decide_eq_true_eq, decide_eq_false_iff_not, beq_iff_eq, beq_eq_false_iff_ne, Bool.and_eq_true, Bool.and_eq_false_iff, Bool.not_eq_true, Bool.not_eq_false, Bool.not_eq_eq_eq_not, Bool.not_true, Bool.not_false] at h; exact h
  have neE : ∀ n : Int, F .not (F .eqI n 0) = true → ¬ n = 0 := fun n h => by simp only [hF, f_ltI, f_leI, f_eqI, f_eqS, f_eqB, f_not, f_andB, f_orB, f_lenS, f_lenD, f_hasS, f_atS, f_hasC, f_subS, f_hasCat, f_app, f_wrap, f_add, f_sub, f_mul, f_appD, f_fits, f_hasV, f_subV, decide_eq_true_eq, decide_eq_false_iff_not, beq_iff_eq, beq_eq_false_iff_ne, Bool.and_eq_true, Bool.and_eq_false_iff, Bool.not_eq_true, Bool.not_eq_false, Bool.not_eq_eq_eq_not, Bool.not_true, Bool.not_false] at h; exact h
  have eqE : ∀ n : Int, F .not (F .eqI n 0) = false → n = 0 := fun n h => by simp only [hF, f_ltI, f_leI, f_eqI, f_eqS, f_eqB, f_not, f_andB, f_orB, f_lenS, f_lenD, f_hasS, f_atS, f_hasC, f_subS, f_hasCat, f_app, f_wrap, f_add, f_sub, f_mul, f_appD, f_fits, f_hasV, f_subV, decide_eq_true_eq, decide_eq_false_iff_not, beq_iff_eq, beq_eq_false_iff_ne, Bool.and_eq_true, Bool.and_eq_false_iff, Bool.not_eq_true, Bool.not_eq_false, Bool.not_eq_eq_eq_not, Bool.not_true, Bool.not_false] at h; exact h
  have orZ : ∀ (v : Ev) (e : Int), Z = orE v e → ¬ e = 0 → Z = (ev0, e) := fun v e h h1 => by rw [h, orE, if_neg h1]
  have orO : ∀ (v : Ev) (e : Int), Z = orE v e → e = 0 → Z = (v, 0) := fun v e h h1 => by rw [h, orE, if_pos h1]
  have bad : ¬ w0 = [108, 111, 97, 100] → ¬ (w0 = [110, 101, 119] ∧ ws.length = 8) → ¬ (w0 = [100, 111, 110, 101] ∧ ws.length = 2) → ¬ (w0 = [100, 114, 111, 112] ∧ ws.length = 2) → ¬ (w0 = [116, 105, 99, 107] ∧ ws.length = 2) → Z = (ev0, 2) := fun g0 g1 g2 g3 g4 => by
    rw [hZ, readP, if_neg h0, ← hw0, if_neg g0, if_neg g1, if_neg g2, if_neg g3, if_neg g4]
  refine AKt.need k0 fun _ => ?_
  refine AKt.node (fun hL => ?_) (fun hL => ?_)
  · have e := eqw _ hL
    have ql : uRLoad s = true := by
      rw [huRLoad]
      show (leL s && decide ((wordsF s).getD 0 [] = loadW)) = true
      rw [hs, ← hws, ← hw0, e]
      rfl
    have hz : Z = (⟨5, 0, 0, [], [], [], [], [], 0, loadF s⟩, 0) := by rw [hZ, readP, if_neg h0, if_pos (by rw [← hw0]; exact e)]
    repeat' (first | with_reducible refine AKt.have ?_ | with_reducible refine AKt.tt ?_ | with_reducible refine AKt.ff ?_ | with_reducible refine AKt.yes (by assumption) ?_ | with_reducible refine AKt.no (by assumption) ?_ | with_reducible refine AKt.node (fun hb => ?_) (fun hb => ?_) | with_reducible refine AKt.need ?_ (fun hb => ?_) | with_reducible refine AKt.leaf ?_ | ((with_reducible show _ = true); assumption))
    refine AKp.doneL tabOK hfr (by rfl) ?_
    rw [hz, huRLoad1]
    exact .tup (.cons (.d (.agg (by repeat' first | exact .nil _ | exact .refl _ | exact .nil | refine .cons ?_ ?_))) (.cons (.refl _) .nil))
  have nL : ¬ w0 = [108, 111, 97, 100] := by simp only [hF, f_ltI, f_leI, f_eqI, f_eqS, f_eqB, f_not, f_andB, f_orB, f_lenS, f_lenD, f_hasS, f_atS, f_hasC, f_subS, f_hasCat, f_app, f_wrap, f_add, f_sub, f_mul, f_appD, f_fits, f_hasV, f_subV, decide_eq_true_eq, decide_eq_false_iff_not, beq_iff_eq, beq_eq_false_iff_ne, Bool.and_eq_true, Bool.and_eq_false_iff, Bool.not_eq_true, Bool.not_eq_false, Bool.not_eq_eq_eq_not, Bool.not_true, Bool.not_false] at hL; exact hL
  refine AKt.node (fun hDD => ?_) (fun hDD => ?_)
  · have e := eqw _ hDD
    have d3 := dif _ [116, 105, 99, 107] (by decide) hDD
    have e1 : uRNumber1 w1 0 999999999 = eN w1 0 999999999 0 := by rw [huRNumber1]; exact (eN_r _ _ _).symm
    have v1 : uRNumber w1 0 999999999 = numV w1 0 999999999 := by rw [huRNumber]
    obtain ⟨E1, hE1⟩ : ∃ z, z = eN w1 0 999999999 0 := ⟨_, rfl⟩
    rw [← hE1] at e1
    rw [e1]
    refine AKt.node (fun h2 => ?_) (fun h2 => ?_)
    · have n2 : ¬ ws.length = 2 := by simp only [hF, f_ltI, f_leI, f_eqI, f_eqS, f_eqB, f_not, f_andB, f_orB, f_lenS, f_lenD, f_hasS, f_atS, f_hasC, f_subS, f_hasCat, f_app, f_wrap, f_add, f_sub, f_mul, f_appD, f_fits, f_hasV, f_subV, decide_eq_true_eq, decide_eq_false_iff_not, beq_iff_eq, beq_eq_false_iff_ne, Bool.and_eq_true, Bool.and_eq_false_iff, Bool.not_eq_true, Bool.not_eq_false, Bool.not_eq_eq_eq_not, Bool.not_true, Bool.not_false] at h2; omega
      have hz : Z = (ev0, 2) := bad (by rw [e]; simp) (by rw [e]; simp) (fun h => n2 h.2) (fun h => n2 h.2) (fun h => n2 h.2)
      repeat' (first | with_reducible refine AKt.have ?_ | with_reducible refine AKt.tt ?_ | with_reducible refine AKt.ff ?_ | with_reducible refine AKt.yes (by assumption) ?_ | with_reducible refine AKt.no (by assumption) ?_ | with_reducible refine AKt.node (fun hb => ?_) (fun hb => ?_) | with_reducible refine AKt.need ?_ (fun hb => ?_) | with_reducible refine AKt.leaf ?_ | ((with_reducible show _ = true); assumption))
      refine AKp.doneL tabOK hfr (by rfl) ?_
      rw [hz]
      exact lex1
    · have l2 : ws.length = 2 := by simp only [hF, f_ltI, f_leI, f_eqI, f_eqS, f_eqB, f_not, f_andB, f_orB, f_lenS, f_lenD, f_hasS, f_atS, f_hasC, f_subS, f_hasCat, f_app, f_wrap, f_add, f_sub, f_mul, f_appD, f_fits, f_hasV, f_subV, decide_eq_true_eq, decide_eq_false_iff_not, beq_iff_eq, beq_eq_false_iff_ne, Bool.and_eq_true, Bool.and_eq_false_iff, Bool.not_eq_true, Bool.not_eq_false, Bool.not_eq_eq_eq_not, Bool.not_true, Bool.not_false] at h2; omega
      have k1 : F .hasD es 1 [.str] = true := by rw [hsd]; exact t_hasG (n := 1) hF (by omega)
      have hz : Z = orE ⟨2, numV w1 0 999999999, 0, [], [], [], [], [], 0, []⟩ E1 := by rw [hZ, readP, if_neg h0, ← hw0, if_neg (by rw [e]; simp), if_neg (by rw [e]; simp), if_pos ⟨e, l2⟩, hE1, hw1]
      repeat' (first | with_reducible refine AKt.have ?_ | with_reducible refine AKt.tt ?_ | with_reducible refine AKt.ff ?_ | with_reducible refine AKt.yes (by assumption) ?_ | with_reducible refine AKt.no (by assumption) ?_ | with_reducible refine AKt.node (fun hb => ?_) (fun hb => ?_) | with_reducible refine AKt.need ?_ (fun hb => ?_) | with_reducible refine AKt.leaf ?_ | ((with_reducible show _ = true); assumption))
      · refine AKp.doneL tabOK hfr (by rfl) ?_
        rw [orZ _ _ hz (neE _ ‹_›)]
        exact lex1
      · refine AKp.doneL tabOK hfr (by rfl) ?_
        rw [orO _ _ hz (eqE _ ‹_›), v1]
        exact .tup (.cons (.d (.agg (by repeat' first | exact .nil _ | exact .refl _ | exact .nil | refine .cons ?_ ?_))) (.cons (.refl _) .nil))
  have nD : ¬ w0 = [100, 111, 110, 101] := by simp only [hF, f_ltI, f_leI, f_eqI, f_eqS, f_eqB, f_not, f_andB, f_orB, f_lenS, f_lenD, f_hasS, f_atS, f_hasC, f_subS, f_hasCat, f_app, f_wrap, f_add, f_sub, f_mul, f_appD, f_fits, f_hasV, f_subV, decide_eq_true_eq, decide_eq_false_iff_not, beq_iff_eq, beq_eq_false_iff_ne, Bool.and_eq_true, Bool.and_eq_false_iff, Bool.not_eq_true, Bool.not_eq_false, Bool.not_eq_eq_eq_not, Bool.not_true, Bool.not_false] at hDD; exact hDD
  refine AKt.node (fun hDR => ?_) (fun hDR => ?_)
  · have e := eqw _ hDR
    have d3 := dif _ [116, 105, 99, 107] (by decide) hDR
    have e1 : uRNumber1 w1 0 999999999 = eN w1 0 999999999 0 := by rw [huRNumber1]; exact (eN_r _ _ _).symm
    have v1 : uRNumber w1 0 999999999 = numV w1 0 999999999 := by rw [huRNumber]
    obtain ⟨E1, hE1⟩ : ∃ z, z = eN w1 0 999999999 0 := ⟨_, rfl⟩
    rw [← hE1] at e1
    rw [e1]
    refine AKt.node (fun h2 => ?_) (fun h2 => ?_)
    · have n2 : ¬ ws.length = 2 := by simp only [hF, f_ltI, f_leI, f_eqI, f_eqS, f_eqB, f_not, f_andB, f_orB, f_lenS, f_lenD, f_hasS, f_atS, f_hasC, f_subS, f_hasCat, f_app, f_wrap, f_add, f_sub, f_mul, f_appD, f_fits, f_hasV, f_subV, decide_eq_true_eq, decide_eq_false_iff_not, beq_iff_eq, beq_eq_false_iff_ne, Bool.and_eq_true, Bool.and_eq_false_iff, Bool.not_eq_true, Bool.not_eq_false, Bool.not_eq_eq_eq_not, Bool.not_true, Bool.not_false] at h2; omega
      have hz : Z = (ev0, 2) := bad (by rw [e]; simp) (by rw [e]; simp) (fun h => n2 h.2) (fun h => n2 h.2) (fun h => n2 h.2)
      repeat' (first | with_reducible refine AKt.have ?_ | with_reducible refine AKt.tt ?_ | with_reducible refine AKt.ff ?_ | with_reducible refine AKt.yes (by assumption) ?_ | with_reducible refine AKt.no (by assumption) ?_ | with_reducible refine AKt.node (fun hb => ?_) (fun hb => ?_) | with_reducible refine AKt.need ?_ (fun hb => ?_) | with_reducible refine AKt.leaf ?_ | ((with_reducible show _ = true); assumption))
      refine AKp.doneL tabOK hfr (by rfl) ?_
      rw [hz]
      exact lex1
    · have l2 : ws.length = 2 := by simp only [hF, f_ltI, f_leI, f_eqI, f_eqS, f_eqB, f_not, f_andB, f_orB, f_lenS, f_lenD, f_hasS, f_atS, f_hasC, f_subS, f_hasCat, f_app, f_wrap, f_add, f_sub, f_mul, f_appD, f_fits, f_hasV, f_subV, decide_eq_true_eq, decide_eq_false_iff_not, beq_iff_eq, beq_eq_false_iff_ne, Bool.and_eq_true, Bool.and_eq_false_iff, Bool.not_eq_true, Bool.not_eq_false, Bool.not_eq_eq_eq_not, Bool.not_true, Bool.not_false] at h2; omega
      have k1 : F .hasD es 1 [.str] = true := by rw [hsd]; exact t_hasG (n := 1) hF (by omega)
      have hz : Z = orE ⟨3, numV w1 0 999999999, 0, [], [], [], [], [], 0, []⟩ E1 := by rw [hZ, readP, if_neg h0, ← hw0, if_neg (by rw [e]; simp), if_neg (by rw [e]; simp), if_neg (by rw [e]; simp), if_pos ⟨e, l2⟩, hE1, hw1]
      repeat' (first | with_reducible refine AKt.have ?_ | with_reducible refine AKt.tt ?_ | with_reducible refine AKt.ff ?_ | with_reducible refine AKt.yes (by assumption) ?_ | with_reducible refine AKt.no (by assumption) ?_ | with_reducible refine AKt.node (fun hb => ?_) (fun hb => ?_) | with_reducible refine AKt.need ?_ (fun hb => ?_) | with_reducible refine AKt.leaf ?_ | ((with_reducible show _ = true); assumption))
      · refine AKp.doneL tabOK hfr (by rfl) ?_
        rw [orZ _ _ hz (neE _ ‹_›)]
        exact lex1
      · refine AKp.doneL tabOK hfr (by rfl) ?_
        rw [orO _ _ hz (eqE _ ‹_›), v1]
        exact .tup (.cons (.d (.agg (by repeat' first | exact .nil _ | exact .refl _ | exact .nil | refine .cons ?_ ?_))) (.cons (.refl _) .nil))
  have nR : ¬ w0 = [100, 114, 111, 112] := by simp only [hF, f_ltI, f_leI, f_eqI, f_eqS, f_eqB, f_not, f_andB, f_orB, f_lenS, f_lenD, f_hasS, f_atS, f_hasC, f_subS, f_hasCat, f_app, f_wrap, f_add, f_sub, f_mul, f_appD, f_fits, f_hasV, f_subV, decide_eq_true_eq, decide_eq_false_iff_not, beq_iff_eq, beq_eq_false_iff_ne, Bool.and_eq_true, Bool.and_eq_false_iff, Bool.not_eq_true, Bool.not_eq_false, Bool.not_eq_eq_eq_not, Bool.not_true, Bool.not_false] at hDR; exact hDR
  refine AKt.node (fun hDT => ?_) (fun hDT => ?_)
  · have e := eqw _ hDT
    have e1 : uRNumber1 w1 1 1000 = eN w1 1 1000 0 := by rw [huRNumber1]; exact (eN_r _ _ _).symm
    have v1 : uRNumber w1 1 1000 = numV w1 1 1000 := by rw [huRNumber]
    obtain ⟨E1, hE1⟩ : ∃ z, z = eN w1 1 1000 0 := ⟨_, rfl⟩
    rw [← hE1] at e1
    rw [e1]
    refine AKt.node (fun h2 => ?_) (fun h2 => ?_)
    · have n2 : ¬ ws.length = 2 := by simp only [hF, f_ltI, f_leI, f_eqI, f_eqS, f_eqB, f_not, f_andB, f_orB, f_lenS, f_lenD, f_hasS, f_atS, f_hasC, f_subS, f_hasCat, f_app, f_wrap, f_add, f_sub, f_mul, f_appD, f_fits, f_hasV, f_subV, decide_eq_true_eq, decide_eq_false_iff_not, beq_iff_eq, beq_eq_false_iff_ne, Bool.and_eq_true, Bool.and_eq_false_iff, Bool.not_eq_true, Bool.not_eq_false, Bool.not_eq_eq_eq_not, Bool.not_true, Bool.not_false] at h2; omega
      have hz : Z = (ev0, 2) := bad (by rw [e]; simp) (by rw [e]; simp) (fun h => n2 h.2) (fun h => n2 h.2) (fun h => n2 h.2)
      repeat' (first | with_reducible refine AKt.have ?_ | with_reducible refine AKt.tt ?_ | with_reducible refine AKt.ff ?_ | with_reducible refine AKt.yes (by assumption) ?_ | with_reducible refine AKt.no (by assumption) ?_ | with_reducible refine AKt.node (fun hb => ?_) (fun hb => ?_) | with_reducible refine AKt.need ?_ (fun hb => ?_) | with_reducible refine AKt.leaf ?_ | ((with_reducible show _ = true); assumption))
      refine AKp.doneL tabOK hfr (by rfl) ?_
      rw [hz]
      exact lex1
    · have l2 : ws.length = 2 := by simp only [hF, f_ltI, f_leI, f_eqI, f_eqS, f_eqB, f_not, f_andB, f_orB, f_lenS, f_lenD, f_hasS, f_atS, f_hasC, f_subS, f_hasCat, f_app, f_wrap, f_add, f_sub, f_mul, f_appD, f_fits, f_hasV, f_subV, decide_eq_true_eq, decide_eq_false_iff_not, beq_iff_eq, beq_eq_false_iff_ne, Bool.and_eq_true, Bool.and_eq_false_iff, Bool.not_eq_true, Bool.not_eq_false, Bool.not_eq_eq_eq_not, Bool.not_true, Bool.not_false] at h2; omega
      have k1 : F .hasD es 1 [.str] = true := by rw [hsd]; exact t_hasG (n := 1) hF (by omega)
      have hz : Z = orE ⟨4, 0, numV w1 1 1000, [], [], [], [], [], 0, []⟩ E1 := by rw [hZ, readP, if_neg h0, ← hw0, if_neg (by rw [e]; simp), if_neg (by rw [e]; simp), if_neg (by rw [e]; simp), if_neg (by rw [e]; simp), if_pos ⟨e, l2⟩, hE1, hw1]
      repeat' (first | with_reducible refine AKt.have ?_ | with_reducible refine AKt.tt ?_ | with_reducible refine AKt.ff ?_ | with_reducible refine AKt.yes (by assumption) ?_ | with_reducible refine AKt.no (by assumption) ?_ | with_reducible refine AKt.node (fun hb => ?_) (fun hb => ?_) | with_reducible refine AKt.need ?_ (fun hb => ?_) | with_reducible refine AKt.leaf ?_ | ((with_reducible show _ = true); assumption))
      · refine AKp.doneL tabOK hfr (by rfl) ?_
        rw [orZ _ _ hz (neE _ ‹_›)]
        exact lex1
      · refine AKp.doneL tabOK hfr (by rfl) ?_
        rw [orO _ _ hz (eqE _ ‹_›), v1]
        exact .tup (.cons (.d (.agg (by repeat' first | exact .nil _ | exact .refl _ | exact .nil | refine .cons ?_ ?_))) (.cons (.refl _) .nil))
  have nT : ¬ w0 = [116, 105, 99, 107] := by simp only [hF, f_ltI, f_leI, f_eqI, f_eqS, f_eqB, f_not, f_andB, f_orB, f_lenS, f_lenD, f_hasS, f_atS, f_hasC, f_subS, f_hasCat, f_app, f_wrap, f_add, f_sub, f_mul, f_appD, f_fits, f_hasV, f_subV, decide_eq_true_eq, decide_eq_false_iff_not, beq_iff_eq, beq_eq_false_iff_ne, Bool.and_eq_true, Bool.and_eq_false_iff, Bool.not_eq_true, Bool.not_eq_false, Bool.not_eq_eq_eq_not, Bool.not_true, Bool.not_false] at hDT; exact hDT
  refine AKt.node (fun hN => ?_) (fun hN => ?_)
  · have e := eqw _ hN
    have hz : Z = reqV ws := by
      rw [hZ, readP, if_neg h0, ← hw0, if_neg nL, reqV]
      split
      · rename_i g; rw [if_pos g.2]
      · rename_i g
        have g8 : ¬ ws.length = 8 := fun h => g ⟨e, h⟩
        rw [if_neg (fun h => nD h.1), if_neg (fun h => nR h.1), if_neg (fun h => nT h.1), if_neg g8]
    rw [← qv] at hz
    repeat' (first | with_reducible refine AKt.have ?_ | with_reducible refine AKt.tt ?_ | with_reducible refine AKt.ff ?_ | with_reducible refine AKt.yes (by assumption) ?_ | with_reducible refine AKt.no (by assumption) ?_ | with_reducible refine AKt.node (fun hb => ?_) (fun hb => ?_) | with_reducible refine AKt.need ?_ (fun hb => ?_) | with_reducible refine AKt.leaf ?_ | ((with_reducible show _ = true); assumption))
    refine AKp.doneE tabOK hfr (by rfl) ?_
    show _ = _
    simp only [tupAV]
    rw [hz]
    subst huRefWords huRefWords1 huRLoad huRLoad1 huRNumber huRNumber1 huRRequest huRRequest1 huRRequest2 huRRequest3 huRRequest4 huRRequest5 huRRequest6 huRRequest7 huRRequest8 huRRequest9 huRRequest10 huRRequest11
    rfl
  · have nN : ¬ w0 = [110, 101, 119] := by simp only [hF, f_ltI, f_leI, f_eqI, f_eqS, f_eqB, f_not, f_andB, f_orB, f_lenS, f_lenD, f_hasS, f_atS, f_hasC, f_subS, f_hasCat, f_app, f_wrap, f_add, f_sub, f_mul, f_appD, f_fits, f_hasV, f_subV, decide_eq_true_eq, decide_eq_false_iff_not, beq_iff_eq, beq_eq_false_iff_ne, Bool.and_eq_true, Bool.and_eq_false_iff, Bool.not_eq_true, Bool.not_eq_false, Bool.not_eq_eq_eq_not, Bool.not_true, Bool.not_false] at hN; exact hN
    have hz := bad nL (fun h => nN h.1) (fun h => nD h.1) (fun h => nR h.1) (fun h => nT h.1)
    repeat' (first | with_reducible refine AKt.have ?_ | with_reducible refine AKt.tt ?_ | with_reducible refine AKt.ff ?_ | with_reducible refine AKt.yes (by assumption) ?_ | with_reducible refine AKt.no (by assumption) ?_ | with_reducible refine AKt.node (fun hb => ?_) (fun hb => ?_) | with_reducible refine AKt.need ?_ (fun hb => ?_) | with_reducible refine AKt.leaf ?_ | ((with_reducible show _ = true); assumption))
    refine AKp.doneL tabOK hfr (by rfl) ?_
    rw [hz]
    exact lex1
def φRefRead (p : List UInt8 → Bool) (uk ui un : List UInt8 → Int) (uu : List UInt8 → List UInt8) (ug : List UInt8 → List Dat) (uv ur us : List UInt8 → List UInt8) (uo : List UInt8 → Int) (ut : List UInt8 → List UInt8) (ue : List UInt8 → Int) : List AV → Option (Bool × AV)
  | [.d (.s (.str s))] => some (p s, .tup [.d (.agg [.s (.int .i64 (uk s)), .s (.int .i64 (ui s)), .s (.int .i64 (un s)), .s (.str (uu s)), .view 1 (ug s), .s (.str (uv s)), .s (.str (ur s)), .s (.str (us s)), .s (.int .i64 (uo s)), .s (.str (ut s))]), .d (.s (.int .i64 (ue s)))])
  | _ => none
theorem φRefRead_ok : SpOK Tryd.prog 10 (φRefRead (leL) (fun s => (readV s).k) (fun s => (readV s).id) (fun s => (readV s).n) (fun s => (readV s).us) (fun s => strDs (readV s).gs) (fun s => (readV s).vb) (fun s => (readV s).rs) (fun s => (readV s).sp) (fun s => (readV s).ob) (fun s => (readV s).tx) (readE)) := by
  intro xs b x h hb
  unfold φRefRead at h
  split at h
  · simp only [Option.some.injEq, Prod.mk.injEq] at h
    obtain ⟨rfl, rfl⟩ := h
    exact RefRead_spec _ hb
  · cases h
end Go.Proofs.YtmhkmoeailamlaaDoor

/- What isn't too great; the fixed answers. -/
namespace Go.Proofs.YtmhkmoeailamlaaDoor
open Go Go.Proofs Go.Ua Go.Extern
set_option linter.unusedVariables false
set_option linter.unusedSimpArgs false
set_option maxRecDepth 10000

def smallF (us : List UInt8) (gs : List (List UInt8)) (vb rs sp : List UInt8) : Bool := decide (us.length ≤ 1000) && (decide (vb.length ≤ 1000) && (decide (rs.length ≤ 1000) && (decide (sp.length ≤ 1000) && (decide (gs.length ≤ 40) && gs.all fun w => decide (w.length ≤ 1000)))))
theorem small15_spec (us : List UInt8) (gs : List Dat) (vb rs sp : List UInt8) (ob : Int) (hg : isStrs gs = true) :
    ESpec Tryd.prog 12 [.d (.agg [.s (.str us), .view 1 gs, .s (.str vb), .s (.str rs), .s (.str sp), .s (.int .i64 ob)])] (fun x => x = .d (.s (.bool (smallF us (unStr gs) vb rs sp)))) := by
  obtain ⟨Z, hZ⟩ : ∃ z, z = smallF us (unStr gs) vb rs sp := ⟨_, rfl⟩
  rw [← hZ]
  obtain ⟨l, hl⟩ : ∃ l, l = unStr gs := ⟨_, rfl⟩
  have hgl : gs = strDs l := by rw [hl, strDs_unStr hg]
  have hel : gs.length = l.length := by rw [hgl]; simp [strDs]
  rw [← hl] at hZ
  have no : (us.length > 1000 ∨ vb.length > 1000 ∨ rs.length > 1000 ∨ sp.length > 1000 ∨ l.length > 40) → Z = false := fun h => by
    rw [hZ, Bool.eq_false_iff]
    intro h2
    simp only [smallF, Bool.and_eq_true, decide_eq_true_eq] at h2
    omega
  refine ESpec.enter Tryd.func12 (by kernel_rfl) rfl (Nat.le_of_ble_eq_true rfl) fun hok cx hnt hfr => ?_
  obtain ⟨F, hF⟩ := real_ex
  refine AK.runT hF tabOK hmix hnt hfr false [] trivial ?_
  conv => arg 4; cbv
  repeat' (first | with_reducible refine AKt.have ?_ | with_reducible refine AKt.tt ?_ | with_reducible refine AKt.ff ?_ | with_reducible refine AKt.yes (by assumption) ?_ | with_reducible refine AKt.no (by assumption) ?_ | with_reducible refine AKt.node (fun hb => ?_) (fun hb => ?_) | with_reducible refine AKt.need ?_ (fun hb => ?_) | with_reducible refine AKt.leaf ?_ | ((with_reducible show _ = true); assumption))
  all_goals try (
    show AKp _ _ _ _
    refine AKp.doneE tabOK hfr (by rfl) ?_
    show _ = _
    simp only [tupAV]
    rw [no (by
      clear no hZ hok
      simp only [hF, f_ltI, f_leI, f_eqI, f_eqS, f_eqB, f_not, f_andB, f_orB, f_lenS, f_lenD, f_hasS, f_atS, f_hasC, f_subS, f_hasCat, f_app, f_wrap, f_add, f_sub, f_mul, f_appD, f_fits, f_hasV, f_subV, decide_eq_true_eq, decide_eq_false_iff_not, beq_iff_eq, beq_eq_false_iff_ne, Bool.and_eq_true, Bool.and_eq_false_iff, Bool.not_eq_true, Bool.not_eq_false, Bool.not_eq_eq_eq_not, Bool.not_true, Bool.not_false] at *
      omega)]
    done)
  rename_i b1 b2 b3 b4
  have hsz : us.length ≤ 1000 ∧ vb.length ≤ 1000 ∧ rs.length ≤ 1000 ∧ sp.length ≤ 1000 ∧ l.length ≤ 40 := by
    clear no hZ hok
    simp only [hF, f_ltI, f_leI, f_eqI, f_eqS, f_eqB, f_not, f_andB, f_orB, f_lenS, f_lenD, f_hasS, f_atS, f_hasC, f_subS, f_hasCat, f_app, f_wrap, f_add, f_sub, f_mul, f_appD, f_fits, f_hasV, f_subV, decide_eq_true_eq, decide_eq_false_iff_not, beq_iff_eq, beq_eq_false_iff_ne, Bool.and_eq_true, Bool.and_eq_false_iff, Bool.not_eq_true, Bool.not_eq_false, Bool.not_eq_eq_eq_not, Bool.not_true, Bool.not_false] at *
    omega
  have hZ2 : Z = l.all fun w => decide (w.length ≤ 1000) := by
    rw [hZ, smallF]
    simp only [decide_eq_true hsz.1, decide_eq_true hsz.2.1, decide_eq_true hsz.2.2.1, decide_eq_true hsz.2.2.2.1, decide_eq_true hsz.2.2.2.2, Bool.true_and]
  clear no hZ b1 b2 b3 b4
  refine AKp.enterLoop 4 ?_
  conv => arg 7; cbv
  refine AKl.invT hF tabOK hmix hnt hfr false [] trivial (fun m vs hs => ∃ (i : Nat) (iv : Int), i + m = l.length ∧ iv = i ∧ (l.take i).all (fun w => decide (w.length ≤ 1000)) = true ∧ vs = [(3, .d (.s (.int .i64 iv)))] ∧ hs = [(0, .cs 25 [.d (.s (.str us)), .d (.view 1 gs), .d (.s (.str vb)), .d (.s (.str rs)), .d (.s (.str sp)), .d (.s (.int .i64 ob))])]) l.length ⟨0, _, by omega, rfl, by simp, rfl, rfl⟩ (by repeat (first | exact True.intro | refine ⟨⟨rfl, rfl⟩, ?_⟩)) (by repeat (first | exact True.intro | refine ⟨⟨rfl, rfl, rfl⟩, ?_⟩)) ?_
  rintro J m vs hs' hJ ⟨i, iv, hi, hiv, hall, rfl, rfl⟩
  conv => arg 4; cbv
  refine AKt.node (fun hb => ?_) (fun hb => ?_)
  · have hlt : i < l.length := by simp only [hF, f_ltI, f_leI, f_eqI, f_eqS, f_eqB, f_not, f_andB, f_orB, f_lenS, f_lenD, f_hasS, f_atS, f_hasC, f_subS, f_hasCat, f_app, f_wrap, f_add, f_sub, f_mul, f_appD, f_fits, f_hasV, f_subV, decide_eq_true_eq, decide_eq_false_iff_not, beq_iff_eq, beq_eq_false_iff_ne, Bool.and_eq_true, Bool.and_eq_false_iff, Bool.not_eq_true, Bool.not_eq_false, Bool.not_eq_eq_eq_not, Bool.not_true, Bool.not_false] at hb; omega
    obtain ⟨x, hx⟩ : ∃ c, l[i]? = some c := ⟨_, List.getElem?_eq_getElem hlt⟩
    have h1 : F .hasD gs iv [.str] = true := by rw [hgl]; exact t_hasStrs hF hlt hiv
    have e1 : F .strA gs iv 0 = x := by rw [hgl]; exact t_str0 hF hx hiv
    rw [e1]
    refine AKt.need h1 fun _ => ?_
    refine AKt.node (fun hb2 => ?_) (fun hb2 => ?_)
    · have hx2 : ¬ x.length ≤ 1000 := by simp only [hF, f_ltI, f_leI, f_eqI, f_eqS, f_eqB, f_not, f_andB, f_orB, f_lenS, f_lenD, f_hasS, f_atS, f_hasC, f_subS, f_hasCat, f_app, f_wrap, f_add, f_sub, f_mul, f_appD, f_fits, f_hasV, f_subV, decide_eq_true_eq, decide_eq_false_iff_not, beq_iff_eq, beq_eq_false_iff_ne, Bool.and_eq_true, Bool.and_eq_false_iff, Bool.not_eq_true, Bool.not_eq_false, Bool.not_eq_eq_eq_not, Bool.not_true, Bool.not_false] at hb2; omega
      have hz : Z = false := by
        rw [hZ2, Bool.eq_false_iff]
        intro h
        exact hx2 (of_decide_eq_true (List.all_eq_true.1 h x (List.mem_of_getElem? hx)))
      repeat' (first | with_reducible refine AKt.have ?_ | with_reducible refine AKt.tt ?_ | with_reducible refine AKt.ff ?_ | with_reducible refine AKt.yes (by assumption) ?_ | with_reducible refine AKt.no (by assumption) ?_ | with_reducible refine AKt.node (fun hb => ?_) (fun hb => ?_) | with_reducible refine AKt.need ?_ (fun hb => ?_) | with_reducible refine AKt.leaf ?_ | ((with_reducible show _ = true); assumption))
      refine AKp.doneE tabOK hfr (by rfl) ?_
      show _ = _
      simp only [tupAV]
      rw [hz]
    · have hx2 : x.length ≤ 1000 := by simp only [hF, f_ltI, f_leI, f_eqI, f_eqS, f_eqB, f_not, f_andB, f_orB, f_lenS, f_lenD, f_hasS, f_atS, f_hasC, f_subS, f_hasCat, f_app, f_wrap, f_add, f_sub, f_mul, f_appD, f_fits, f_hasV, f_subV, decide_eq_true_eq, decide_eq_false_iff_not, beq_iff_eq, beq_eq_false_iff_ne, Bool.and_eq_true, Bool.and_eq_false_iff, Bool.not_eq_true, Bool.not_eq_false, Bool.not_eq_eq_eq_not, Bool.not_true, Bool.not_false] at hb2; omega
      repeat' (first | with_reducible refine AKt.have ?_ | with_reducible refine AKt.tt ?_ | with_reducible refine AKt.ff ?_ | with_reducible refine AKt.yes (by assumption) ?_ | with_reducible refine AKt.no (by assumption) ?_ | with_reducible refine AKt.node (fun hb => ?_) (fun hb => ?_) | with_reducible refine AKt.need ?_ (fun hb => ?_) | with_reducible refine AKt.leaf ?_ | ((with_reducible show _ = true); assumption))
      refine AKp.again _ hfr (by repeat (first | exact True.intro | refine ⟨⟨rfl, rfl⟩, ?_⟩)) (by repeat (first | exact True.intro | refine ⟨⟨rfl, rfl, rfl⟩, ?_⟩)) (hJ (m - 1) _ _ (by omega) ⟨i + 1, _, by omega, inc_i hF hiv (by omega), ?_, rfl, rfl⟩)
      rw [List.take_add_one, hx, List.all_append, hall]
      simp [hx2]
  · have hge : ¬ i < l.length := by simp only [hF, f_ltI, f_leI, f_eqI, f_eqS, f_eqB, f_not, f_andB, f_orB, f_lenS, f_lenD, f_hasS, f_atS, f_hasC, f_subS, f_hasCat, f_app, f_wrap, f_add, f_sub, f_mul, f_appD, f_fits, f_hasV, f_subV, decide_eq_true_eq, decide_eq_false_iff_not, beq_iff_eq, beq_eq_false_iff_ne, Bool.and_eq_true, Bool.and_eq_false_iff, Bool.not_eq_true, Bool.not_eq_false, Bool.not_eq_eq_eq_not, Bool.not_true, Bool.not_false] at hb; omega
    rw [List.take_of_length_le (by omega), ← hZ2] at hall
    repeat' (first | with_reducible refine AKt.have ?_ | with_reducible refine AKt.tt ?_ | with_reducible refine AKt.ff ?_ | with_reducible refine AKt.yes (by assumption) ?_ | with_reducible refine AKt.no (by assumption) ?_ | with_reducible refine AKt.node (fun hb => ?_) (fun hb => ?_) | with_reducible refine AKt.need ?_ (fun hb => ?_) | with_reducible refine AKt.leaf ?_ | ((with_reducible show _ = true); assumption))
    refine AKp.doneE tabOK hfr (by rfl) ?_
    show _ = _
    simp only [tupAV]
    rw [hall]
def φSmall15 (p : List Dat → Bool) (u : List UInt8 → List Dat → List UInt8 → List UInt8 → List UInt8 → Bool) : List AV → Option (Bool × AV)
  | [.d (.agg [.s (.str us), .view 1 gs, .s (.str vb), .s (.str rs), .s (.str sp), .s (.int .i64 ob)])] => some (p gs, .d (.s (.bool (u us gs vb rs sp))))
  | _ => none
theorem φSmall15_ok : SpOK Tryd.prog 12 (φSmall15 (isStrs) (fun us gs vb rs sp => smallF us (unStr gs) vb rs sp)) := by
  intro xs b x h hb
  unfold φSmall15 at h
  split at h
  · simp only [Option.some.injEq, Prod.mk.injEq] at h
    obtain ⟨rfl, rfl⟩ := h
    exact small15_spec _ _ _ _ _ _ hb
  · cases h

theorem awake_read : readV [110, 101, 119, 32, 55, 32, 117, 32, 45, 32, 103, 101, 116, 32, 112, 111, 100, 115, 32, 110, 115, 32, 51] = ⟨1, 7, 0, [117], [], [103, 101, 116], [112, 111, 100, 115], [110, 115], 3, []⟩ ∧ readE [110, 101, 119, 32, 55, 32, 117, 32, 45, 32, 103, 101, 116, 32, 112, 111, 100, 115, 32, 110, 115, 32, 51] = 0 := by
  have h := ref_read (e := ⟨1, 7, 0, [117], [], [103, 101, 116], [112, 111, 100, 115], [110, 115], 3, []⟩) (by decide +kernel)
  have e : (Ev.mk 1 7 0 [117] [] [103, 101, 116] [112, 111, 100, 115] [110, 115] 3 []).line = [110, 101, 119, 32, 55, 32, 117, 32, 45, 32, 103, 101, 116, 32, 112, 111, 100, 115, 32, 110, 115, 32, 51] := by decide +kernel
  rw [e] at h
  exact h
theorem awake_write : writeS ⟨4, 0, 5, [], [], [], [], [], 0, []⟩ = [116, 105, 99, 107, 32, 53] ∧ writeE ⟨4, 0, 5, [], [], [], [], [], 0, []⟩ = 0 := by
  have h : refB ⟨4, 0, 5, [], [], [], [], [], 0, []⟩ = true := by decide +kernel
  rw [← okW_ref] at h
  rw [writeS, writeE, if_pos h, if_pos h]
  exact ⟨by decide +kernel, rfl⟩
set_option maxHeartbeats 4000000 in
set_option cbv.maxSteps 10000000 in
theorem awake_spec : ESpec Tryd.prog 8 [] (fun x => x = .d (.s (.bool true))) := by
  obtain ⟨uRead, huRead⟩ : ∃ u : List UInt8 → Bool, u = leL := ⟨_, rfl⟩
  obtain ⟨uRead1, huRead1⟩ : ∃ u : List UInt8 → Int, u = fun s => (readV s).k := ⟨_, rfl⟩
  obtain ⟨uRead2, huRead2⟩ : ∃ u : List UInt8 → Int, u = fun s => (readV s).id := ⟨_, rfl⟩
  obtain ⟨uRead3, huRead3⟩ : ∃ u : List UInt8 → Int, u = fun s => (readV s).n := ⟨_, rfl⟩
  obtain ⟨uRead4, huRead4⟩ : ∃ u : List UInt8 → List UInt8, u = fun s => (readV s).us := ⟨_, rfl⟩
  obtain ⟨uRead5, huRead5⟩ : ∃ u : List UInt8 → List Dat, u = fun s => strDs (readV s).gs := ⟨_, rfl⟩
  obtain ⟨uRead6, huRead6⟩ : ∃ u : List UInt8 → List UInt8, u = fun s => (readV s).vb := ⟨_, rfl⟩
  obtain ⟨uRead7, huRead7⟩ : ∃ u : List UInt8 → List UInt8, u = fun s => (readV s).rs := ⟨_, rfl⟩
  obtain ⟨uRead8, huRead8⟩ : ∃ u : List UInt8 → List UInt8, u = fun s => (readV s).sp := ⟨_, rfl⟩
  obtain ⟨uRead9, huRead9⟩ : ∃ u : List UInt8 → Int, u = fun s => (readV s).ob := ⟨_, rfl⟩
  obtain ⟨uRead10, huRead10⟩ : ∃ u : List UInt8 → List UInt8, u = fun s => (readV s).tx := ⟨_, rfl⟩
  obtain ⟨uRead11, huRead11⟩ : ∃ u : List UInt8 → Int, u = readE := ⟨_, rfl⟩
  obtain ⟨uWrite, huWrite⟩ : ∃ u : List UInt8 → List Dat → List UInt8 → List UInt8 → List UInt8 → List UInt8 → Bool, u = lineP := ⟨_, rfl⟩
  obtain ⟨uWrite1, huWrite1⟩ : ∃ u : Int → Int → Int → List UInt8 → List Dat → List UInt8 → List UInt8 → List UInt8 → Int → List UInt8 → List UInt8, u = fun k id n us gs vb rs sp ob tx => writeS ⟨k, id, n, us, unStr gs, vb, rs, sp, ob, tx⟩ := ⟨_, rfl⟩
  obtain ⟨uWrite2, huWrite2⟩ : ∃ u : Int → Int → Int → List UInt8 → List Dat → List UInt8 → List UInt8 → List UInt8 → Int → List UInt8 → Int, u = fun k id n us gs vb rs sp ob tx => writeE ⟨k, id, n, us, unStr gs, vb, rs, sp, ob, tx⟩ := ⟨_, rfl⟩
  have hG : TblOK Tryd.prog [(9, .p (φRead uRead uRead1 uRead2 uRead3 uRead4 uRead5 uRead6 uRead7 uRead8 uRead9 uRead10 uRead11)), (13, .p (φWrite uWrite uWrite1 uWrite2))] := ⟨(by rw [huRead, huRead1, huRead2, huRead3, huRead4, huRead5, huRead6, huRead7, huRead8, huRead9, huRead10, huRead11]; exact φRead_ok), (by rw [huWrite, huWrite1, huWrite2]; exact φWrite_ok), trivial⟩
  obtain ⟨ln, hln⟩ : ∃ z, z = ([110, 101, 119, 32, 55, 32, 117, 32, 45, 32, 103, 101, 116, 32, 112, 111, 100, 115, 32, 110, 115, 32, 51] : List UInt8) := ⟨_, rfl⟩
  have r2 : uRead2 ln = 7 := by rw [huRead2, hln]; show (readV _).id = 7; rw [awake_read.1]
  have r9 : uRead9 ln = 3 := by rw [huRead9, hln]; show (readV _).ob = 3; rw [awake_read.1]
  have r11 : uRead11 ln = 0 := by rw [huRead11, hln]; exact awake_read.2
  have qr : uRead ln = true := by rw [huRead, hln]; decide
  have qw : uWrite [] [] [] [] [] [] = true := by rw [huWrite]; decide
  have f1 : uWrite1 4 0 5 [] [] [] [] [] 0 [] = [116, 105, 99, 107, 32, 53] := by rw [huWrite1]; exact awake_write.1
  have f2 : uWrite2 4 0 5 [] [] [] [] [] 0 [] = 0 := by rw [huWrite2]; exact awake_write.2
  refine ESpec.enter Tryd.func8 (by kernel_rfl) rfl (Nat.le_of_ble_eq_true rfl) fun hok cx hnt hfr => ?_
  obtain ⟨F, hF⟩ := real_ex
  refine AK.runT hF tabOK hmix hnt hfr false _ hG ?_
  conv => arg 4; cbv
  have eqS : ∀ b : List UInt8, F .eqS b b = true := fun b => by rw [hF, f_eqS]; simp
  have eqI : ∀ b : Int, F .eqI b b = true := fun b => by rw [hF, f_eqI]; simp
  rw [← hln, r2, r9, r11, f1, f2, eqS, eqI, eqI, eqI]
  repeat' (first | with_reducible refine AKt.have ?_ | with_reducible refine AKt.tt ?_ | with_reducible refine AKt.ff ?_ | with_reducible refine AKt.yes (by assumption) ?_ | with_reducible refine AKt.no (by assumption) ?_ | with_reducible refine AKt.node (fun hb => ?_) (fun hb => ?_) | with_reducible refine AKt.need ?_ (fun hb => ?_) | with_reducible refine AKt.leaf ?_ | ((with_reducible show _ = true); assumption))
  all_goals exact AKp.doneE tabOK hfr (by rfl) (by rfl)
def φAwake26  : List AV → Option (Bool × AV)
  | [] => some (true, .d (.s (.bool true)))
  | _ => none
theorem φAwake26_ok : SpOK Tryd.prog 8 (φAwake26 ) := by
  intro xs b x h hb
  unfold φAwake26 at h
  split at h
  · simp only [Option.some.injEq, Prod.mk.injEq] at h
    obtain ⟨rfl, rfl⟩ := h
    exact awake_spec
  · cases h
end Go.Proofs.YtmhkmoeailamlaaDoor

/- Four laws of events: the functions return true. -/
namespace Go.Proofs.YtmhkmoeailamlaaDoor
open Go Go.Proofs Go.Ua Go.Extern
set_option linter.unusedVariables false
set_option linter.unusedSimpArgs false
set_option maxRecDepth 10000

theorem rsame_refl (k id n : Int) (us : List UInt8) (gs : List (List UInt8)) (vb rs sp : List UInt8) (ob : Int) (tx : List UInt8) : rsameF k id n us gs vb rs sp ob tx k id n us gs vb rs sp ob tx = true := by simp [rsameF]
def Ev.rsame (e f : Ev) : Bool := rsameF e.k e.id e.n e.us e.gs e.vb e.rs e.sp e.ob e.tx f.k f.id f.n f.us f.gs f.vb f.rs f.sp f.ob f.tx
theorem Ev.rsame_refl (e : Ev) : e.rsame e = true := by simp [Ev.rsame, rsameF]

set_option maxHeartbeats 4000000 in
set_option cbv.maxSteps 10000000 in
theorem EventReads_spec (s : List UInt8) : ESpec Tryd.prog 3 [.d (.s (.str s))] (fun x => x = .d (.s (.bool true))) := by
  obtain ⟨uRead, huRead⟩ : ∃ u : List UInt8 → Bool, u = leL := ⟨_, rfl⟩
  obtain ⟨uRead1, huRead1⟩ : ∃ u : List UInt8 → Int, u = fun s => (readV s).k := ⟨_, rfl⟩
  obtain ⟨uRead2, huRead2⟩ : ∃ u : List UInt8 → Int, u = fun s => (readV s).id := ⟨_, rfl⟩
  obtain ⟨uRead3, huRead3⟩ : ∃ u : List UInt8 → Int, u = fun s => (readV s).n := ⟨_, rfl⟩
  obtain ⟨uRead4, huRead4⟩ : ∃ u : List UInt8 → List UInt8, u = fun s => (readV s).us := ⟨_, rfl⟩
  obtain ⟨uRead5, huRead5⟩ : ∃ u : List UInt8 → List Dat, u = fun s => strDs (readV s).gs := ⟨_, rfl⟩
  obtain ⟨uRead6, huRead6⟩ : ∃ u : List UInt8 → List UInt8, u = fun s => (readV s).vb := ⟨_, rfl⟩
  obtain ⟨uRead7, huRead7⟩ : ∃ u : List UInt8 → List UInt8, u = fun s => (readV s).rs := ⟨_, rfl⟩
  obtain ⟨uRead8, huRead8⟩ : ∃ u : List UInt8 → List UInt8, u = fun s => (readV s).sp := ⟨_, rfl⟩
  obtain ⟨uRead9, huRead9⟩ : ∃ u : List UInt8 → Int, u = fun s => (readV s).ob := ⟨_, rfl⟩
  obtain ⟨uRead10, huRead10⟩ : ∃ u : List UInt8 → List UInt8, u = fun s => (readV s).tx := ⟨_, rfl⟩
  obtain ⟨uRead11, huRead11⟩ : ∃ u : List UInt8 → Int, u = readE := ⟨_, rfl⟩
  obtain ⟨uRefRead, huRefRead⟩ : ∃ u : List UInt8 → Bool, u = leL := ⟨_, rfl⟩
  obtain ⟨uRefRead1, huRefRead1⟩ : ∃ u : List UInt8 → Int, u = fun s => (readV s).k := ⟨_, rfl⟩
  obtain ⟨uRefRead2, huRefRead2⟩ : ∃ u : List UInt8 → Int, u = fun s => (readV s).id := ⟨_, rfl⟩
  obtain ⟨uRefRead3, huRefRead3⟩ : ∃ u : List UInt8 → Int, u = fun s => (readV s).n := ⟨_, rfl⟩
  obtain ⟨uRefRead4, huRefRead4⟩ : ∃ u : List UInt8 → List UInt8, u = fun s => (readV s).us := ⟨_, rfl⟩
  obtain ⟨uRefRead5, huRefRead5⟩ : ∃ u : List UInt8 → List Dat, u = fun s => strDs (readV s).gs := ⟨_, rfl⟩
  obtain ⟨uRefRead6, huRefRead6⟩ : ∃ u : List UInt8 → List UInt8, u = fun s => (readV s).vb := ⟨_, rfl⟩
  obtain ⟨uRefRead7, huRefRead7⟩ : ∃ u : List UInt8 → List UInt8, u = fun s => (readV s).rs := ⟨_, rfl⟩
  obtain ⟨uRefRead8, huRefRead8⟩ : ∃ u : List UInt8 → List UInt8, u = fun s => (readV s).sp := ⟨_, rfl⟩
  obtain ⟨uRefRead9, huRefRead9⟩ : ∃ u : List UInt8 → Int, u = fun s => (readV s).ob := ⟨_, rfl⟩
  obtain ⟨uRefRead10, huRefRead10⟩ : ∃ u : List UInt8 → List UInt8, u = fun s => (readV s).tx := ⟨_, rfl⟩
  obtain ⟨uRefRead11, huRefRead11⟩ : ∃ u : List UInt8 → Int, u = readE := ⟨_, rfl⟩
  obtain ⟨uRSame, huRSame⟩ : ∃ u : List Dat → List Dat → Bool, u = fun l m => isStrs l && isStrs m := ⟨_, rfl⟩
  obtain ⟨uRSame1, huRSame1⟩ : ∃ u : Int → Int → Int → List UInt8 → List Dat → List UInt8 → List UInt8 → List UInt8 → Int → List UInt8 → Int → Int → Int → List UInt8 → List Dat → List UInt8 → List UInt8 → List UInt8 → Int → List UInt8 → Bool, u = fun k id n us gs vb rs sp ob tx k' id' n' us' gs' vb' rs' sp' ob' tx' => rsameF k id n us (unStr gs) vb rs sp ob tx k' id' n' us' (unStr gs') vb' rs' sp' ob' tx' := ⟨_, rfl⟩
  have hG : TblOK Tryd.prog [(8, .p (φAwake26 )), (9, .p (φRead uRead uRead1 uRead2 uRead3 uRead4 uRead5 uRead6 uRead7 uRead8 uRead9 uRead10 uRead11)), (10, .p (φRefRead uRefRead uRefRead1 uRefRead2 uRefRead3 uRefRead4 uRefRead5 uRefRead6 uRefRead7 uRefRead8 uRefRead9 uRefRead10 uRefRead11)), (11, .p (φRSame uRSame uRSame1))] := ⟨φAwake26_ok, (by rw [huRead, huRead1, huRead2, huRead3, huRead4, huRead5, huRead6, huRead7, huRead8, huRead9, huRead10, huRead11]; exact φRead_ok), (by rw [huRefRead, huRefRead1, huRefRead2, huRefRead3, huRefRead4, huRefRead5, huRefRead6, huRefRead7, huRefRead8, huRefRead9, huRefRead10, huRefRead11]; exact φRefRead_ok), (by rw [huRSame, huRSame1]; exact φRSame_ok), trivial⟩
  have f1 : uRefRead1 s = uRead1 s := by subst huRead huRead1 huRead2 huRead3 huRead4 huRead5 huRead6 huRead7 huRead8 huRead9 huRead10 huRead11 huRefRead huRefRead1 huRefRead2 huRefRead3 huRefRead4 huRefRead5 huRefRead6 huRefRead7 huRefRead8 huRefRead9 huRefRead10 huRefRead11 huRSame huRSame1; rfl
  have f2 : uRefRead2 s = uRead2 s := by subst huRead huRead1 huRead2 huRead3 huRead4 huRead5 huRead6 huRead7 huRead8 huRead9 huRead10 huRead11 huRefRead huRefRead1 huRefRead2 huRefRead3 huRefRead4 huRefRead5 huRefRead6 huRefRead7 huRefRead8 huRefRead9 huRefRead10 huRefRead11 huRSame huRSame1; rfl
  have f3 : uRefRead3 s = uRead3 s := by subst huRead huRead1 huRead2 huRead3 huRead4 huRead5 huRead6 huRead7 huRead8 huRead9 huRead10 huRead11 huRefRead huRefRead1 huRefRead2 huRefRead3 huRefRead4 huRefRead5 huRefRead6 huRefRead7 huRefRead8 huRefRead9 huRefRead10 huRefRead11 huRSame huRSame1; rfl
  have f4 : uRefRead4 s = uRead4 s := by subst huRead huRead1 huRead2 huRead3 huRead4 huRead5 huRead6 huRead7 huRead8 huRead9 huRead10 huRead11 huRefRead huRefRead1 huRefRead2 huRefRead3 huRefRead4 huRefRead5 huRefRead6 huRefRead7 huRefRead8 huRefRead9 huRefRead10 huRefRead11 huRSame huRSame1; rfl
  have f5 : uRefRead5 s = uRead5 s := by subst huRead huRead1 huRead2 huRead3 huRead4 huRead5 huRead6 huRead7 huRead8 huRead9 huRead10 huRead11 huRefRead huRefRead1 huRefRead2 huRefRead3 huRefRead4 huRefRead5 huRefRead6 huRefRead7 huRefRead8 huRefRead9 huRefRead10 huRefRead11 huRSame huRSame1; rfl
  have f6 : uRefRead6 s = uRead6 s := by subst huRead huRead1 huRead2 huRead3 huRead4 huRead5 huRead6 huRead7 huRead8 huRead9 huRead10 huRead11 huRefRead huRefRead1 huRefRead2 huRefRead3 huRefRead4 huRefRead5 huRefRead6 huRefRead7 huRefRead8 huRefRead9 huRefRead10 huRefRead11 huRSame huRSame1; rfl
  have f7 : uRefRead7 s = uRead7 s := by subst huRead huRead1 huRead2 huRead3 huRead4 huRead5 huRead6 huRead7 huRead8 huRead9 huRead10 huRead11 huRefRead huRefRead1 huRefRead2 huRefRead3 huRefRead4 huRefRead5 huRefRead6 huRefRead7 huRefRead8 huRefRead9 huRefRead10 huRefRead11 huRSame huRSame1; rfl
  have f8 : uRefRead8 s = uRead8 s := by subst huRead huRead1 huRead2 huRead3 huRead4 huRead5 huRead6 huRead7 huRead8 huRead9 huRead10 huRead11 huRefRead huRefRead1 huRefRead2 huRefRead3 huRefRead4 huRefRead5 huRefRead6 huRefRead7 huRefRead8 huRefRead9 huRefRead10 huRefRead11 huRSame huRSame1; rfl
  have f9 : uRefRead9 s = uRead9 s := by subst huRead huRead1 huRead2 huRead3 huRead4 huRead5 huRead6 huRead7 huRead8 huRead9 huRead10 huRead11 huRefRead huRefRead1 huRefRead2 huRefRead3 huRefRead4 huRefRead5 huRefRead6 huRefRead7 huRefRead8 huRefRead9 huRefRead10 huRefRead11 huRSame huRSame1; rfl
  have f10 : uRefRead10 s = uRead10 s := by subst huRead huRead1 huRead2 huRead3 huRead4 huRead5 huRead6 huRead7 huRead8 huRead9 huRead10 huRead11 huRefRead huRefRead1 huRefRead2 huRefRead3 huRefRead4 huRefRead5 huRefRead6 huRefRead7 huRefRead8 huRefRead9 huRefRead10 huRefRead11 huRSame huRSame1; rfl
  have f11 : uRefRead11 s = uRead11 s := by subst huRead huRead1 huRead2 huRead3 huRead4 huRead5 huRead6 huRead7 huRead8 huRead9 huRead10 huRead11 huRefRead huRefRead1 huRefRead2 huRefRead3 huRefRead4 huRefRead5 huRefRead6 huRefRead7 huRefRead8 huRefRead9 huRefRead10 huRefRead11 huRSame huRSame1; rfl
  have g1 : uRSame1 (uRead1 s) (uRead2 s) (uRead3 s) (uRead4 s) (uRead5 s) (uRead6 s) (uRead7 s) (uRead8 s) (uRead9 s) (uRead10 s) (uRead1 s) (uRead2 s) (uRead3 s) (uRead4 s) (uRead5 s) (uRead6 s) (uRead7 s) (uRead8 s) (uRead9 s) (uRead10 s) = true := by rw [huRSame1]; exact rsame_refl _ _ _ _ _ _ _ _ _ _
  have q5 : uRSame (uRead5 s) (uRead5 s) = true := by
    rw [huRSame, huRead5]
    show (isStrs (strDs _) && isStrs (strDs _)) = true
    rw [isStrs_strDs]; rfl
  refine ESpec.enter Tryd.func3 (by kernel_rfl) rfl (Nat.le_of_ble_eq_true rfl) fun hok cx hnt hfr => ?_
  obtain ⟨F, hF⟩ := real_ex
  refine AK.runT hF tabOK hmix hnt hfr false _ hG ?_
  conv => arg 4; cbv
  have q : F .ltI 16384 (F .lenS s) = false → uRead s = true ∧ uRefRead s = true := fun h => by
    simp only [hF, f_ltI, f_leI, f_eqI, f_eqS, f_eqB, f_not, f_andB, f_orB, f_lenS, f_lenD, f_hasS, f_atS, f_hasC, f_subS, f_hasCat, f_app, f_wrap, f_add, f_sub, f_mul, f_appD, f_fits, f_hasV, f_subV, decide_eq_true_eq, decide_eq_false_iff_not, beq_iff_eq, beq_eq_false_iff_ne, Bool.and_eq_true, Bool.and_eq_false_iff, Bool.not_eq_true, Bool.not_eq_false, Bool.not_eq_eq_eq_not, Bool.not_true, Bool.not_false] at h
    rw [huRead, huRefRead]
    exact ⟨decide_eq_true (by omega), decide_eq_true (by omega)⟩
  have eqI : ∀ b : Int, F .eqI b b = true := fun b => by rw [hF, f_eqI]; simp
  rw [l_not1 hF, f1, f2, f3, f4, f5, f6, f7, f8, f9, f10, f11, g1, eqI]
  refine AKt.need rfl fun _ => ?_
  refine AKt.ff ?_
  refine AKt.node (fun hb2 => ?_) (fun hb2 => ?_)
  · repeat' (first | with_reducible refine AKt.have ?_ | with_reducible refine AKt.tt ?_ | with_reducible refine AKt.ff ?_ | with_reducible refine AKt.yes (by assumption) ?_ | with_reducible refine AKt.no (by assumption) ?_ | with_reducible refine AKt.node (fun hb => ?_) (fun hb => ?_) | with_reducible refine AKt.need ?_ (fun hb => ?_) | with_reducible refine AKt.leaf ?_ | ((with_reducible show _ = true); assumption))
    exact AKp.doneE tabOK hfr (by rfl) (by rfl)
  · obtain ⟨q1, q2⟩ := q hb2
    repeat' (first | with_reducible refine AKt.have ?_ | with_reducible refine AKt.tt ?_ | with_reducible refine AKt.ff ?_ | with_reducible refine AKt.yes (by assumption) ?_ | with_reducible refine AKt.no (by assumption) ?_ | with_reducible refine AKt.node (fun hb => ?_) (fun hb => ?_) | with_reducible refine AKt.need ?_ (fun hb => ?_) | with_reducible refine AKt.leaf ?_ | ((with_reducible show _ = true); assumption))
    all_goals exact AKp.doneE tabOK hfr (by rfl) (by rfl)
theorem lineP_of {us : List UInt8} {gs : List Dat} {vb rs sp tx : List UInt8} (hg : isStrs gs = true) (h1 : us.length ≤ 20000) (h2 : vb.length ≤ 20000) (h3 : rs.length ≤ 20000) (h4 : sp.length ≤ 20000) (h5 : tx.length ≤ 20000) : lineP us gs vb rs sp tx = true := by
  simp [lineP, w2, hg, h1, h2, h3, h4, h5]
theorem small_le {us : List UInt8} {gs : List (List UInt8)} {vb rs sp : List UInt8} (h : smallF us gs vb rs sp = true) : us.length ≤ 20000 ∧ vb.length ≤ 20000 ∧ rs.length ≤ 20000 ∧ sp.length ≤ 20000 := by
  simp only [smallF, Bool.and_eq_true, decide_eq_true_eq] at h
  omega
set_option maxHeartbeats 4000000 in
set_option cbv.maxSteps 10000000 in
theorem EventWrites_spec (k id n : Int) (us : List UInt8) (gs : List Dat) (vb rs sp : List UInt8) (ob : Int) (tx : List UInt8) (hg : isStrs gs = true) : ESpec Tryd.prog 4 [.d (.agg [.s (.int .i64 k), .s (.int .i64 id), .s (.int .i64 n), .s (.str us), .view 1 gs, .s (.str vb), .s (.str rs), .s (.str sp), .s (.int .i64 ob), .s (.str tx)])] (fun x => x = .d (.s (.bool true))) := by
  obtain ⟨uSmall15, huSmall15⟩ : ∃ u : List Dat → Bool, u = isStrs := ⟨_, rfl⟩
  obtain ⟨uSmall151, huSmall151⟩ : ∃ u : List UInt8 → List Dat → List UInt8 → List UInt8 → List UInt8 → Bool, u = fun us gs vb rs sp => smallF us (unStr gs) vb rs sp := ⟨_, rfl⟩
  obtain ⟨uWrite, huWrite⟩ : ∃ u : List UInt8 → List Dat → List UInt8 → List UInt8 → List UInt8 → List UInt8 → Bool, u = lineP := ⟨_, rfl⟩
  obtain ⟨uWrite1, huWrite1⟩ : ∃ u : Int → Int → Int → List UInt8 → List Dat → List UInt8 → List UInt8 → List UInt8 → Int → List UInt8 → List UInt8, u = fun k id n us gs vb rs sp ob tx => writeS ⟨k, id, n, us, unStr gs, vb, rs, sp, ob, tx⟩ := ⟨_, rfl⟩
  obtain ⟨uWrite2, huWrite2⟩ : ∃ u : Int → Int → Int → List UInt8 → List Dat → List UInt8 → List UInt8 → List UInt8 → Int → List UInt8 → Int, u = fun k id n us gs vb rs sp ob tx => writeE ⟨k, id, n, us, unStr gs, vb, rs, sp, ob, tx⟩ := ⟨_, rfl⟩
  obtain ⟨uRefWrite, huRefWrite⟩ : ∃ u : List UInt8 → List Dat → List UInt8 → List UInt8 → List UInt8 → List UInt8 → Bool, u = lineP := ⟨_, rfl⟩
  obtain ⟨uRefWrite1, huRefWrite1⟩ : ∃ u : Int → Int → Int → List UInt8 → List Dat → List UInt8 → List UInt8 → List UInt8 → Int → List UInt8 → List UInt8, u = fun k id n us gs vb rs sp ob tx => refS ⟨k, id, n, us, unStr gs, vb, rs, sp, ob, tx⟩ := ⟨_, rfl⟩
  obtain ⟨uRefWrite2, huRefWrite2⟩ : ∃ u : Int → Int → Int → List UInt8 → List Dat → List UInt8 → List UInt8 → List UInt8 → Int → List UInt8 → Int, u = fun k id n us gs vb rs sp ob tx => refE ⟨k, id, n, us, unStr gs, vb, rs, sp, ob, tx⟩ := ⟨_, rfl⟩
  have hG : TblOK Tryd.prog [(8, .p (φAwake26 )), (12, .p (φSmall15 uSmall15 uSmall151)), (13, .p (φWrite uWrite uWrite1 uWrite2)), (14, .p (φRefWrite uRefWrite uRefWrite1 uRefWrite2))] := ⟨φAwake26_ok, (by rw [huSmall15, huSmall151]; exact φSmall15_ok), (by rw [huWrite, huWrite1, huWrite2]; exact φWrite_ok), (by rw [huRefWrite, huRefWrite1, huRefWrite2]; exact φRefWrite_ok), trivial⟩
  have qs : uSmall15 gs = true := by subst huSmall15 huSmall151 huWrite huWrite1 huWrite2 huRefWrite huRefWrite1 huRefWrite2; exact hg
  refine ESpec.enter Tryd.func4 (by kernel_rfl) rfl (Nat.le_of_ble_eq_true rfl) fun hok cx hnt hfr => ?_
  obtain ⟨F, hF⟩ := real_ex
  refine AK.runT hF tabOK hmix hnt hfr false _ hG ?_
  conv => arg 4; cbv
  have f1 : uRefWrite1 k id n us gs vb rs sp ob tx = uWrite1 k id n us gs vb rs sp ob tx := by
    rw [huRefWrite1, huWrite1]
    show refS _ = writeS _
    rw [refS, writeS, okW_ref]
  have f2 : uRefWrite2 k id n us gs vb rs sp ob tx = uWrite2 k id n us gs vb rs sp ob tx := by
    rw [huRefWrite2, huWrite2]
    show refE _ = writeE _
    rw [refE, writeE, okW_ref]
  have eqS : ∀ b : List UInt8, F .eqS b b = true := fun b => by rw [hF, f_eqS]; simp
  have eqI : ∀ b : Int, F .eqI b b = true := fun b => by rw [hF, f_eqI]; simp
  have q : F .not (uSmall151 us gs vb rs sp) = false → F .ltI 16384 (F .lenS tx) = false → uWrite us gs vb rs sp tx = true ∧ uRefWrite us gs vb rs sp tx = true := fun h1 h2 => by
    rw [huSmall151] at h1
    simp only [hF, f_ltI, f_leI, f_eqI, f_eqS, f_eqB, f_not, f_andB, f_orB, f_lenS, f_lenD, f_hasS, f_atS, f_hasC, f_subS, f_hasCat, f_app, f_wrap, f_add, f_sub, f_mul, f_appD, f_fits, f_hasV, f_subV, decide_eq_true_eq, decide_eq_false_iff_not, beq_iff_eq, beq_eq_false_iff_ne, Bool.and_eq_true, Bool.and_eq_false_iff, Bool.not_eq_true, Bool.not_eq_false, Bool.not_eq_eq_eq_not, Bool.not_true, Bool.not_false] at h1 h2
    obtain ⟨a1, a2, a3, a4⟩ := small_le h1
    rw [huWrite, huRefWrite]
    have := lineP_of hg a1 a2 a3 a4 (tx := tx) (by omega)
    exact ⟨this, this⟩
  rw [l_not1 hF, f1, f2, eqS, eqI]
  refine AKt.need rfl fun _ => ?_
  refine AKt.ff ?_
  refine AKt.need qs fun _ => ?_
  refine AKt.node (fun hb1 => ?_) (fun hb1 => ?_)
  · repeat' (first | with_reducible refine AKt.have ?_ | with_reducible refine AKt.tt ?_ | with_reducible refine AKt.ff ?_ | with_reducible refine AKt.yes (by assumption) ?_ | with_reducible refine AKt.no (by assumption) ?_ | with_reducible refine AKt.node (fun hb => ?_) (fun hb => ?_) | with_reducible refine AKt.need ?_ (fun hb => ?_) | with_reducible refine AKt.leaf ?_ | ((with_reducible show _ = true); assumption))
    exact AKp.doneE tabOK hfr (by rfl) (by rfl)
  refine AKt.node (fun hb2 => ?_) (fun hb2 => ?_)
  · repeat' (first | with_reducible refine AKt.have ?_ | with_reducible refine AKt.tt ?_ | with_reducible refine AKt.ff ?_ | with_reducible refine AKt.yes (by assumption) ?_ | with_reducible refine AKt.no (by assumption) ?_ | with_reducible refine AKt.node (fun hb => ?_) (fun hb => ?_) | with_reducible refine AKt.need ?_ (fun hb => ?_) | with_reducible refine AKt.leaf ?_ | ((with_reducible show _ = true); assumption))
    exact AKp.doneE tabOK hfr (by rfl) (by rfl)
  obtain ⟨q1, q2⟩ := q hb1 hb2
  repeat' (first | with_reducible refine AKt.have ?_ | with_reducible refine AKt.tt ?_ | with_reducible refine AKt.ff ?_ | with_reducible refine AKt.yes (by assumption) ?_ | with_reducible refine AKt.no (by assumption) ?_ | with_reducible refine AKt.node (fun hb => ?_) (fun hb => ?_) | with_reducible refine AKt.need ?_ (fun hb => ?_) | with_reducible refine AKt.leaf ?_ | ((with_reducible show _ = true); assumption))
  all_goals exact AKp.doneE tabOK hfr (by rfl) (by rfl)

theorem back_of {e : Ev} (h : writeE e = 0) : writeS e = e.line ∧ readV e.line = e ∧ readE e.line = 0 := by
  have ok : okW e = true := by
    unfold writeE at h
    split at h
    · assumption
    · exact absurd h (by decide)
  obtain ⟨h1, h2⟩ := ref_read (by rw [← okW_ref]; exact ok)
  exact ⟨by rw [writeS, if_pos ok], h1, h2⟩
theorem no_write {e : Ev} (h : ¬ writeE e = 0) : writeS e = [] ∧ writeE e = 2 := by
  unfold writeE at h ⊢
  unfold writeS
  split at h
  · exact absurd rfl h
  · rename_i g
    rw [if_neg g, if_neg g]
    exact ⟨rfl, rfl⟩
set_option maxHeartbeats 4000000 in
set_option cbv.maxSteps 10000000 in
theorem EventBack_spec (k id n : Int) (us : List UInt8) (gs : List Dat) (vb rs sp : List UInt8) (ob : Int) (tx : List UInt8) (hg : isStrs gs = true) : ESpec Tryd.prog 5 [.d (.agg [.s (.int .i64 k), .s (.int .i64 id), .s (.int .i64 n), .s (.str us), .view 1 gs, .s (.str vb), .s (.str rs), .s (.str sp), .s (.int .i64 ob), .s (.str tx)])] (fun x => x = .d (.s (.bool true))) := by
  obtain ⟨uSmall15, huSmall15⟩ : ∃ u : List Dat → Bool, u = isStrs := ⟨_, rfl⟩
  obtain ⟨uSmall151, huSmall151⟩ : ∃ u : List UInt8 → List Dat → List UInt8 → List UInt8 → List UInt8 → Bool, u = fun us gs vb rs sp => smallF us (unStr gs) vb rs sp := ⟨_, rfl⟩
  obtain ⟨uWrite, huWrite⟩ : ∃ u : List UInt8 → List Dat → List UInt8 → List UInt8 → List UInt8 → List UInt8 → Bool, u = lineP := ⟨_, rfl⟩
  obtain ⟨uWrite1, huWrite1⟩ : ∃ u : Int → Int → Int → List UInt8 → List Dat → List UInt8 → List UInt8 → List UInt8 → Int → List UInt8 → List UInt8, u = fun k id n us gs vb rs sp ob tx => writeS ⟨k, id, n, us, unStr gs, vb, rs, sp, ob, tx⟩ := ⟨_, rfl⟩
  obtain ⟨uWrite2, huWrite2⟩ : ∃ u : Int → Int → Int → List UInt8 → List Dat → List UInt8 → List UInt8 → List UInt8 → Int → List UInt8 → Int, u = fun k id n us gs vb rs sp ob tx => writeE ⟨k, id, n, us, unStr gs, vb, rs, sp, ob, tx⟩ := ⟨_, rfl⟩
  obtain ⟨uRead, huRead⟩ : ∃ u : List UInt8 → Bool, u = leL := ⟨_, rfl⟩
  obtain ⟨uRead1, huRead1⟩ : ∃ u : List UInt8 → Int, u = fun s => (readV s).k := ⟨_, rfl⟩
  obtain ⟨uRead2, huRead2⟩ : ∃ u : List UInt8 → Int, u = fun s => (readV s).id := ⟨_, rfl⟩
  obtain ⟨uRead3, huRead3⟩ : ∃ u : List UInt8 → Int, u = fun s => (readV s).n := ⟨_, rfl⟩
  obtain ⟨uRead4, huRead4⟩ : ∃ u : List UInt8 → List UInt8, u = fun s => (readV s).us := ⟨_, rfl⟩
  obtain ⟨uRead5, huRead5⟩ : ∃ u : List UInt8 → List Dat, u = fun s => strDs (readV s).gs := ⟨_, rfl⟩
  obtain ⟨uRead6, huRead6⟩ : ∃ u : List UInt8 → List UInt8, u = fun s => (readV s).vb := ⟨_, rfl⟩
  obtain ⟨uRead7, huRead7⟩ : ∃ u : List UInt8 → List UInt8, u = fun s => (readV s).rs := ⟨_, rfl⟩
  obtain ⟨uRead8, huRead8⟩ : ∃ u : List UInt8 → List UInt8, u = fun s => (readV s).sp := ⟨_, rfl⟩
  obtain ⟨uRead9, huRead9⟩ : ∃ u : List UInt8 → Int, u = fun s => (readV s).ob := ⟨_, rfl⟩
  obtain ⟨uRead10, huRead10⟩ : ∃ u : List UInt8 → List UInt8, u = fun s => (readV s).tx := ⟨_, rfl⟩
  obtain ⟨uRead11, huRead11⟩ : ∃ u : List UInt8 → Int, u = readE := ⟨_, rfl⟩
  obtain ⟨uRSame, huRSame⟩ : ∃ u : List Dat → List Dat → Bool, u = fun l m => isStrs l && isStrs m := ⟨_, rfl⟩
  obtain ⟨uRSame1, huRSame1⟩ : ∃ u : Int → Int → Int → List UInt8 → List Dat → List UInt8 → List UInt8 → List UInt8 → Int → List UInt8 → Int → Int → Int → List UInt8 → List Dat → List UInt8 → List UInt8 → List UInt8 → Int → List UInt8 → Bool, u = fun k id n us gs vb rs sp ob tx k' id' n' us' gs' vb' rs' sp' ob' tx' => rsameF k id n us (unStr gs) vb rs sp ob tx k' id' n' us' (unStr gs') vb' rs' sp' ob' tx' := ⟨_, rfl⟩
  have hG : TblOK Tryd.prog [(8, .p (φAwake26 )), (12, .p (φSmall15 uSmall15 uSmall151)), (13, .p (φWrite uWrite uWrite1 uWrite2)), (9, .p (φRead uRead uRead1 uRead2 uRead3 uRead4 uRead5 uRead6 uRead7 uRead8 uRead9 uRead10 uRead11)), (11, .p (φRSame uRSame uRSame1))] := ⟨φAwake26_ok, (by rw [huSmall15, huSmall151]; exact φSmall15_ok), (by rw [huWrite, huWrite1, huWrite2]; exact φWrite_ok), (by rw [huRead, huRead1, huRead2, huRead3, huRead4, huRead5, huRead6, huRead7, huRead8, huRead9, huRead10, huRead11]; exact φRead_ok), (by rw [huRSame, huRSame1]; exact φRSame_ok), trivial⟩
  have qs : uSmall15 gs = true := by subst huSmall15 huSmall151 huWrite huWrite1 huWrite2 huRead huRead1 huRead2 huRead3 huRead4 huRead5 huRead6 huRead7 huRead8 huRead9 huRead10 huRead11 huRSame huRSame1; exact hg
  refine ESpec.enter Tryd.func5 (by kernel_rfl) rfl (Nat.le_of_ble_eq_true rfl) fun hok cx hnt hfr => ?_
  obtain ⟨F, hF⟩ := real_ex
  refine AK.runT hF tabOK hmix hnt hfr false _ hG ?_
  conv => arg 4; cbv
  have o2 : id ≤ 9223372036854775807 := hok.1.2.1.2
  have o3 : n ≤ 9223372036854775807 := hok.1.2.2.1.2
  have o9 : ob ≤ 9223372036854775807 := hok.1.2.2.2.2.2.2.2.2.1.2
  obtain ⟨ln, hln⟩ : ∃ z, z = uWrite1 k id n us gs vb rs sp ob tx := ⟨_, rfl⟩
  obtain ⟨we, hwe⟩ : ∃ z, z = uWrite2 k id n us gs vb rs sp ob tx := ⟨_, rfl⟩
  have e1 : ln = writeS ⟨k, id, n, us, unStr gs, vb, rs, sp, ob, tx⟩ := by rw [hln, huWrite1]
  have e2 : we = writeE ⟨k, id, n, us, unStr gs, vb, rs, sp, ob, tx⟩ := by rw [hwe, huWrite2]
  rw [← hln, ← hwe]
  have q : F .not (uSmall151 us gs vb rs sp) = false → F .ltI 16384 (F .lenS tx) = false → uWrite us gs vb rs sp tx = true ∧ uRead ln = true := fun h1 h2 => by
    rw [huSmall151] at h1
    simp only [hF, f_ltI, f_leI, f_eqI, f_eqS, f_eqB, f_not, f_andB, f_orB, f_lenS, f_lenD, f_hasS, f_atS, f_hasC, f_subS, f_hasCat, f_app, f_wrap, f_add, f_sub, f_mul, f_appD, f_fits, f_hasV, f_subV, decide_eq_true_eq, decide_eq_false_iff_not, beq_iff_eq, beq_eq_false_iff_ne, Bool.and_eq_true, Bool.and_eq_false_iff, Bool.not_eq_true, Bool.not_eq_false, Bool.not_eq_eq_eq_not, Bool.not_true, Bool.not_false] at h1 h2
    obtain ⟨a1, a2, a3, a4⟩ := small_le h1
    rw [huWrite, huRead]
    refine ⟨lineP_of hg a1 a2 a3 a4 (tx := tx) (by omega), decide_eq_true ?_⟩
    rw [e1]
    unfold writeS
    split
    · exact line_len o2 o3 o9 a1 a2 a3 a4 (show tx.length ≤ 20000 by omega)
    · exact Nat.zero_le _
  have bad : ¬ we = 0 → ln = [] ∧ we = 2 := fun h => by rw [e2] at h; rw [e1, e2]; exact no_write h
  have good : we = 0 → uRead11 ln = 0 ∧ uRSame gs (uRead5 ln) = true ∧ uRSame1 k id n us gs vb rs sp ob tx (uRead1 ln) (uRead2 ln) (uRead3 ln) (uRead4 ln) (uRead5 ln) (uRead6 ln) (uRead7 ln) (uRead8 ln) (uRead9 ln) (uRead10 ln) = true := fun h => by
    rw [e2] at h
    obtain ⟨b1, b2, b3⟩ := back_of h
    rw [e1, b1, huRead11, huRSame, huRSame1, huRead1, huRead2, huRead3, huRead4, huRead5, huRead6, huRead7, huRead8, huRead9, huRead10]
    refine ⟨b3, ?_, ?_⟩
    · show (isStrs gs && isStrs (strDs _)) = true
      rw [hg, isStrs_strDs]; rfl
    · show rsameF _ _ _ _ _ _ _ _ _ _ _ _ _ _ (unStr (strDs _)) _ _ _ _ _ = true
      simp only [unStr_strDs, b2]
      exact rsame_refl _ _ _ _ _ _ _ _ _ _
  rw [l_not1 hF]
  clear hln hwe e1 e2 hok
  refine AKt.need rfl fun _ => ?_
  refine AKt.ff ?_
  refine AKt.need qs fun _ => ?_
  refine AKt.node (fun hb1 => ?_) (fun hb1 => ?_)
  · repeat' (first | with_reducible refine AKt.have ?_ | with_reducible refine AKt.tt ?_ | with_reducible refine AKt.ff ?_ | with_reducible refine AKt.yes (by assumption) ?_ | with_reducible refine AKt.no (by assumption) ?_ | with_reducible refine AKt.node (fun hb => ?_) (fun hb => ?_) | with_reducible refine AKt.need ?_ (fun hb => ?_) | with_reducible refine AKt.leaf ?_ | ((with_reducible show _ = true); assumption))
    exact AKp.doneE tabOK hfr (by rfl) (by rfl)
  refine AKt.node (fun hb2 => ?_) (fun hb2 => ?_)
  · repeat' (first | with_reducible refine AKt.have ?_ | with_reducible refine AKt.tt ?_ | with_reducible refine AKt.ff ?_ | with_reducible refine AKt.yes (by assumption) ?_ | with_reducible refine AKt.no (by assumption) ?_ | with_reducible refine AKt.node (fun hb => ?_) (fun hb => ?_) | with_reducible refine AKt.need ?_ (fun hb => ?_) | with_reducible refine AKt.leaf ?_ | ((with_reducible show _ = true); assumption))
    exact AKp.doneE tabOK hfr (by rfl) (by rfl)
  obtain ⟨q1, q2⟩ := q hb1 hb2
  refine AKt.need q1 fun _ => ?_
  refine AKt.node (fun hb3 => ?_) (fun hb3 => ?_)
  · obtain ⟨g1, g2⟩ := bad (by simp only [hF, f_ltI, f_leI, f_eqI, f_eqS, f_eqB, f_not, f_andB, f_orB, f_lenS, f_lenD, f_hasS, f_atS, f_hasC, f_subS, f_hasCat, f_app, f_wrap, f_add, f_sub, f_mul, f_appD, f_fits, f_hasV, f_subV, decide_eq_true_eq, decide_eq_false_iff_not, beq_iff_eq, beq_eq_false_iff_ne, Bool.and_eq_true, Bool.and_eq_false_iff, Bool.not_eq_true, Bool.not_eq_false, Bool.not_eq_eq_eq_not, Bool.not_true, Bool.not_false] at hb3; exact hb3)
    have c1 : F .eqS ln [] = true := by rw [hF, f_eqS, g1]; rfl
    have c2 : F .eqI we 2 = true := by rw [hF, f_eqI, g2]; rfl
    repeat' (first | with_reducible refine AKt.have ?_ | with_reducible refine AKt.tt ?_ | with_reducible refine AKt.ff ?_ | with_reducible refine AKt.yes (by assumption) ?_ | with_reducible refine AKt.no (by assumption) ?_ | with_reducible refine AKt.node (fun hb => ?_) (fun hb => ?_) | with_reducible refine AKt.need ?_ (fun hb => ?_) | with_reducible refine AKt.leaf ?_ | ((with_reducible show _ = true); assumption))
    refine AKp.doneE tabOK hfr (by rfl) ?_
    show _ = _
    simp only [tupAV]
    rw [c2]
  · obtain ⟨g1, g2, g3⟩ := good (by simp only [hF, f_ltI, f_leI, f_eqI, f_eqS, f_eqB, f_not, f_andB, f_orB, f_lenS, f_lenD, f_hasS, f_atS, f_hasC, f_subS, f_hasCat, f_app, f_wrap, f_add, f_sub, f_mul, f_appD, f_fits, f_hasV, f_subV, decide_eq_true_eq, decide_eq_false_iff_not, beq_iff_eq, beq_eq_false_iff_ne, Bool.and_eq_true, Bool.and_eq_false_iff, Bool.not_eq_true, Bool.not_eq_false, Bool.not_eq_eq_eq_not, Bool.not_true, Bool.not_false] at hb3; exact hb3)
    have c1 : F .eqI (uRead11 ln) 0 = true := by rw [hF, f_eqI, g1]; rfl
    repeat' (first | with_reducible refine AKt.have ?_ | with_reducible refine AKt.tt ?_ | with_reducible refine AKt.ff ?_ | with_reducible refine AKt.yes (by assumption) ?_ | with_reducible refine AKt.no (by assumption) ?_ | with_reducible refine AKt.node (fun hb => ?_) (fun hb => ?_) | with_reducible refine AKt.need ?_ (fun hb => ?_) | with_reducible refine AKt.leaf ?_ | ((with_reducible show _ = true); assumption))
    refine AKp.doneE tabOK hfr (by rfl) ?_
    show _ = _
    simp only [tupAV]
    rw [g3]
theorem getD_len {ws : List (List UInt8)} {n j : Nat} (h : ∀ p, p ∈ ws → p.length ≤ n) : (ws.getD j []).length ≤ n := by
  rw [List.getD_eq_getElem?_getD]
  cases hj : ws[j]? with
  | none => simp
  | some p => exact h p (List.mem_of_getElem? hj)
theorem loadF_len (s : List UInt8) : (loadF s).length ≤ s.length := by
  unfold loadF
  rw [replace_map (by decide)]
  simp only [List.length_map]
  unfold Lib.trimPrefix Lib.cut
  split
  · split <;> simp <;> omega
  · split <;> simp
theorem read_lens (s : List UInt8) : (readV s).us.length ≤ s.length ∧ (readV s).vb.length ≤ s.length ∧ (readV s).rs.length ≤ s.length ∧ (readV s).sp.length ≤ s.length ∧ (readV s).tx.length ≤ s.length := by
  have hw : ∀ p, p ∈ wordsF s → p.length ≤ s.length := fun p hp => (words_ne hp).2
  have h2 := getD_len (j := 2) hw
  have h4 := getD_len (j := 4) hw
  have h5 := getD_len (j := 5) hw
  have h6 := getD_len (j := 6) hw
  have hl := loadF_len s
  have hs : (spV ((wordsF s).getD 6 [])).length ≤ s.length := by
    unfold spV
    split
    · exact Nat.zero_le _
    · exact h6
  unfold readV readP orE newV ev0
  repeat' split
  all_goals
    refine ⟨?_, ?_, ?_, ?_, ?_⟩ <;> first | exact Nat.zero_le _ | assumption
set_option maxHeartbeats 4000000 in
set_option cbv.maxSteps 10000000 in
theorem EventOne_spec (s : List UInt8) : ESpec Tryd.prog 6 [.d (.s (.str s))] (fun x => x = .d (.s (.bool true))) := by
  obtain ⟨uRead, huRead⟩ : ∃ u : List UInt8 → Bool, u = leL := ⟨_, rfl⟩
  obtain ⟨uRead1, huRead1⟩ : ∃ u : List UInt8 → Int, u = fun s => (readV s).k := ⟨_, rfl⟩
  obtain ⟨uRead2, huRead2⟩ : ∃ u : List UInt8 → Int, u = fun s => (readV s).id := ⟨_, rfl⟩
  obtain ⟨uRead3, huRead3⟩ : ∃ u : List UInt8 → Int, u = fun s => (readV s).n := ⟨_, rfl⟩
  obtain ⟨uRead4, huRead4⟩ : ∃ u : List UInt8 → List UInt8, u = fun s => (readV s).us := ⟨_, rfl⟩
  obtain ⟨uRead5, huRead5⟩ : ∃ u : List UInt8 → List Dat, u = fun s => strDs (readV s).gs := ⟨_, rfl⟩
  obtain ⟨uRead6, huRead6⟩ : ∃ u : List UInt8 → List UInt8, u = fun s => (readV s).vb := ⟨_, rfl⟩
  obtain ⟨uRead7, huRead7⟩ : ∃ u : List UInt8 → List UInt8, u = fun s => (readV s).rs := ⟨_, rfl⟩
  obtain ⟨uRead8, huRead8⟩ : ∃ u : List UInt8 → List UInt8, u = fun s => (readV s).sp := ⟨_, rfl⟩
  obtain ⟨uRead9, huRead9⟩ : ∃ u : List UInt8 → Int, u = fun s => (readV s).ob := ⟨_, rfl⟩
  obtain ⟨uRead10, huRead10⟩ : ∃ u : List UInt8 → List UInt8, u = fun s => (readV s).tx := ⟨_, rfl⟩
  obtain ⟨uRead11, huRead11⟩ : ∃ u : List UInt8 → Int, u = readE := ⟨_, rfl⟩
  obtain ⟨uWrite, huWrite⟩ : ∃ u : List UInt8 → List Dat → List UInt8 → List UInt8 → List UInt8 → List UInt8 → Bool, u = lineP := ⟨_, rfl⟩
  obtain ⟨uWrite1, huWrite1⟩ : ∃ u : Int → Int → Int → List UInt8 → List Dat → List UInt8 → List UInt8 → List UInt8 → Int → List UInt8 → List UInt8, u = fun k id n us gs vb rs sp ob tx => writeS ⟨k, id, n, us, unStr gs, vb, rs, sp, ob, tx⟩ := ⟨_, rfl⟩
  obtain ⟨uWrite2, huWrite2⟩ : ∃ u : Int → Int → Int → List UInt8 → List Dat → List UInt8 → List UInt8 → List UInt8 → Int → List UInt8 → Int, u = fun k id n us gs vb rs sp ob tx => writeE ⟨k, id, n, us, unStr gs, vb, rs, sp, ob, tx⟩ := ⟨_, rfl⟩
  obtain ⟨uRSame, huRSame⟩ : ∃ u : List Dat → List Dat → Bool, u = fun l m => isStrs l && isStrs m := ⟨_, rfl⟩
  obtain ⟨uRSame1, huRSame1⟩ : ∃ u : Int → Int → Int → List UInt8 → List Dat → List UInt8 → List UInt8 → List UInt8 → Int → List UInt8 → Int → Int → Int → List UInt8 → List Dat → List UInt8 → List UInt8 → List UInt8 → Int → List UInt8 → Bool, u = fun k id n us gs vb rs sp ob tx k' id' n' us' gs' vb' rs' sp' ob' tx' => rsameF k id n us (unStr gs) vb rs sp ob tx k' id' n' us' (unStr gs') vb' rs' sp' ob' tx' := ⟨_, rfl⟩
  have hG : TblOK Tryd.prog [(8, .p (φAwake26 )), (9, .p (φRead uRead uRead1 uRead2 uRead3 uRead4 uRead5 uRead6 uRead7 uRead8 uRead9 uRead10 uRead11)), (13, .p (φWrite uWrite uWrite1 uWrite2)), (11, .p (φRSame uRSame uRSame1))] := ⟨φAwake26_ok, (by rw [huRead, huRead1, huRead2, huRead3, huRead4, huRead5, huRead6, huRead7, huRead8, huRead9, huRead10, huRead11]; exact φRead_ok), (by rw [huWrite, huWrite1, huWrite2]; exact φWrite_ok), (by rw [huRSame, huRSame1]; exact φRSame_ok), trivial⟩
  obtain ⟨ln, hln⟩ : ∃ z, z = uWrite1 (uRead1 s) (uRead2 s) (uRead3 s) (uRead4 s) (uRead5 s) (uRead6 s) (uRead7 s) (uRead8 s) (uRead9 s) (uRead10 s) := ⟨_, rfl⟩
  obtain ⟨we, hwe⟩ : ∃ z, z = uWrite2 (uRead1 s) (uRead2 s) (uRead3 s) (uRead4 s) (uRead5 s) (uRead6 s) (uRead7 s) (uRead8 s) (uRead9 s) (uRead10 s) := ⟨_, rfl⟩
  obtain ⟨re, hre⟩ : ∃ z, z = uRead11 s := ⟨_, rfl⟩
  have e0 : re = readE s := by rw [hre, huRead11]
  have e1 : ln = writeS (readV s) := by
    rw [hln, huWrite1, huRead1, huRead2, huRead3, huRead4, huRead5, huRead6, huRead7, huRead8, huRead9, huRead10]
    show writeS ⟨_, _, _, _, unStr (strDs _), _, _, _, _, _⟩ = _
    rw [unStr_strDs]
  have e2 : we = writeE (readV s) := by
    rw [hwe, huWrite2, huRead1, huRead2, huRead3, huRead4, huRead5, huRead6, huRead7, huRead8, huRead9, huRead10]
    show writeE ⟨_, _, _, _, unStr (strDs _), _, _, _, _, _⟩ = _
    rw [unStr_strDs]
  have bad : ¬ re = 0 → uRSame (uRead5 s) [] = true ∧ uRSame1 (uRead1 s) (uRead2 s) (uRead3 s) (uRead4 s) (uRead5 s) (uRead6 s) (uRead7 s) (uRead8 s) (uRead9 s) (uRead10 s) 0 0 0 [] [] [] [] [] 0 [] = true := fun h => by
    rw [e0] at h
    have b := read_none h
    rw [huRSame, huRSame1, huRead1, huRead2, huRead3, huRead4, huRead5, huRead6, huRead7, huRead8, huRead9, huRead10]
    simp only [b]
    exact ⟨rfl, rfl⟩
  have good : re = 0 → s.length ≤ 16384 → uRead s = true ∧ uWrite (uRead4 s) (uRead5 s) (uRead6 s) (uRead7 s) (uRead8 s) (uRead10 s) = true ∧ uRead ln = true ∧ we = 0 ∧ uRead11 ln = 0 ∧ uRSame (uRead5 s) (uRead5 ln) = true ∧ uRSame1 (uRead1 s) (uRead2 s) (uRead3 s) (uRead4 s) (uRead5 s) (uRead6 s) (uRead7 s) (uRead8 s) (uRead9 s) (uRead10 s) (uRead1 ln) (uRead2 ln) (uRead3 ln) (uRead4 ln) (uRead5 ln) (uRead6 ln) (uRead7 ln) (uRead8 ln) (uRead9 ln) (uRead10 ln) = true ∧ ln.length ≤ s.length := fun h hs => by
    rw [e0] at h
    obtain ⟨a1, a2⟩ := read_ref h
    have hok : okW (readV s) = true := by rw [okW_ref]; exact a1
    have hw0 : writeE (readV s) = 0 := by rw [writeE, if_pos hok]
    obtain ⟨b1, b2, b3⟩ := back_of hw0
    have c1 : ln = (readV s).line := by rw [e1, b1]
    obtain ⟨l1, l2, l3, l4, l5⟩ := read_lens s
    rw [huRead, huWrite, huRead11, huRSame, huRSame1, huRead1, huRead2, huRead3, huRead4, huRead5, huRead6, huRead7, huRead8, huRead9, huRead10, c1, e2]
    refine ⟨decide_eq_true (by omega), lineP_of (isStrs_strDs _) (Nat.le_trans l1 (by omega)) (Nat.le_trans l2 (by omega)) (Nat.le_trans l3 (by omega)) (Nat.le_trans l4 (by omega)) (Nat.le_trans l5 (by omega)), decide_eq_true (by omega), hw0, b3, ?_, ?_, a2⟩
    · show (isStrs (strDs _) && isStrs (strDs _)) = true
      rw [isStrs_strDs, isStrs_strDs]; rfl
    · show rsameF _ _ _ _ (unStr (strDs _)) _ _ _ _ _ _ _ _ _ (unStr (strDs _)) _ _ _ _ _ = true
      simp only [unStr_strDs, b2]
      exact rsame_refl _ _ _ _ _ _ _ _ _ _
  refine ESpec.enter Tryd.func6 (by kernel_rfl) rfl (Nat.le_of_ble_eq_true rfl) fun hok cx hnt hfr => ?_
  obtain ⟨F, hF⟩ := real_ex
  refine AK.runT hF tabOK hmix hnt hfr false _ hG ?_
  conv => arg 4; cbv
  rw [l_not1 hF, ← hln, ← hwe, ← hre]
  clear hln hwe hre e0 e1 e2 hok
  have q : F .ltI 16384 (F .lenS s) = false → uRead s = true ∧ s.length ≤ 16384 := fun h => by
    simp only [hF, f_ltI, f_leI, f_eqI, f_eqS, f_eqB, f_not, f_andB, f_orB, f_lenS, f_lenD, f_hasS, f_atS, f_hasC, f_subS, f_hasCat, f_app, f_wrap, f_add, f_sub, f_mul, f_appD, f_fits, f_hasV, f_subV, decide_eq_true_eq, decide_eq_false_iff_not, beq_iff_eq, beq_eq_false_iff_ne, Bool.and_eq_true, Bool.and_eq_false_iff, Bool.not_eq_true, Bool.not_eq_false, Bool.not_eq_eq_eq_not, Bool.not_true, Bool.not_false] at h
    rw [huRead]
    exact ⟨decide_eq_true (by omega), by omega⟩
  refine AKt.need rfl fun _ => ?_
  refine AKt.ff ?_
  refine AKt.node (fun hb1 => ?_) (fun hb1 => ?_)
  · repeat' (first | with_reducible refine AKt.have ?_ | with_reducible refine AKt.tt ?_ | with_reducible refine AKt.ff ?_ | with_reducible refine AKt.yes (by assumption) ?_ | with_reducible refine AKt.no (by assumption) ?_ | with_reducible refine AKt.node (fun hb => ?_) (fun hb => ?_) | with_reducible refine AKt.need ?_ (fun hb => ?_) | with_reducible refine AKt.leaf ?_ | ((with_reducible show _ = true); assumption))
    exact AKp.doneE tabOK hfr (by rfl) (by rfl)
  obtain ⟨q1, q2⟩ := q hb1
  refine AKt.need q1 fun _ => ?_
  refine AKt.node (fun hb3 => ?_) (fun hb3 => ?_)
  · obtain ⟨g1, g2⟩ := bad (by simp only [hF, f_ltI, f_leI, f_eqI, f_eqS, f_eqB, f_not, f_andB, f_orB, f_lenS, f_lenD, f_hasS, f_atS, f_hasC, f_subS, f_hasCat, f_app, f_wrap, f_add, f_sub, f_mul, f_appD, f_fits, f_hasV, f_subV, decide_eq_true_eq, decide_eq_false_iff_not, beq_iff_eq, beq_eq_false_iff_ne, Bool.and_eq_true, Bool.and_eq_false_iff, Bool.not_eq_true, Bool.not_eq_false, Bool.not_eq_eq_eq_not, Bool.not_true, Bool.not_false] at hb3; exact hb3)
    repeat' (first | with_reducible refine AKt.have ?_ | with_reducible refine AKt.tt ?_ | with_reducible refine AKt.ff ?_ | with_reducible refine AKt.yes (by assumption) ?_ | with_reducible refine AKt.no (by assumption) ?_ | with_reducible refine AKt.node (fun hb => ?_) (fun hb => ?_) | with_reducible refine AKt.need ?_ (fun hb => ?_) | with_reducible refine AKt.leaf ?_ | ((with_reducible show _ = true); assumption))
    refine AKp.doneE tabOK hfr (by rfl) ?_
    show _ = _
    simp only [tupAV]
    rw [g2]
  · obtain ⟨g0, g1, g2, g3, g4, g5, g6, g7⟩ := good (by simp only [hF, f_ltI, f_leI, f_eqI, f_eqS, f_eqB, f_not, f_andB, f_orB, f_lenS, f_lenD, f_hasS, f_atS, f_hasC, f_subS, f_hasCat, f_app, f_wrap, f_add, f_sub, f_mul, f_appD, f_fits, f_hasV, f_subV, decide_eq_true_eq, decide_eq_false_iff_not, beq_iff_eq, beq_eq_false_iff_ne, Bool.and_eq_true, Bool.and_eq_false_iff, Bool.not_eq_true, Bool.not_eq_false, Bool.not_eq_eq_eq_not, Bool.not_true, Bool.not_false] at hb3; exact hb3) q2
    have c1 : F .eqI (uRead11 ln) 0 = true := by rw [hF, f_eqI, g4]; rfl
    have c2 : F .eqI we 0 = true := by rw [hF, f_eqI, g3]; rfl
    have c3 : F .leI (F .lenS ln) (F .wrap .i64 (F .add (F .lenS s) 1)) = true := by
      rw [hF]
      show decide ((ln.length : Int) ≤ IntKind.i64.wrap ((s.length : Int) + 1)) = true
      rw [w_i64 (by omega) (by omega)]
      exact decide_eq_true (by omega)
    repeat' (first | with_reducible refine AKt.have ?_ | with_reducible refine AKt.tt ?_ | with_reducible refine AKt.ff ?_ | with_reducible refine AKt.yes (by assumption) ?_ | with_reducible refine AKt.no (by assumption) ?_ | with_reducible refine AKt.node (fun hb => ?_) (fun hb => ?_) | with_reducible refine AKt.need ?_ (fun hb => ?_) | with_reducible refine AKt.leaf ?_ | ((with_reducible show _ = true); assumption))
    refine AKp.doneE tabOK hfr (by rfl) ?_
    show _ = _
    simp only [tupAV]
    rw [c3]
end Go.Proofs.YtmhkmoeailamlaaDoor

/- Blanks between the words of a line: the function returns true. -/
namespace Go.Proofs.YtmhkmoeailamlaaDoor
open Go Go.Proofs Go.Ua Go.Extern
set_option linter.unusedVariables false
set_option linter.unusedSimpArgs false
set_option maxRecDepth 10000

theorem line_snoc' {line : List UInt8} {ws : List (List UInt8)} (h : LineOK line ws) (n : Nat) {w : List UInt8} (h1 : w ≠ []) (h2 : (32 : UInt8) ∉ w) : LineOK (line ++ List.replicate (n + 1) 32 ++ w) (ws ++ [w]) := by
  have e : ∀ r, line ++ List.replicate (n + 1) 32 ++ r = line ++ 32 :: (List.replicate n 32 ++ r) := fun r => by simp [List.replicate_succ]
  refine ⟨?_, fun r => ?_⟩
  · rw [e, h.2, words_blanks]
    have := words_none h2
    rw [if_neg h1] at this
    exact congrArg (ws ++ ·) this
  · rw [List.append_assoc, e, h.2, words_blanks]
    have := words_app r h2
    rw [if_neg h1] at this
    rw [show wordsF (w ++ 32 :: r) = [w] ++ wordsF r from this, List.append_assoc]
theorem cutF_no {c : UInt8} : ∀ {s p : List UInt8}, p ∈ cutF c s → c ∉ p
  | [], p, h => by
    rw [List.mem_singleton.1 h]; simp
  | b :: r, p, h => by
    unfold cutF at h
    by_cases e : b = c
    · rw [if_pos e] at h
      rcases List.mem_cons.1 h with h | h
      · rw [h]; simp
      · exact cutF_no h
    · rw [if_neg e] at h
      cases hr : cutF c r with
      | nil => exact absurd hr (cutF_ne c r)
      | cons q qs =>
        rw [hr] at h
        rcases List.mem_cons.1 h with h | h
        · rw [h]
          have := cutF_no (s := r) (p := q) (by rw [hr]; simp)
          simp only [List.mem_cons, not_or]
          exact ⟨fun e2 => e e2.symm, this⟩
        · exact cutF_no (s := r) (by rw [hr]; exact List.mem_cons_of_mem _ h)
theorem words_no32 {s w : List UInt8} (h : w ∈ wordsF s) : (32 : UInt8) ∉ w := cutF_no (List.mem_filter.1 h).1
theorem read_words {s t : List UInt8} (h : (wordsF s).getD 0 [] ≠ [108, 111, 97, 100]) (hw : wordsF t = wordsF s) : readV t = readV s ∧ readE t = readE s := by
  unfold readV readE readP
  rw [hw]
  split
  · exact ⟨rfl, rfl⟩
  exact ⟨rfl, rfl⟩

set_option maxHeartbeats 4000000 in
set_option cbv.maxSteps 10000000 in
theorem EventBlanks_spec (s : List UInt8) (bs : List Int) : ESpec Tryd.prog 7 [.d (.s (.str s)), .d (.view 1 (intDs bs))] (fun x => x = .d (.s (.bool true))) := by
  obtain ⟨uRefWords, huRefWords⟩ : ∃ u : List UInt8 → Bool, u = le32 := ⟨_, rfl⟩
  obtain ⟨uRefWords1, huRefWords1⟩ : ∃ u : List UInt8 → List Dat, u = fun w => strDs (wordsF w) := ⟨_, rfl⟩
  obtain ⟨uRead, huRead⟩ : ∃ u : List UInt8 → Bool, u = leL := ⟨_, rfl⟩
  obtain ⟨uRead1, huRead1⟩ : ∃ u : List UInt8 → Int, u = fun s => (readV s).k := ⟨_, rfl⟩
  obtain ⟨uRead2, huRead2⟩ : ∃ u : List UInt8 → Int, u = fun s => (readV s).id := ⟨_, rfl⟩
  obtain ⟨uRead3, huRead3⟩ : ∃ u : List UInt8 → Int, u = fun s => (readV s).n := ⟨_, rfl⟩
  obtain ⟨uRead4, huRead4⟩ : ∃ u : List UInt8 → List UInt8, u = fun s => (readV s).us := ⟨_, rfl⟩
  obtain ⟨uRead5, huRead5⟩ : ∃ u : List UInt8 → List Dat, u = fun s => strDs (readV s).gs := ⟨_, rfl⟩
  obtain ⟨uRead6, huRead6⟩ : ∃ u : List UInt8 → List UInt8, u = fun s => (readV s).vb := ⟨_, rfl⟩
  obtain ⟨uRead7, huRead7⟩ : ∃ u : List UInt8 → List UInt8, u = fun s => (readV s).rs := ⟨_, rfl⟩
  obtain ⟨uRead8, huRead8⟩ : ∃ u : List UInt8 → List UInt8, u = fun s => (readV s).sp := ⟨_, rfl⟩
  obtain ⟨uRead9, huRead9⟩ : ∃ u : List UInt8 → Int, u = fun s => (readV s).ob := ⟨_, rfl⟩
  obtain ⟨uRead10, huRead10⟩ : ∃ u : List UInt8 → List UInt8, u = fun s => (readV s).tx := ⟨_, rfl⟩
  obtain ⟨uRead11, huRead11⟩ : ∃ u : List UInt8 → Int, u = readE := ⟨_, rfl⟩
  obtain ⟨uRSame, huRSame⟩ : ∃ u : List Dat → List Dat → Bool, u = fun l m => isStrs l && isStrs m := ⟨_, rfl⟩
  obtain ⟨uRSame1, huRSame1⟩ : ∃ u : Int → Int → Int → List UInt8 → List Dat → List UInt8 → List UInt8 → List UInt8 → Int → List UInt8 → Int → Int → Int → List UInt8 → List Dat → List UInt8 → List UInt8 → List UInt8 → Int → List UInt8 → Bool, u = fun k id n us gs vb rs sp ob tx k' id' n' us' gs' vb' rs' sp' ob' tx' => rsameF k id n us (unStr gs) vb rs sp ob tx k' id' n' us' (unStr gs') vb' rs' sp' ob' tx' := ⟨_, rfl⟩
  have hG : TblOK Tryd.prog [(8, .p (φAwake26 )), (15, .p (φRefWords uRefWords uRefWords1)), (9, .p (φRead uRead uRead1 uRead2 uRead3 uRead4 uRead5 uRead6 uRead7 uRead8 uRead9 uRead10 uRead11)), (11, .p (φRSame uRSame uRSame1))] := ⟨φAwake26_ok, (by rw [huRefWords, huRefWords1]; exact φRefWords_ok), (by rw [huRead, huRead1, huRead2, huRead3, huRead4, huRead5, huRead6, huRead7, huRead8, huRead9, huRead10, huRead11]; exact φRead_ok), (by rw [huRSame, huRSame1]; exact φRSame_ok), trivial⟩
  obtain ⟨l, hl⟩ : ∃ z, z = wordsF s := ⟨_, rfl⟩
  obtain ⟨es, hes⟩ : ∃ z, z = uRefWords1 s := ⟨_, rfl⟩
  have hsd : es = strDs l := by rw [hes, hl, huRefWords1]
  have hel : es.length = l.length := by rw [hsd]; simp [strDs]
  obtain ⟨ds, hds⟩ : ∃ z, z = intDs bs := ⟨_, rfl⟩
  rw [← hds]
  have hdl : ds.length = bs.length := by rw [hds]; simp [intDs]
  refine ESpec.enter Tryd.func7 (by kernel_rfl) rfl (Nat.le_of_ble_eq_true rfl) fun hok cx hnt hfr => ?_
  obtain ⟨F, hF⟩ := real_ex
  refine AK.runT hF tabOK hmix hnt hfr true _ hG ?_
  conv => arg 4; cbv
  have hbv : ∀ (i : Nat) (n : Int), bs[i]? = some n → ds[i]? = some (.s (.int .u8 n)) ∧ 0 ≤ n ∧ n ≤ 255 := by
    intro i n hn
    have h1 : ds[i]? = some (.s (.int .u8 n)) := by rw [hds]; simp [intDs, hn]
    have h2 := Doks_iff.1 hok.2.1.2 _ (List.mem_of_getElem? h1)
    exact ⟨h1, h2.1, h2.2⟩
  have hok' := hok
  clear hok
  rw [l_not1 hF, ← hes]
  refine AKt.need rfl fun _ => ?_
  refine AKt.ff ?_
  refine AKt.node (fun hb0 => ?_) (fun hb0 => ?_)
  · repeat' (first | with_reducible refine AKt.have ?_ | with_reducible refine AKt.tt ?_ | with_reducible refine AKt.ff ?_ | with_reducible refine AKt.yes (by assumption) ?_ | with_reducible refine AKt.no (by assumption) ?_ | with_reducible refine AKt.node (fun hb => ?_) (fun hb => ?_) | with_reducible refine AKt.need ?_ (fun hb => ?_) | with_reducible refine AKt.leaf ?_ | ((with_reducible show _ = true); assumption))
    exact AKp.doneE tabOK hfr (by rfl) (by rfl)
  have hsl : s.length ≤ 4000 := by simp only [hF, f_ltI, f_leI, f_eqI, f_eqS, f_eqB, f_not, f_andB, f_orB, f_lenS, f_lenD, f_hasS, f_atS, f_hasC, f_subS, f_hasCat, f_app, f_wrap, f_add, f_sub, f_mul, f_appD, f_fits, f_hasV, f_subV, decide_eq_true_eq, decide_eq_false_iff_not, beq_iff_eq, beq_eq_false_iff_ne, Bool.and_eq_true, Bool.and_eq_false_iff, Bool.not_eq_true, Bool.not_eq_false, Bool.not_eq_eq_eq_not, Bool.not_true, Bool.not_false] at hb0; omega
  have q0 : uRefWords s = true := by rw [huRefWords]; exact decide_eq_true (by omega)
  have qr : uRead s = true := by rw [huRead]; exact decide_eq_true (by omega)
  have hk0 : 0 < l.length → F .hasD es 0 [.str] = true := fun h => by rw [hsd]; exact t_hasG (n := 0) hF h
  have s0 : F .strA es 0 0 = l.getD 0 [] := by rw [hsd]; exact t_strG hF l 0
  obtain ⟨w0, hw0⟩ : ∃ z, z = l.getD 0 [] := ⟨_, rfl⟩
  rw [s0, ← hw0]
  refine AKt.need q0 fun _ => ?_
  have lw : ∀ w, w ∈ l → w ≠ [] ∧ w.length ≤ s.length ∧ (32 : UInt8) ∉ w := fun w hw => by
    rw [hl] at hw
    exact ⟨(words_ne hw).1, (words_ne hw).2, words_no32 hw⟩
  refine exK ?K0 fun kk hK => ?_
  rotate_left
  have loop1 : l.length ≤ 40 → (0 < l.length → w0 ≠ [108, 111, 97, 100]) → AK Tryd.prog cx (finE Tryd.prog Tryd.f7 cx fun x => x = .d (.s (.bool true))) kk ⟨[(7, .d (.s (.int .i64 0))), (6, .d (.s (.str []))), (5, .d (.view 1 es)), (1, .d (.view 1 ds)), (0, .d (.s (.str s))), (4, .d (.s (.bool false)))], [], 0⟩ := ?loop1
  refine AKt.node (fun hb1 => ?_) (fun hb1 => ?_)
  · have h0 : 0 < l.length := by simp only [hF, f_ltI, f_leI, f_eqI, f_eqS, f_eqB, f_not, f_andB, f_orB, f_lenS, f_lenD, f_hasS, f_atS, f_hasC, f_subS, f_hasCat, f_app, f_wrap, f_add, f_sub, f_mul, f_appD, f_fits, f_hasV, f_subV, decide_eq_true_eq, decide_eq_false_iff_not, beq_iff_eq, beq_eq_false_iff_ne, Bool.and_eq_true, Bool.and_eq_false_iff, Bool.not_eq_true, Bool.not_eq_false, Bool.not_eq_eq_eq_not, Bool.not_true, Bool.not_false] at hb1; omega
    refine AKt.need (hk0 h0) fun _ => ?_
    refine AKt.node (fun hb2 => ?_) (fun hb2 => ?_)
    · repeat' (first | with_reducible refine AKt.have ?_ | with_reducible refine AKt.tt ?_ | with_reducible refine AKt.ff ?_ | with_reducible refine AKt.yes (by assumption) ?_ | with_reducible refine AKt.no (by assumption) ?_ | with_reducible refine AKt.node (fun hb => ?_) (fun hb => ?_) | with_reducible refine AKt.need ?_ (fun hb => ?_) | with_reducible refine AKt.leaf ?_ | ((with_reducible show _ = true); assumption))
      exact AKp.doneE tabOK hfr (by rfl) (by rfl)
    refine AKt.node (fun hb3 => ?_) (fun hb3 => ?_)
    · repeat' (first | with_reducible refine AKt.have ?_ | with_reducible refine AKt.tt ?_ | with_reducible refine AKt.ff ?_ | with_reducible refine AKt.yes (by assumption) ?_ | with_reducible refine AKt.no (by assumption) ?_ | with_reducible refine AKt.node (fun hb => ?_) (fun hb => ?_) | with_reducible refine AKt.need ?_ (fun hb => ?_) | with_reducible refine AKt.leaf ?_ | ((with_reducible show _ = true); assumption))
      exact AKp.doneE tabOK hfr (by rfl) (by rfl)
    repeat' (first | with_reducible refine AKt.have ?_ | with_reducible refine AKt.tt ?_ | with_reducible refine AKt.ff ?_ | with_reducible refine AKt.yes (by assumption) ?_ | with_reducible refine AKt.no (by assumption) ?_ | with_reducible refine AKt.node (fun hb => ?_) (fun hb => ?_) | with_reducible refine AKt.need ?_ (fun hb => ?_) | with_reducible refine AKt.leaf ?_ | ((with_reducible show _ = true); assumption))
    refine AKp.join hK _ hfr ?_ ?_ (loop1 (by simp only [hF, f_ltI, f_leI, f_eqI, f_eqS, f_eqB, f_not, f_andB, f_orB, f_lenS, f_lenD, f_hasS, f_atS, f_hasC, f_subS, f_hasCat, f_app, f_wrap, f_add, f_sub, f_mul, f_appD, f_fits, f_hasV, f_subV, decide_eq_true_eq, decide_eq_false_iff_not, beq_iff_eq, beq_eq_false_iff_ne, Bool.and_eq_true, Bool.and_eq_false_iff, Bool.not_eq_true, Bool.not_eq_false, Bool.not_eq_eq_eq_not, Bool.not_true, Bool.not_false] at hb3; omega) (fun _ => by simp only [hF, f_ltI, f_leI, f_eqI, f_eqS, f_eqB, f_not, f_andB, f_orB, f_lenS, f_lenD, f_hasS, f_atS, f_hasC, f_subS, f_hasCat, f_app, f_wrap, f_add, f_sub, f_mul, f_appD, f_fits, f_hasV, f_subV, decide_eq_true_eq, decide_eq_false_iff_not, beq_iff_eq, beq_eq_false_iff_ne, Bool.and_eq_true, Bool.and_eq_false_iff, Bool.not_eq_true, Bool.not_eq_false, Bool.not_eq_eq_eq_not, Bool.not_true, Bool.not_false] at hb2; exact hb2))
    · repeat (first | exact True.intro | refine ⟨⟨rfl, rfl⟩, ?_⟩)
    · repeat (first | exact True.intro | refine ⟨⟨rfl, rfl, rfl⟩, ?_⟩)
  · have h0 : ¬ 0 < l.length := by simp only [hF, f_ltI, f_leI, f_eqI, f_eqS, f_eqB, f_not, f_andB, f_orB, f_lenS, f_lenD, f_hasS, f_atS, f_hasC, f_subS, f_hasCat, f_app, f_wrap, f_add, f_sub, f_mul, f_appD, f_fits, f_hasV, f_subV, decide_eq_true_eq, decide_eq_false_iff_not, beq_iff_eq, beq_eq_false_iff_ne, Bool.and_eq_true, Bool.and_eq_false_iff, Bool.not_eq_true, Bool.not_eq_false, Bool.not_eq_eq_eq_not, Bool.not_true, Bool.not_false] at hb1; omega
    refine AKt.node (fun hb3 => ?_) (fun hb3 => ?_)
    · repeat' (first | with_reducible refine AKt.have ?_ | with_reducible refine AKt.tt ?_ | with_reducible refine AKt.ff ?_ | with_reducible refine AKt.yes (by assumption) ?_ | with_reducible refine AKt.no (by assumption) ?_ | with_reducible refine AKt.node (fun hb => ?_) (fun hb => ?_) | with_reducible refine AKt.need ?_ (fun hb => ?_) | with_reducible refine AKt.leaf ?_ | ((with_reducible show _ = true); assumption))
      exact AKp.doneE tabOK hfr (by rfl) (by rfl)
    repeat' (first | with_reducible refine AKt.have ?_ | with_reducible refine AKt.tt ?_ | with_reducible refine AKt.ff ?_ | with_reducible refine AKt.yes (by assumption) ?_ | with_reducible refine AKt.no (by assumption) ?_ | with_reducible refine AKt.node (fun hb => ?_) (fun hb => ?_) | with_reducible refine AKt.need ?_ (fun hb => ?_) | with_reducible refine AKt.leaf ?_ | ((with_reducible show _ = true); assumption))
    refine AKp.join hK _ hfr ?_ ?_ (loop1 (by omega) (fun h => absurd h h0))
    · repeat (first | exact True.intro | refine ⟨⟨rfl, rfl⟩, ?_⟩)
    · repeat (first | exact True.intro | refine ⟨⟨rfl, rfl, rfl⟩, ?_⟩)
  case' loop1 =>
    intro h40 hnl
    rw [hK]
    clear hK hb0
    refine AK.runT hF tabOK hmix hnt hfr true _ hG ?_
    conv => arg 4; cbv
    repeat' (first | with_reducible refine AKt.have ?_ | with_reducible refine AKt.tt ?_ | with_reducible refine AKt.ff ?_ | with_reducible refine AKt.yes (by assumption) ?_ | with_reducible refine AKt.no (by assumption) ?_ | with_reducible refine AKt.node (fun hb => ?_) (fun hb => ?_) | with_reducible refine AKt.need ?_ (fun hb => ?_) | with_reducible refine AKt.leaf ?_ | ((with_reducible show _ = true); assumption))
    refine AKp.enterLoop 13 ?_
    conv => arg 7; cbv
    refine AKl.invT hF tabOK hmix hnt hfr true _ hG (fun n vs hs => ∃ (i : Nat) (iv : Int) (t : List UInt8), i + n = l.length ∧ iv = i ∧ LineOK t (l.take i) ∧ t.length ≤ 4003 * i ∧ vs = [(7, .d (.s (.int .i64 iv))), (6, .d (.s (.str t)))] ∧ hs = []) l.length ⟨0, _, [], by omega, rfl, line_nil, by simp, rfl, rfl⟩ (by repeat (first | exact True.intro | refine ⟨⟨rfl, rfl⟩, ?_⟩)) (by repeat (first | exact True.intro | refine ⟨⟨rfl, rfl, rfl⟩, ?_⟩)) ?_
    rintro J n vs hs hJ ⟨i, iv, t, hi, hiv, ht, htl, rfl, rfl⟩
    obtain ⟨x, hx0⟩ : ∃ x, x = l.getD i [] := ⟨_, rfl⟩
    have hs1 : F .strA es iv 0 = x := by rw [hsd, hx0, hiv]; exact t_strG hF l i
    conv => arg 4; cbv
    refine AKt.node (fun hb => ?_) (fun hb => ?_)
    · have hlt : i < l.length := by simp only [hF, f_ltI, f_leI, f_eqI, f_eqS, f_eqB, f_not, f_andB, f_orB, f_lenS, f_lenD, f_hasS, f_atS, f_hasC, f_subS, f_hasCat, f_app, f_wrap, f_add, f_sub, f_mul, f_appD, f_fits, f_hasV, f_subV, decide_eq_true_eq, decide_eq_false_iff_not, beq_iff_eq, beq_eq_false_iff_ne, Bool.and_eq_true, Bool.and_eq_false_iff, Bool.not_eq_true, Bool.not_eq_false, Bool.not_eq_eq_eq_not, Bool.not_true, Bool.not_false] at hb; omega
      have hx : l[i]? = some x := by rw [hx0, List.getD_eq_getElem?_getD, List.getElem?_eq_getElem hlt]; rfl
      obtain ⟨x1, x2, x3⟩ := lw x (List.mem_of_getElem? hx)
      have hh1 : F .hasD es iv [.str] = true := by rw [hsd]; exact t_hasStrs hF hlt hiv
      refine exK ?K1 fun k2 hK2 => ?_
      rotate_left
      have loop2 : ∀ (N : Nat) (nv : Int), nv = N → 1 ≤ N → N ≤ 3 → AK Tryd.prog cx (finE Tryd.prog Tryd.f7 cx fun x => x = .d (.s (.bool true))) k2 ⟨[(52, .d (.s (.int .i64 nv))), (53, .d (.s (.int .i64 0))), (7, .d (.s (.int .i64 iv))), (6, .d (.s (.str t))), (5, .d (.view 1 es)), (1, .d (.view 1 ds)), (0, .d (.s (.str s))), (4, .d (.s (.bool false)))], [], 0⟩ := ?loop2
      obtain ⟨bv, hbv0⟩ : ∃ z, z = F .wrap .i64 (F .add 1 (F .wrap .i64 (F .tmod (F .intA ds iv 0) 3))) := ⟨_, rfl⟩
      rw [← hbv0]
      refine AKt.node (fun hb4 => ?_) (fun hb4 => ?_)
      · have hlt4 : i < bs.length := by simp only [hF, f_ltI, f_leI, f_eqI, f_eqS, f_eqB, f_not, f_andB, f_orB, f_lenS, f_lenD, f_hasS, f_atS, f_hasC, f_subS, f_hasCat, f_app, f_wrap, f_add, f_sub, f_mul, f_appD, f_fits, f_hasV, f_subV, decide_eq_true_eq, decide_eq_false_iff_not, beq_iff_eq, beq_eq_false_iff_ne, Bool.and_eq_true, Bool.and_eq_false_iff, Bool.not_eq_true, Bool.not_eq_false, Bool.not_eq_eq_eq_not, Bool.not_true, Bool.not_false] at hb4; omega
        obtain ⟨b, hb5⟩ : ∃ c, bs[i]? = some c := ⟨_, List.getElem?_eq_getElem hlt4⟩
        obtain ⟨g1, g2, g3⟩ := hbv i b hb5
        have hh2 : F .hasD ds iv [.int .u8] = true := t_hasD hF g1 hiv rfl
        have hN : ∃ N : Nat, 1 ≤ N ∧ N ≤ 3 ∧ bv = N := by
          rw [t_intA hF g1 hiv (j := 0) (s := b) (k := .u8) rfl] at hbv0
          have h0 : F .tmod b 3 = b % 3 := by rw [hF]; exact Int.tmod_eq_emod_of_nonneg g2
          rw [h0, hF] at hbv0
          have h1 : bv = IntKind.i64.wrap (1 + IntKind.i64.wrap (b % 3)) := hbv0
          rw [w_i64 (n := b % 3) (by omega) (by omega), w_i64 (by omega) (by omega)] at h1
          exact ⟨(1 + b % 3).toNat, by omega, by omega, by omega⟩
        obtain ⟨N, hN1, hN3, hN⟩ := hN
        repeat' (first | with_reducible refine AKt.have ?_ | with_reducible refine AKt.tt ?_ | with_reducible refine AKt.ff ?_ | with_reducible refine AKt.yes (by assumption) ?_ | with_reducible refine AKt.no (by assumption) ?_ | with_reducible refine AKt.node (fun hb => ?_) (fun hb => ?_) | with_reducible refine AKt.need ?_ (fun hb => ?_) | with_reducible refine AKt.leaf ?_ | ((with_reducible show _ = true); assumption))
        refine AKp.join hK2 _ hfr ?_ ?_ (loop2 N bv hN hN1 hN3)
        · repeat (first | exact True.intro | refine ⟨⟨rfl, rfl⟩, ?_⟩)
        · repeat (first | exact True.intro | refine ⟨⟨rfl, rfl, rfl⟩, ?_⟩)
      · repeat' (first | with_reducible refine AKt.have ?_ | with_reducible refine AKt.tt ?_ | with_reducible refine AKt.ff ?_ | with_reducible refine AKt.yes (by assumption) ?_ | with_reducible refine AKt.no (by assumption) ?_ | with_reducible refine AKt.node (fun hb => ?_) (fun hb => ?_) | with_reducible refine AKt.need ?_ (fun hb => ?_) | with_reducible refine AKt.leaf ?_ | ((with_reducible show _ = true); assumption))
        refine AKp.join hK2 _ hfr ?_ ?_ (loop2 1 1 rfl (by decide) (by decide))
        · repeat (first | exact True.intro | refine ⟨⟨rfl, rfl⟩, ?_⟩)
        · repeat (first | exact True.intro | refine ⟨⟨rfl, rfl, rfl⟩, ?_⟩)
      case' loop2 =>
        intro N nv hN hN1 hN3
        rw [hK2]
        clear hK2
        refine AK.runT hF tabOK hmix hnt hfr true _ hG ?_
        conv => arg 4; cbv
        repeat' (first | with_reducible refine AKt.have ?_ | with_reducible refine AKt.tt ?_ | with_reducible refine AKt.ff ?_ | with_reducible refine AKt.yes (by assumption) ?_ | with_reducible refine AKt.no (by assumption) ?_ | with_reducible refine AKt.node (fun hb => ?_) (fun hb => ?_) | with_reducible refine AKt.need ?_ (fun hb => ?_) | with_reducible refine AKt.leaf ?_ | ((with_reducible show _ = true); assumption))
        refine AKp.enterLoop 54 ?_
        conv => arg 7; cbv
        refine AKl.invT hF tabOK hmix hnt hfr true _ hG (fun m vs hs => ∃ (k : Nat) (kv : Int) (u : List UInt8), k + m = N ∧ kv = k ∧ u = t ++ List.replicate k 32 ∧ vs = [(53, .d (.s (.int .i64 kv))), (6, .d (.s (.str u)))] ∧ hs = []) N ⟨0, _, t, by omega, rfl, by simp, rfl, rfl⟩ (by repeat (first | exact True.intro | refine ⟨⟨rfl, rfl⟩, ?_⟩)) (by repeat (first | exact True.intro | refine ⟨⟨rfl, rfl, rfl⟩, ?_⟩)) ?_
        rintro J2 n2 vs hs hJ2 ⟨k, kv, u, hk, hkv, hu, rfl, rfl⟩
        have hul : u.length = t.length + k := by rw [hu]; simp
        conv => arg 4; cbv
        rw [hs1]
        have hc1 : F .hasCat u [32] = true := t_hasCat hF (by simp; omega)
        have ha1 : F .app u [32] = u ++ [32] := by rw [hF]; rfl
        have hc2 : F .hasCat u x = true := t_hasCat hF (by omega)
        have ha2 : F .app u x = u ++ x := by rw [hF]; rfl
        rw [ha1, ha2]
        refine AKt.node (fun hb6 => ?_) (fun hb6 => ?_)
        · have hk2 : k < N := by simp only [hF, f_ltI, f_leI, f_eqI, f_eqS, f_eqB, f_not, f_andB, f_orB, f_lenS, f_lenD, f_hasS, f_atS, f_hasC, f_subS, f_hasCat, f_app, f_wrap, f_add, f_sub, f_mul, f_appD, f_fits, f_hasV, f_subV, decide_eq_true_eq, decide_eq_false_iff_not, beq_iff_eq, beq_eq_false_iff_ne, Bool.and_eq_true, Bool.and_eq_false_iff, Bool.not_eq_true, Bool.not_eq_false, Bool.not_eq_eq_eq_not, Bool.not_true, Bool.not_false] at hb6; omega
          repeat' (first | with_reducible refine AKt.have ?_ | with_reducible refine AKt.tt ?_ | with_reducible refine AKt.ff ?_ | with_reducible refine AKt.yes (by assumption) ?_ | with_reducible refine AKt.no (by assumption) ?_ | with_reducible refine AKt.node (fun hb => ?_) (fun hb => ?_) | with_reducible refine AKt.need ?_ (fun hb => ?_) | with_reducible refine AKt.leaf ?_ | ((with_reducible show _ = true); assumption))
          refine AKp.again _ hfr (by repeat (first | exact True.intro | refine ⟨⟨rfl, rfl⟩, ?_⟩)) (by repeat (first | exact True.intro | refine ⟨⟨rfl, rfl, rfl⟩, ?_⟩)) (hJ2 (n2 - 1) _ _ (by omega) ⟨k + 1, _, u ++ [32], by omega, inc_i hF hkv (by omega), by rw [hu, List.replicate_succ']; simp, rfl, rfl⟩)
        · have hk2 : ¬ k < N := by simp only [hF, f_ltI, f_leI, f_eqI, f_eqS, f_eqB, f_not, f_andB, f_orB, f_lenS, f_lenD, f_hasS, f_atS, f_hasC, f_subS, f_hasCat, f_app, f_wrap, f_add, f_sub, f_mul, f_appD, f_fits, f_hasV, f_subV, decide_eq_true_eq, decide_eq_false_iff_not, beq_iff_eq, beq_eq_false_iff_ne, Bool.and_eq_true, Bool.and_eq_false_iff, Bool.not_eq_true, Bool.not_eq_false, Bool.not_eq_eq_eq_not, Bool.not_true, Bool.not_false] at hb6; omega
          have hkN : k = N := by omega
          rw [hkN] at hu hul
          repeat' (first | with_reducible refine AKt.have ?_ | with_reducible refine AKt.tt ?_ | with_reducible refine AKt.ff ?_ | with_reducible refine AKt.yes (by assumption) ?_ | with_reducible refine AKt.no (by assumption) ?_ | with_reducible refine AKt.node (fun hb => ?_) (fun hb => ?_) | with_reducible refine AKt.need ?_ (fun hb => ?_) | with_reducible refine AKt.leaf ?_ | ((with_reducible show _ = true); assumption))
          refine AKp.again _ hfr (by repeat (first | exact True.intro | refine ⟨⟨rfl, rfl⟩, ?_⟩)) (by repeat (first | exact True.intro | refine ⟨⟨rfl, rfl, rfl⟩, ?_⟩)) (hJ (n - 1) _ _ (by omega) ⟨i + 1, _, u ++ x, by omega, inc_i hF hiv (by omega), ?_, by simp; omega, rfl, rfl⟩)
          obtain ⟨q, hq⟩ : ∃ q, N = q + 1 := ⟨N - 1, by omega⟩
          rw [hu, hq, List.take_add_one, hx]
          exact line_snoc' ht q x1 x3
    · have hge : ¬ i < l.length := by simp only [hF, f_ltI, f_leI, f_eqI, f_eqS, f_eqB, f_not, f_andB, f_orB, f_lenS, f_lenD, f_hasS, f_atS, f_hasC, f_subS, f_hasCat, f_app, f_wrap, f_add, f_sub, f_mul, f_appD, f_fits, f_hasV, f_subV, decide_eq_true_eq, decide_eq_false_iff_not, beq_iff_eq, beq_eq_false_iff_ne, Bool.and_eq_true, Bool.and_eq_false_iff, Bool.not_eq_true, Bool.not_eq_false, Bool.not_eq_eq_eq_not, Bool.not_true, Bool.not_false] at hb; omega
      rw [List.take_of_length_le (by omega)] at ht
      have ha : F .app t [32] = t ++ [32] := by rw [hF]; rfl
      have hc : F .hasCat t [32] = true := t_hasCat hF (by simp; omega)
      rw [ha]
      have hw : wordsF (t ++ [32]) = wordsF s := by
        have := ht.2 []
        rw [show wordsF [] = [] from rfl, List.append_nil, hl] at this
        exact this
      have hr : readV (t ++ [32]) = readV s ∧ readE (t ++ [32]) = readE s := by
        by_cases h0 : 0 < l.length
        · exact read_words (by rw [← hl, ← hw0]; exact hnl h0) hw
        · have hnil : wordsF s = [] := by rw [← hl]; exact List.length_eq_zero_iff.1 (by omega)
          refine read_words (by rw [hnil]; decide) hw
      have hq : uRead (t ++ [32]) = true := by rw [huRead]; exact decide_eq_true (by simp; omega)
      have c1 : F .eqI (uRead11 s) (uRead11 (t ++ [32])) = true := by rw [hF, f_eqI, huRead11, hr.2]; simp
      have c2 : uRSame (uRead5 s) (uRead5 (t ++ [32])) = true := by
        rw [huRSame, huRead5]
        show (isStrs (strDs _) && isStrs (strDs _)) = true
        rw [isStrs_strDs, isStrs_strDs]; rfl
      have c3 : uRSame1 (uRead1 s) (uRead2 s) (uRead3 s) (uRead4 s) (uRead5 s) (uRead6 s) (uRead7 s) (uRead8 s) (uRead9 s) (uRead10 s) (uRead1 (t ++ [32])) (uRead2 (t ++ [32])) (uRead3 (t ++ [32])) (uRead4 (t ++ [32])) (uRead5 (t ++ [32])) (uRead6 (t ++ [32])) (uRead7 (t ++ [32])) (uRead8 (t ++ [32])) (uRead9 (t ++ [32])) (uRead10 (t ++ [32])) = true := by
        rw [huRSame1, huRead1, huRead2, huRead3, huRead4, huRead5, huRead6, huRead7, huRead8, huRead9, huRead10]
        simp only [hr.1]
        exact rsame_refl _ _ _ _ _ _ _ _ _ _
      repeat' (first | with_reducible refine AKt.have ?_ | with_reducible refine AKt.tt ?_ | with_reducible refine AKt.ff ?_ | with_reducible refine AKt.yes (by assumption) ?_ | with_reducible refine AKt.no (by assumption) ?_ | with_reducible refine AKt.node (fun hb => ?_) (fun hb => ?_) | with_reducible refine AKt.need ?_ (fun hb => ?_) | with_reducible refine AKt.leaf ?_ | ((with_reducible show _ = true); assumption))
      refine AKp.doneE tabOK hfr (by rfl) ?_
      show _ = _
      simp only [tupAV]
      rw [c3]
end Go.Proofs.YtmhkmoeailamlaaDoor
