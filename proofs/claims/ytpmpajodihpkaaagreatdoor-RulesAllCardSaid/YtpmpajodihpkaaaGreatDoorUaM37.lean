/- The library of this claim and its walks, part 37, joined out of smaller texts. No statement stands in it. -/
import Derived.Test.YtpmpajodihpkaaaGreatDoorUaM28
import Derived.Test.YtpmpajodihpkaaaGreatDoorUaM35
set_option linter.unusedSimpArgs false
set_option linter.unusedVariables false
namespace Go.Proofs.YtpmpajodihpkaaaGreatDoor
open Go Go.Proofs Go.Ua Go.Extern
set_option maxRecDepth 10000
def wS (es : List Dat) (i : Nat) : Wd := wAt (unStr es) i
theorem w_at {F : Fam} (hF : F = Fam.real) (ws : List Wd) (n : Nat) : F .strA (strDs ws) (n : Int) 0 = wAt ws n := t_strG hF ws n
def n1E (es : List Dat) (a b : Int) : Int := if es.length ≠ 2 then 2 else if numB (wS es 1) a b = false then 8 else 0
def n1V (es : List Dat) (a b : Int) : List Dat := if n1E es a b = 0 then [.s (.int .i64 (numV (wS es 1) a b))] else []
def n2E (es : List Dat) (a b c d : Int) : Int := if es.length ≠ 3 then 2 else if (numB (wS es 1) a b && numB (wS es 2) c d) = false then 8 else 0
def n2V (es : List Dat) (a b c d : Int) : List Dat := if n2E es a b c d = 0 then [.s (.int .i64 (numV (wS es 1) a b)), .s (.int .i64 (numV (wS es 2) c d))] else []
theorem lexI (V : List Dat) (e : Int) (h : V = []) : LeX (.tup [.d (.s .sl0), .d (.s (.int .i64 e))]) (.tup [.d (.view 1 V), .d (.s (.int .i64 e))]) := by
 rw [h]
 exact .tup (.cons (.d (.nil _)) (.cons (.refl _) .nil))
theorem nums1_spec (es : List Dat) (a b : Int) (h : isStrs es = true) : ESpec Tryz.prog 55 [.d (.view 1 es), .d (.s (.int .i64 2)), .d (.view 2 [.agg [.s (.int .i64 a), .s (.int .i64 b)]])] (fun x => x = .tup [.d (.view 1 (n1V es a b)), .d (.s (.int .i64 (n1E es a b)))]) := by
 obtain ⟨uRefNumber, huRefNumber⟩ : ∃ u : List UInt8 → Int → Int → Int, u = numV := ⟨_, rfl⟩
 obtain ⟨uRefNumber1, huRefNumber1⟩ : ∃ u : List UInt8 → Int → Int → Bool, u = numB := ⟨_, rfl⟩
 have hG : TblOK Tryz.prog [(69, .p (φRefNumber uRefNumber uRefNumber1))] := ⟨(by rw [huRefNumber, huRefNumber1]; exact φRefNumber_ok), trivial⟩
 obtain ⟨ws, hws⟩ : ∃ ws, ws = unStr es := ⟨_, rfl⟩
 have hes : es = strDs ws := by rw [hws, strDs_unStr h]
 have hel : es.length = ws.length := by rw [hes, strDs_length]
 obtain ⟨V, hV⟩ : ∃ z, z = n1V es a b := ⟨_, rfl⟩
 obtain ⟨E, hE⟩ : ∃ z, z = n1E es a b := ⟨_, rfl⟩
 rw [← hV, ← hE]
 obtain ⟨w1, hw1⟩ : ∃ z, z = wS es 1 := ⟨_, rfl⟩
 have hw1' : wAt ws 1 = w1 := by rw [hw1, wS, ← hws]
 unfold n1V at hV
 rw [← hE, ← hw1] at hV
 unfold n1E at hE
 rw [← hw1] at hE
 refine ESpec.enter Tryz.func55 (by kernel_rfl) rfl (Nat.le_of_ble_eq_true rfl) fun hok cx hnt hfr => ?_
 obtain ⟨F, hF⟩ := real_ex
 refine AK.runT hF tabOK hmix hnt hfr true _ hG ?_
 conv => arg 4; cbv
 refine AKt.node (fun hb => ?_) (fun hb => ?_)
 · have hne : es.length ≠ 2 := by rw [hF, f_not, f_eqI, f_lenD] at hb; intro e; rw [e] at hb; simp at hb
   rw [if_pos hne] at hE
   rw [hE, if_neg (by decide)] at hV
   repeat' (first|with_reducible (first|refine qAh ?_|refine qAt ?_|refine qAf ?_|refine qAy (by assumption) ?_|refine qAn (by assumption) ?_|refine qAd (fun hb => ?_) (fun hb => ?_)|refine qAe ?_ (fun hb => ?_)|refine qAl ?_)|((with_reducible show _=true); assumption))
   refine AKp.doneL tabOK hfr (by rfl) ?_
   rw [hE]
   exact lexI V _ hV
 have h2 : ¬ es.length ≠ 2 := by rw [hF, f_not, f_eqI, f_lenD] at hb; simp at hb; omega
 rw [if_neg h2] at hE
 repeat' (first|with_reducible (first|refine qAh ?_|refine qAt ?_|refine qAf ?_|refine qAy (by assumption) ?_|refine qAn (by assumption) ?_|refine qAd (fun hb => ?_) (fun hb => ?_)|refine qAe ?_ (fun hb => ?_)|refine qAl ?_)|((with_reducible show _=true); assumption))
 refine AKp.asRow 8 3 1 (by decide) rfl ?_
 conv => arg 4; arg 2; cbv
 refine AKp.unroll 2 fun J0 n0 => ?_
 refine AK.runT hF tabOK hmix hnt hfr true _ hG ?_
 conv => arg 4; cbv
 have l0 : ∀ d : Dat, F .ltI 0 (F .lenD [d]) = true := fun d => by rw [hF]; rfl
 have l1 : ∀ d : Dat, F .ltI 1 (F .lenD [d]) = false := fun d => by rw [hF]; rfl
 have a0 : F .wrap .i64 (F .add 0 1) = 1 := by rw [hF]; rfl
 have gD : ∀ d : Dat, F .getD [d] 0 = some d := fun d => by rw [hF]; rfl
 have k0 : F .inB 0 2 = some 0 := by rw [hF]; rfl
 have k1 : F .inB 1 2 = some 1 := by rw [hF]; rfl
 have h1 : F .hasD es 1 [.str] = true := by rw [hes]; exact t_hasG hF (n := 1) (by omega)
 have e1 : F .strA es 1 0 = w1 := by rw [hes, ← hw1']; exact w_at hF ws 1
 refine AKt.yes (l0 _) ?_
 rw [a0]
 refine AKt.need h1 fun _ => ?_
 rw [gD]
 conv => arg 4; cbv
 rw [k0]
 conv => arg 4; cbv
 rw [gD]
 conv => arg 4; cbv
 rw [k1]
 conv => arg 4; cbv
 rw [e1]
 refine AKt.have ?_
 refine AKt.node (fun hc => ?_) (fun hc => ?_)
 · have hb1 : numB w1 a b = false := by rw [hF, f_not, huRefNumber1] at hc; simpa using hc
   rw [if_pos hb1] at hE
   rw [hE, if_neg (by decide)] at hV
   repeat' (first|with_reducible (first|refine qAh ?_|refine qAt ?_|refine qAf ?_|refine qAy (by assumption) ?_|refine qAn (by assumption) ?_|refine qAd (fun hb => ?_) (fun hb => ?_)|refine qAe ?_ (fun hb => ?_)|refine qAl ?_)|((with_reducible show _=true); assumption))
   refine AKp.doneL tabOK hfr (by rfl) ?_
   rw [hE]
   exact lexI V _ hV
 have hb1 : ¬ numB w1 a b = false := by rw [hF, f_not, huRefNumber1] at hc; simpa using hc
 rw [if_neg hb1] at hE
 rw [hE, if_pos rfl] at hV
 have hu : uRefNumber w1 a b = numV w1 a b := by subst huRefNumber huRefNumber1; rfl
 obtain ⟨v, hv⟩ : ∃ z, z = uRefNumber w1 a b := ⟨_, rfl⟩
 rw [← hv]
 have ap : F .appD [] [.s (.int .i64 v)] = V := by rw [hF, hV, hv, hu]; rfl
 have hf : F .fits 8 V = true := t_fits hF (by rw [hV]; simp)
 rw [ap]
 repeat' (first|with_reducible (first|refine qAh ?_|refine qAt ?_|refine qAf ?_|refine qAy (by assumption) ?_|refine qAn (by assumption) ?_|refine qAd (fun hb => ?_) (fun hb => ?_)|refine qAe ?_ (fun hb => ?_)|refine qAl ?_)|((with_reducible show _=true); assumption))
 obtain ⟨J1, n1, nx⟩ := n0
 refine AKp.backTo (nx _ ?_)
 clear nx
 rw [a0]
 refine AK.runT hF tabOK hmix hnt hfr true _ hG ?_
 conv => arg 4; cbv
 refine AKt.no (l1 _) ?_
 repeat' (first|with_reducible (first|refine qAh ?_|refine qAt ?_|refine qAf ?_|refine qAy (by assumption) ?_|refine qAn (by assumption) ?_|refine qAd (fun hb => ?_) (fun hb => ?_)|refine qAe ?_ (fun hb => ?_)|refine qAl ?_)|((with_reducible show _=true); assumption))
 refine AKp.freeze 1 rfl ?_
 conv => arg 4; arg 2; cbv
 refine AKp.doneE tabOK hfr (by rfl) ?_
 show _ = _
 simp only [tupAV]
 rw [hE]
def φNums1 (p : List Dat → Bool) (u : List Dat → Int → Int → List Dat) (e : List Dat → Int → Int → Int) : List AV → Option (Bool × AV)
 | [.d (.view 1 es), .d (.s (.int .i64 2)), .d (.view 2 [.agg [.s (.int .i64 a), .s (.int .i64 b)]])] => some (p es, .tup [.d (.view 1 (u es a b)), .d (.s (.int .i64 (e es a b)))])
 | _ => none
theorem φNums1_ok : SpOK Tryz.prog 55 (φNums1 (isStrs) (n1V) (n1E)) := by
 intro xs b x h hb
 unfold φNums1 at h
 split at h
 · simp only [Option.some.injEq, Prod.mk.injEq] at h
   obtain ⟨rfl, rfl⟩ := h
   exact nums1_spec _ _ _ hb
 · cases h
theorem nums2_spec (es : List Dat) (a b c d : Int) (h : isStrs es = true) : ESpec Tryz.prog 55 [.d (.view 1 es), .d (.s (.int .i64 3)), .d (.view 2 [.agg [.s (.int .i64 a), .s (.int .i64 b)], .agg [.s (.int .i64 c), .s (.int .i64 d)]])] (fun x => x = .tup [.d (.view 1 (n2V es a b c d)), .d (.s (.int .i64 (n2E es a b c d)))]) := by
 obtain ⟨uRefNumber, huRefNumber⟩ : ∃ u : List UInt8 → Int → Int → Int, u = numV := ⟨_, rfl⟩
 obtain ⟨uRefNumber1, huRefNumber1⟩ : ∃ u : List UInt8 → Int → Int → Bool, u = numB := ⟨_, rfl⟩
 have hG : TblOK Tryz.prog [(69, .p (φRefNumber uRefNumber uRefNumber1))] := ⟨(by rw [huRefNumber, huRefNumber1]; exact φRefNumber_ok), trivial⟩
 obtain ⟨ws, hws⟩ : ∃ ws, ws = unStr es := ⟨_, rfl⟩
 have hes : es = strDs ws := by rw [hws, strDs_unStr h]
 have hel : es.length = ws.length := by rw [hes, strDs_length]
 obtain ⟨V, hV⟩ : ∃ z, z = n2V es a b c d := ⟨_, rfl⟩
 obtain ⟨E, hE⟩ : ∃ z, z = n2E es a b c d := ⟨_, rfl⟩
 rw [← hV, ← hE]
 obtain ⟨w1, hw1⟩ : ∃ z, z = wS es 1 := ⟨_, rfl⟩
 obtain ⟨w2, hw2⟩ : ∃ z, z = wS es 2 := ⟨_, rfl⟩
 have hw1' : wAt ws 1 = w1 := by rw [hw1, wS, ← hws]
 have hw2' : wAt ws 2 = w2 := by rw [hw2, wS, ← hws]
 unfold n2V at hV
 rw [← hE, ← hw1, ← hw2] at hV
 unfold n2E at hE
 rw [← hw1, ← hw2] at hE
 refine ESpec.enter Tryz.func55 (by kernel_rfl) rfl (Nat.le_of_ble_eq_true rfl) fun hok cx hnt hfr => ?_
 obtain ⟨F, hF⟩ := real_ex
 refine AK.runT hF tabOK hmix hnt hfr true _ hG ?_
 conv => arg 4; cbv
 refine AKt.node (fun hb => ?_) (fun hb => ?_)
 · have hne : es.length ≠ 3 := by rw [hF, f_not, f_eqI, f_lenD] at hb; intro e; rw [e] at hb; simp at hb
   rw [if_pos hne] at hE
   rw [hE, if_neg (by decide)] at hV
   repeat' (first|with_reducible (first|refine qAh ?_|refine qAt ?_|refine qAf ?_|refine qAy (by assumption) ?_|refine qAn (by assumption) ?_|refine qAd (fun hb => ?_) (fun hb => ?_)|refine qAe ?_ (fun hb => ?_)|refine qAl ?_)|((with_reducible show _=true); assumption))
   refine AKp.doneL tabOK hfr (by rfl) ?_
   rw [hE]
   exact lexI V _ hV
 have h2 : ¬ es.length ≠ 3 := by rw [hF, f_not, f_eqI, f_lenD] at hb; simp at hb; omega
 rw [if_neg h2] at hE
 repeat' (first|with_reducible (first|refine qAh ?_|refine qAt ?_|refine qAf ?_|refine qAy (by assumption) ?_|refine qAn (by assumption) ?_|refine qAd (fun hb => ?_) (fun hb => ?_)|refine qAe ?_ (fun hb => ?_)|refine qAl ?_)|((with_reducible show _=true); assumption))
 refine AKp.asRow 8 3 1 (by decide) rfl ?_
 conv => arg 4; arg 2; cbv
 refine AKp.unroll 3 fun J0 n0 => ?_
 refine AK.runT hF tabOK hmix hnt hfr true _ hG ?_
 conv => arg 4; cbv
 have l0 : ∀ p q : Dat, F .ltI 0 (F .lenD [p, q]) = true := fun p q => by rw [hF]; rfl
 have l1 : ∀ p q : Dat, F .ltI 1 (F .lenD [p, q]) = true := fun p q => by rw [hF]; rfl
 have l2 : ∀ p q : Dat, F .ltI 2 (F .lenD [p, q]) = false := fun p q => by rw [hF]; rfl
 have a0 : F .wrap .i64 (F .add 0 1) = 1 := by rw [hF]; rfl
 have a1 : F .wrap .i64 (F .add 1 1) = 2 := by rw [hF]; rfl
 have gD0 : ∀ p q : Dat, F .getD [p, q] 0 = some p := fun p q => by rw [hF]; rfl
 have gD1 : ∀ p q : Dat, F .getD [p, q] 1 = some q := fun p q => by rw [hF]; rfl
 have k0 : F .inB 0 2 = some 0 := by rw [hF]; rfl
 have k1 : F .inB 1 2 = some 1 := by rw [hF]; rfl
 have h1 : F .hasD es 1 [.str] = true := by rw [hes]; exact t_hasG hF (n := 1) (by omega)
 have h2' : F .hasD es 2 [.str] = true := by rw [hes]; exact t_hasG hF (n := 2) (by omega)
 have e1 : F .strA es 1 0 = w1 := by rw [hes, ← hw1']; exact w_at hF ws 1
 have e2 : F .strA es 2 0 = w2 := by rw [hes, ← hw2']; exact w_at hF ws 2
 have bad : numB w1 a b = false ∨ numB w2 c d = false → V = [] ∧ E = 8 := fun h => by
   have e : E = 8 := by rw [hE, if_pos]; rcases h with h | h <;> rw [h] <;> simp
   rw [e, if_neg (by decide)] at hV
   exact ⟨hV, e⟩
 refine AKt.yes (l0 _ _) ?_
 rw [a0]
 refine AKt.need h1 fun _ => ?_
 rw [gD0]
 conv => arg 4; cbv
 rw [k0]
 conv => arg 4; cbv
 rw [gD0]
 conv => arg 4; cbv
 rw [k1]
 conv => arg 4; cbv
 rw [e1]
 refine AKt.have ?_
 refine AKt.node (fun hc => ?_) (fun hc => ?_)
 · have hb1 : numB w1 a b = false := by rw [hF, f_not, huRefNumber1] at hc; simpa using hc
   obtain ⟨g1, g2⟩ := bad (.inl hb1)
   repeat' (first|with_reducible (first|refine qAh ?_|refine qAt ?_|refine qAf ?_|refine qAy (by assumption) ?_|refine qAn (by assumption) ?_|refine qAd (fun hb => ?_) (fun hb => ?_)|refine qAe ?_ (fun hb => ?_)|refine qAl ?_)|((with_reducible show _=true); assumption))
   refine AKp.doneL tabOK hfr (by rfl) ?_
   rw [g2]
   exact lexI V _ g1
 have hb1 : numB w1 a b = true := by rw [hF, f_not, huRefNumber1] at hc; simpa using hc
 have hu : uRefNumber w1 a b = numV w1 a b := by subst huRefNumber huRefNumber1; rfl
 obtain ⟨v, hv⟩ : ∃ z, z = uRefNumber w1 a b := ⟨_, rfl⟩
 rw [← hv]
 have ap : F .appD [] [.s (.int .i64 v)] = [.s (.int .i64 v)] := by rw [hF]; rfl
 have hf : F .fits 8 [.s (.int .i64 v)] = true := t_fits hF (by simp)
 rw [ap]
 repeat' (first|with_reducible (first|refine qAh ?_|refine qAt ?_|refine qAf ?_|refine qAy (by assumption) ?_|refine qAn (by assumption) ?_|refine qAd (fun hb => ?_) (fun hb => ?_)|refine qAe ?_ (fun hb => ?_)|refine qAl ?_)|((with_reducible show _=true); assumption))
 obtain ⟨J1, n1, nx⟩ := n0
 refine AKp.backTo (nx _ ?_)
 clear nx
 rw [a0]
 refine AK.runT hF tabOK hmix hnt hfr true _ hG ?_
 conv => arg 4; cbv
 refine AKt.yes (l1 _ _) ?_
 rw [a1]
 refine AKt.need h2' fun _ => ?_
 rw [gD1]
 conv => arg 4; cbv
 rw [k0]
 conv => arg 4; cbv
 rw [gD1]
 conv => arg 4; cbv
 rw [k1]
 conv => arg 4; cbv
 rw [e2]
 refine AKt.have ?_
 refine AKt.node (fun hc => ?_) (fun hc => ?_)
 · have hb2 : numB w2 c d = false := by rw [hF, f_not, huRefNumber1] at hc; simpa using hc
   obtain ⟨g1, g2⟩ := bad (.inr hb2)
   repeat' (first|with_reducible (first|refine qAh ?_|refine qAt ?_|refine qAf ?_|refine qAy (by assumption) ?_|refine qAn (by assumption) ?_|refine qAd (fun hb => ?_) (fun hb => ?_)|refine qAe ?_ (fun hb => ?_)|refine qAl ?_)|((with_reducible show _=true); assumption))
   refine AKp.doneL tabOK hfr (by rfl) ?_
   rw [g2]
   exact lexI V _ g1
 have hb2 : numB w2 c d = true := by rw [hF, f_not, huRefNumber1] at hc; simpa using hc
 rw [if_neg (by rw [hb1, hb2]; decide)] at hE
 rw [hE, if_pos rfl] at hV
 have hu2 : uRefNumber w2 c d = numV w2 c d := by subst huRefNumber huRefNumber1; rfl
 obtain ⟨v2, hv2⟩ : ∃ z, z = uRefNumber w2 c d := ⟨_, rfl⟩
 rw [← hv2]
 have ap2 : F .appD [.s (.int .i64 v)] [.s (.int .i64 v2)] = V := by rw [hF, hV, hv, hu, hv2, hu2]; rfl
 have hf2 : F .fits 8 V = true := t_fits hF (by rw [hV]; simp)
 rw [ap2]
 repeat' (first|with_reducible (first|refine qAh ?_|refine qAt ?_|refine qAf ?_|refine qAy (by assumption) ?_|refine qAn (by assumption) ?_|refine qAd (fun hb => ?_) (fun hb => ?_)|refine qAe ?_ (fun hb => ?_)|refine qAl ?_)|((with_reducible show _=true); assumption))
 obtain ⟨J2, n2, nx⟩ := n1
 refine AKp.backTo (nx _ ?_)
 clear nx
 rw [a1]
 refine AK.runT hF tabOK hmix hnt hfr true _ hG ?_
 conv => arg 4; cbv
 refine AKt.no (l2 _ _) ?_
 repeat' (first|with_reducible (first|refine qAh ?_|refine qAt ?_|refine qAf ?_|refine qAy (by assumption) ?_|refine qAn (by assumption) ?_|refine qAd (fun hb => ?_) (fun hb => ?_)|refine qAe ?_ (fun hb => ?_)|refine qAl ?_)|((with_reducible show _=true); assumption))
 refine AKp.freeze 2 rfl ?_
 conv => arg 4; arg 2; cbv
 refine AKp.doneE tabOK hfr (by rfl) ?_
 show _ = _
 simp only [tupAV]
 rw [hE]
def φNums2 (p : List Dat → Bool) (u : List Dat → Int → Int → Int → Int → List Dat) (e : List Dat → Int → Int → Int → Int → Int) : List AV → Option (Bool × AV)
 | [.d (.view 1 es), .d (.s (.int .i64 3)), .d (.view 2 [.agg [.s (.int .i64 a), .s (.int .i64 b)], .agg [.s (.int .i64 c), .s (.int .i64 d)]])] => some (p es, .tup [.d (.view 1 (u es a b c d)), .d (.s (.int .i64 (e es a b c d)))])
 | _ => none
theorem φNums2_ok : SpOK Tryz.prog 55 (φNums2 (isStrs) (n2V) (n2E)) := by
 intro xs b x h hb
 unfold φNums2 at h
 split at h
 · simp only [Option.some.injEq, Prod.mk.injEq] at h
   obtain ⟨rfl, rfl⟩ := h
   exact nums2_spec _ _ _ _ _ hb
 · cases h
end Go.Proofs.YtpmpajodihpkaaaGreatDoor
