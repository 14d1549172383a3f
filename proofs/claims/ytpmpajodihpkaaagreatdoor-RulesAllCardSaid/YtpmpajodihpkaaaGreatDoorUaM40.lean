/- The library of this claim and its walks, part 40, joined out of smaller texts. No statement stands in it. -/
import Derived.Test.YtpmpajodihpkaaaGreatDoorUaM29
import Derived.Test.YtpmpajodihpkaaaGreatDoorUaM34
import Derived.Test.YtpmpajodihpkaaaGreatDoorUaM37
set_option linter.unusedSimpArgs false
set_option linter.unusedVariables false
namespace Go.Proofs.YtpmpajodihpkaaaGreatDoor
open Go Go.Proofs Go.Ua Go.Extern
set_option maxRecDepth 10000
def rulC (c : Cf) (w : List Wd) : List Sm := if rulE c w = 0 then addR c.ss (rlOf w) else c.ss
set_option maxHeartbeats 8000000 in
set_option cbv.maxSteps 10000000 in
theorem rrule_spec (c : Cf) (ws : List Wd) (hcl : c.ss.length ≤ 1000) (hw32 : ∀ w, w ∈ ws → le32 w = true) : ESpec Tryz.prog 58 [.d (.agg [.s (.int .i64 c.tt), .s (.int .i64 c.pe), .s (.int .i64 c.pr), .s (.int .i64 c.mo), .view 10 (lvDs c.ls), .view 5 (smDs c.ss)]), .d (.view 1 (strDs ws))] (fun x => x = .tup [.d (.agg [.s (.int .i64 c.tt), .s (.int .i64 c.pe), .s (.int .i64 c.pr), .s (.int .i64 c.mo), .view 10 (lvDs c.ls), .view 5 (smDs (rulC c ws))]), .d (.s (.int .i64 (rulE c ws)))]) := by
 obtain ⟨uRefList, huRefList⟩ : ∃ u : List UInt8 → Bool, u = le32 := ⟨_, rfl⟩
 obtain ⟨uRefList1, huRefList1⟩ : ∃ u : List UInt8 → List Dat, u = listV := ⟨_, rfl⟩
 obtain ⟨uRefList2, huRefList2⟩ : ∃ u : List UInt8 → Bool, u = listB := ⟨_, rfl⟩
 have hG : TblOK Tryz.prog [(71, .p (φRefList uRefList uRefList1 uRefList2))] := ⟨(by rw [huRefList, huRefList1, huRefList2]; exact φRefList_ok), trivial⟩
 obtain ⟨R, hR⟩ : ∃ z, z = smDs (rulC c ws) := ⟨_, rfl⟩
 obtain ⟨E, hE⟩ : ∃ z, z = rulE c ws := ⟨_, rfl⟩
 unfold rulC at hR
 rw [← hE] at hR
 have hR' : R = if E = 0 then smDs (addR c.ss (rlOf ws)) else smDs c.ss := by rw [hR]; split <;> rfl
 rw [show smDs (rulC c ws) = R by rw [hR, rulC, ← hE], ← hE]
 clear hR
 unfold rulE lastR at hE
 obtain ⟨tt, pe, pr, mo, ls, ss⟩ := c
 simp only at hE hR' hcl ⊢
 obtain ⟨ld, hld⟩ : ∃ z, z = lvDs ls := ⟨_, rfl⟩
 obtain ⟨sd, hsd⟩ : ∃ z, z = smDs ss := ⟨_, rfl⟩
 obtain ⟨es, hes⟩ : ∃ z, z = strDs ws := ⟨_, rfl⟩
 rw [← hld, ← hsd, ← hes]
 rw [← hsd] at hR'
 have hsl : sd.length = ss.length := by rw [hsd, smDs_len]
 have hel : es.length = ws.length := by rw [hes, strDs_length]
 refine ESpec.enter Tryz.func58 (by kernel_rfl) rfl (Nat.le_of_ble_eq_true rfl) fun hok cx hnt hfr => ?_
 obtain ⟨F, hF⟩ := real_ex
 refine AK.runT hF tabOK hmix hnt hfr false _ hG ?_
 conv => arg 4; cbv
 have hd : ∀ (n : Nat) (z : Int), n < ws.length → z = n → F .hasD es z [.str] = true := fun n z h hz => by rw [hes, hz]; exact t_hasG hF h
 have sa : ∀ (n : Nat) (z : Int), z = n → F .strA es z 0 = wAt ws n := fun n z hz => by rw [hes, hz]; exact w_at hF ws n
 have err : ∀ e : Int, E = e → e ≠ 0 → R = sd ∧ E = e := fun e h1 h2 => ⟨by rw [hR', h1, if_neg h2], h1⟩
 refine AKt.node (fun hb => ?_) (fun hb => ?_)
 · have hne : ws.length ≠ 6 := by rw [hF, f_not, f_eqI, f_lenD, hel] at hb; intro e; rw [e] at hb; simp at hb
   rw [if_pos (.inl hne)] at hE
   obtain ⟨g1, g2⟩ := err 2 hE (by decide)
   repeat' (first|with_reducible (first|refine qAh ?_|refine qAt ?_|refine qAf ?_|refine qAy (by assumption) ?_|refine qAn (by assumption) ?_|refine qAd (fun hb => ?_) (fun hb => ?_)|refine qAe ?_ (fun hb => ?_)|refine qAl ?_)|((with_reducible show _=true); assumption))
   refine AKp.doneE tabOK hfr (by rfl) ?_
   show _ = _
   simp only [tupAV]
   rw [g1, g2]
   rfl
 have h6 : ws.length = 6 := by rw [hF, f_not, f_eqI, f_lenD, hel] at hb; simp at hb; omega
 refine AKt.node (fun hb2 => ?_) (fun hb2 => ?_)
 · have hne : ss = [] := by rw [hF, f_eqI, f_lenD, hsl] at hb2; have := eq_of_beq hb2; exact List.eq_nil_of_length_eq_zero (by omega)
   rw [if_pos (.inr hne)] at hE
   obtain ⟨g1, g2⟩ := err 2 hE (by decide)
   repeat' (first|with_reducible (first|refine qAh ?_|refine qAt ?_|refine qAf ?_|refine qAy (by assumption) ?_|refine qAn (by assumption) ?_|refine qAd (fun hb => ?_) (fun hb => ?_)|refine qAe ?_ (fun hb => ?_)|refine qAl ?_)|((with_reducible show _=true); assumption))
   refine AKp.doneE tabOK hfr (by rfl) ?_
   show _ = _
   simp only [tupAV]
   rw [g1, g2]
   rfl
 have hne : ss ≠ [] := fun e => by rw [hF, f_eqI, f_lenD, hsl, e] at hb2; simp at hb2
 have hp0 : 0 < ss.length := by rcases ss with _ | ⟨a, r⟩; exact absurd rfl hne; simp
 rw [if_neg (by rintro (h | h); exact h h6; exact hne h)] at hE
 have mem : ∀ n, n < ws.length → wAt ws n ∈ ws := fun n h => by rw [wAt, List.getD_eq_getElem?_getD, List.getElem?_eq_getElem h]; exact List.getElem_mem h
 have un1 : ∀ z, uRefList1 z = listV z := fun z => by subst huRefList huRefList1 huRefList2; rfl
 have un2 : ∀ z, uRefList2 z = listB z := fun z => by subst huRefList huRefList1 huRefList2; rfl
 have un0 : ∀ n, n < ws.length → uRefList (wAt ws n) = true := fun n h => by subst huRefList huRefList1 huRefList2; exact hw32 _ (mem n h)
 have k0 : F .inB 0 5 = some 0 := by rw [hF]; rfl
 have k1 : F .inB 1 5 = some 1 := by rw [hF]; rfl
 have k2 : F .inB 2 5 = some 2 := by rw [hF]; rfl
 have k3 : F .inB 3 5 = some 3 := by rw [hF]; rfl
 have k4 : F .inB 4 5 = some 4 := by rw [hF]; rfl
 have l0 : F .ltI 0 5 = true := by rw [hF]; rfl
 have l1 : F .ltI 1 5 = true := by rw [hF]; rfl
 have l2 : F .ltI 2 5 = true := by rw [hF]; rfl
 have l3 : F .ltI 3 5 = true := by rw [hF]; rfl
 have l4 : F .ltI 4 5 = true := by rw [hF]; rfl
 have l5 : F .ltI 5 5 = false := by rw [hF]; rfl
 have a0 : F .wrap .i64 (F .add 0 1) = 1 := by rw [hF]; rfl
 have a1 : F .wrap .i64 (F .add 1 1) = 2 := by rw [hF]; rfl
 have a2 : F .wrap .i64 (F .add 2 1) = 3 := by rw [hF]; rfl
 have a3 : F .wrap .i64 (F .add 3 1) = 4 := by rw [hF]; rfl
 have a4 : F .wrap .i64 (F .add 4 1) = 5 := by rw [hF]; rfl
 have a4' : F .wrap .i64 (F .add 4 1) = 5 := a4
 have bad2 : lisB ws = false → R = sd ∧ E = 2 := fun h => err 2 (by rw [hE, if_pos h]) (by decide)
 obtain ⟨z0, hz0⟩ : ∃ z, z = wAt ws 1 := ⟨_, rfl⟩
 have d0 : F .hasD es 1 [.str] = true := hd 1 _ (by omega) rfl
 have y0 : F .strA es 1 0 = z0 := by rw [hz0]; exact sa 1 _ rfl
 have p0 : uRefList z0 = true := by rw [hz0]; exact un0 1 (by omega)
 obtain ⟨z1, hz1⟩ : ∃ z, z = wAt ws 2 := ⟨_, rfl⟩
 have d1 : F .hasD es 2 [.str] = true := hd 2 _ (by omega) rfl
 have y1 : F .strA es 2 0 = z1 := by rw [hz1]; exact sa 2 _ rfl
 have p1 : uRefList z1 = true := by rw [hz1]; exact un0 2 (by omega)
 obtain ⟨z2, hz2⟩ : ∃ z, z = wAt ws 3 := ⟨_, rfl⟩
 have d2 : F .hasD es 3 [.str] = true := hd 3 _ (by omega) rfl
 have y2 : F .strA es 3 0 = z2 := by rw [hz2]; exact sa 3 _ rfl
 have p2 : uRefList z2 = true := by rw [hz2]; exact un0 3 (by omega)
 obtain ⟨z3, hz3⟩ : ∃ z, z = wAt ws 4 := ⟨_, rfl⟩
 have d3 : F .hasD es 4 [.str] = true := hd 4 _ (by omega) rfl
 have y3 : F .strA es 4 0 = z3 := by rw [hz3]; exact sa 4 _ rfl
 have p3 : uRefList z3 = true := by rw [hz3]; exact un0 4 (by omega)
 obtain ⟨z4, hz4⟩ : ∃ z, z = wAt ws 5 := ⟨_, rfl⟩
 have d4 : F .hasD es 5 [.str] = true := hd 5 _ (by omega) rfl
 have y4 : F .strA es 5 0 = z4 := by rw [hz4]; exact sa 5 _ rfl
 have p4 : uRefList z4 = true := by rw [hz4]; exact un0 5 (by omega)
 have hlis : lisB ws = (listB z0 && (listB z1 && (listB z2 && (listB z3 && listB z4)))) := by rw [lisB, hz0, hz1, hz2, hz3, hz4]
 repeat' (first|with_reducible (first|refine qAh ?_|refine qAt ?_|refine qAf ?_|refine qAy (by assumption) ?_|refine qAn (by assumption) ?_|refine qAd (fun hb => ?_) (fun hb => ?_)|refine qAe ?_ (fun hb => ?_)|refine qAl ?_)|((with_reducible show _=true); assumption))
 refine AKp.unroll 6 fun J0 n0 => ?_
 refine AK.runT hF tabOK hmix hnt hfr false _ hG ?_
 conv => arg 4; cbv
 refine AKt.yes l0 ?_
 rw [a0]
 refine AKt.need d0 fun _ => ?_
 rw [y0]
 refine AKt.need p0 fun _ => ?_
 refine AKt.node (fun c0 => ?_) (fun c0 => ?_)
 · obtain ⟨g1, g2⟩ := bad2 (by
     rw [hF, f_not, un2] at c0
     rw [hlis]
     simp only [Bool.not_eq_true'] at c0
     rw [c0]
     simp)
   repeat' (first|with_reducible (first|refine qAh ?_|refine qAt ?_|refine qAf ?_|refine qAy (by assumption) ?_|refine qAn (by assumption) ?_|refine qAd (fun hb => ?_) (fun hb => ?_)|refine qAe ?_ (fun hb => ?_)|refine qAl ?_)|((with_reducible show _=true); assumption))
   refine AKp.doneE tabOK hfr (by rfl) ?_
   show _ = _
   simp only [tupAV]
   rw [g1, g2]
   rfl
 rw [k0]
 conv => arg 4; cbv
 repeat' (first|with_reducible (first|refine qAh ?_|refine qAt ?_|refine qAf ?_|refine qAy (by assumption) ?_|refine qAn (by assumption) ?_|refine qAd (fun hb => ?_) (fun hb => ?_)|refine qAe ?_ (fun hb => ?_)|refine qAl ?_)|((with_reducible show _=true); assumption))
 rw [a0]
 obtain ⟨J1, n1, nx⟩ := n0
 refine AKp.backTo (nx _ ?_)
 clear nx
 refine AK.runT hF tabOK hmix hnt hfr false _ hG ?_
 conv => arg 4; cbv
 refine AKt.yes l1 ?_
 rw [a1]
 refine AKt.need d1 fun _ => ?_
 rw [y1]
 refine AKt.need p1 fun _ => ?_
 refine AKt.node (fun c1 => ?_) (fun c1 => ?_)
 · obtain ⟨g1, g2⟩ := bad2 (by
     rw [hF, f_not, un2] at c1
     rw [hlis]
     simp only [Bool.not_eq_true'] at c1
     rw [c1]
     simp)
   repeat' (first|with_reducible (first|refine qAh ?_|refine qAt ?_|refine qAf ?_|refine qAy (by assumption) ?_|refine qAn (by assumption) ?_|refine qAd (fun hb => ?_) (fun hb => ?_)|refine qAe ?_ (fun hb => ?_)|refine qAl ?_)|((with_reducible show _=true); assumption))
   refine AKp.doneE tabOK hfr (by rfl) ?_
   show _ = _
   simp only [tupAV]
   rw [g1, g2]
   rfl
 rw [k1]
 conv => arg 4; cbv
 repeat' (first|with_reducible (first|refine qAh ?_|refine qAt ?_|refine qAf ?_|refine qAy (by assumption) ?_|refine qAn (by assumption) ?_|refine qAd (fun hb => ?_) (fun hb => ?_)|refine qAe ?_ (fun hb => ?_)|refine qAl ?_)|((with_reducible show _=true); assumption))
 rw [a1]
 obtain ⟨J2, n2, nx⟩ := n1
 refine AKp.backTo (nx _ ?_)
 clear nx
 refine AK.runT hF tabOK hmix hnt hfr false _ hG ?_
 conv => arg 4; cbv
 refine AKt.yes l2 ?_
 rw [a2]
 refine AKt.need d2 fun _ => ?_
 rw [y2]
 refine AKt.need p2 fun _ => ?_
 refine AKt.node (fun c2 => ?_) (fun c2 => ?_)
 · obtain ⟨g1, g2⟩ := bad2 (by
     rw [hF, f_not, un2] at c2
     rw [hlis]
     simp only [Bool.not_eq_true'] at c2
     rw [c2]
     simp)
   repeat' (first|with_reducible (first|refine qAh ?_|refine qAt ?_|refine qAf ?_|refine qAy (by assumption) ?_|refine qAn (by assumption) ?_|refine qAd (fun hb => ?_) (fun hb => ?_)|refine qAe ?_ (fun hb => ?_)|refine qAl ?_)|((with_reducible show _=true); assumption))
   refine AKp.doneE tabOK hfr (by rfl) ?_
   show _ = _
   simp only [tupAV]
   rw [g1, g2]
   rfl
 rw [k2]
 conv => arg 4; cbv
 repeat' (first|with_reducible (first|refine qAh ?_|refine qAt ?_|refine qAf ?_|refine qAy (by assumption) ?_|refine qAn (by assumption) ?_|refine qAd (fun hb => ?_) (fun hb => ?_)|refine qAe ?_ (fun hb => ?_)|refine qAl ?_)|((with_reducible show _=true); assumption))
 rw [a2]
 obtain ⟨J3, n3, nx⟩ := n2
 refine AKp.backTo (nx _ ?_)
 clear nx
 refine AK.runT hF tabOK hmix hnt hfr false _ hG ?_
 conv => arg 4; cbv
 refine AKt.yes l3 ?_
 rw [a3]
 refine AKt.need d3 fun _ => ?_
 rw [y3]
 refine AKt.need p3 fun _ => ?_
 refine AKt.node (fun c3 => ?_) (fun c3 => ?_)
 · obtain ⟨g1, g2⟩ := bad2 (by
     rw [hF, f_not, un2] at c3
     rw [hlis]
     simp only [Bool.not_eq_true'] at c3
     rw [c3]
     simp)
   repeat' (first|with_reducible (first|refine qAh ?_|refine qAt ?_|refine qAf ?_|refine qAy (by assumption) ?_|refine qAn (by assumption) ?_|refine qAd (fun hb => ?_) (fun hb => ?_)|refine qAe ?_ (fun hb => ?_)|refine qAl ?_)|((with_reducible show _=true); assumption))
   refine AKp.doneE tabOK hfr (by rfl) ?_
   show _ = _
   simp only [tupAV]
   rw [g1, g2]
   rfl
 rw [k3]
 conv => arg 4; cbv
 repeat' (first|with_reducible (first|refine qAh ?_|refine qAt ?_|refine qAf ?_|refine qAy (by assumption) ?_|refine qAn (by assumption) ?_|refine qAd (fun hb => ?_) (fun hb => ?_)|refine qAe ?_ (fun hb => ?_)|refine qAl ?_)|((with_reducible show _=true); assumption))
 rw [a3]
 obtain ⟨J4, n4, nx⟩ := n3
 refine AKp.backTo (nx _ ?_)
 clear nx
 refine AK.runT hF tabOK hmix hnt hfr false _ hG ?_
 conv => arg 4; cbv
 refine AKt.yes l4 ?_
 rw [a4]
 refine AKt.need d4 fun _ => ?_
 rw [y4]
 refine AKt.need p4 fun _ => ?_
 refine AKt.node (fun c4 => ?_) (fun c4 => ?_)
 · obtain ⟨g1, g2⟩ := bad2 (by
     rw [hF, f_not, un2] at c4
     rw [hlis]
     simp only [Bool.not_eq_true'] at c4
     rw [c4]
     simp)
   repeat' (first|with_reducible (first|refine qAh ?_|refine qAt ?_|refine qAf ?_|refine qAy (by assumption) ?_|refine qAn (by assumption) ?_|refine qAd (fun hb => ?_) (fun hb => ?_)|refine qAe ?_ (fun hb => ?_)|refine qAl ?_)|((with_reducible show _=true); assumption))
   refine AKp.doneE tabOK hfr (by rfl) ?_
   show _ = _
   simp only [tupAV]
   rw [g1, g2]
   rfl
 rw [k4]
 conv => arg 4; cbv
 repeat' (first|with_reducible (first|refine qAh ?_|refine qAt ?_|refine qAf ?_|refine qAy (by assumption) ?_|refine qAn (by assumption) ?_|refine qAd (fun hb => ?_) (fun hb => ?_)|refine qAe ?_ (fun hb => ?_)|refine qAl ?_)|((with_reducible show _=true); assumption))
 rw [a4]
 obtain ⟨J5, n5, nx⟩ := n4
 refine AKp.backTo (nx _ ?_)
 clear nx
 refine AK.runT hF tabOK hmix hnt hfr false _ hG ?_
 conv => arg 4; cbv
 refine AKt.no l5 ?_
 have hlis2 : lisB ws = true := by
   rw [hlis]
   rw [hF, f_not, un2] at c0 c1 c2 c3 c4
   simp only [Bool.not_eq_false'] at c0 c1 c2 c3 c4
   rw [c0, c1, c2, c3, c4]; rfl
 rw [if_neg (by rw [hlis2]; decide)] at hE
 obtain ⟨l, hl⟩ : ∃ l, l = ss.length - 1 := ⟨_, rfl⟩
 obtain ⟨lv, hlv⟩ : ∃ z, z = F .wrap .i64 (F .sub (F .lenD sd) 1) := ⟨_, rfl⟩
 have hlv2 : lv = (l : Int) := by
   rw [hlv, hF, f_lenD, hsl]
   show IntKind.i64.wrap ((ss.length : Int) - 1) = _
   rw [w_i64 (by omega) (by omega)]
   omega
 obtain ⟨x, hx⟩ : ∃ x, ss[l]? = some x := ⟨_, List.getElem?_eq_getElem (by omega)⟩
 have hxl : ss.getLastD zeroS = x := by
   rw [List.getLastD_eq_getLast?, List.getLast?_eq_getElem?, ← hl, hx]
   rfl
 have hdx : sd[l]? = some x.dat := by rw [hsd]; exact smDs_get hx
 rw [← hlv]
 have hx_ : F .hasD sd lv [.str, .str, .int .i64, .int .i64, .view 5] = true := t_hasD hF hdx hlv2 rfl
 obtain ⟨x0, hx0⟩ : ∃ z, z = x.nm := ⟨_, rfl⟩
 try rw [show F .strA sd lv 0 = x0 by rw [hx0]; exact t_strA hF hdx hlv2 rfl]
 obtain ⟨x1, hx1⟩ : ∃ z, z = x.lv := ⟨_, rfl⟩
 try rw [show F .strA sd lv 1 = x1 by rw [hx1]; exact t_strA hF hdx hlv2 rfl]
 obtain ⟨x2, hx2⟩ : ∃ z, z = x.rk := ⟨_, rfl⟩
 try rw [show F .intA sd lv 2 = x2 by rw [hx2]; exact t_intA hF hdx hlv2 rfl]
 obtain ⟨x3, hx3⟩ : ∃ z, z = x.bb := ⟨_, rfl⟩
 try rw [show F .intA sd lv 3 = x3 by rw [hx3]; exact t_intA hF hdx hlv2 rfl]
 obtain ⟨x4, hx4⟩ : ∃ z, z = rlDs x.rl := ⟨_, rfl⟩
 try rw [show F .viewA sd lv 4 = x4 by rw [hx4]; exact t_viewA hF hdx hlv2 rfl]
 rw [hxl] at hE
 have hx4l : x4.length = x.rl.length := by rw [hx4, rlDs_len]
 refine AKt.need hx_ fun _ => ?_
 refine AKt.node (fun h8 => ?_) (fun h8 => ?_)
 · have h8' : 8 ≤ x.rl.length := by rw [hF, f_leI, f_lenD, hx4l] at h8; have := of_decide_eq_true h8; omega
   rw [if_pos h8'] at hE
   obtain ⟨g1, g2⟩ := err 3 hE (by decide)
   repeat' (first|with_reducible (first|refine qAh ?_|refine qAt ?_|refine qAf ?_|refine qAy (by assumption) ?_|refine qAn (by assumption) ?_|refine qAd (fun hb => ?_) (fun hb => ?_)|refine qAe ?_ (fun hb => ?_)|refine qAl ?_)|((with_reducible show _=true); assumption))
   refine AKp.doneE tabOK hfr (by rfl) ?_
   show _ = _
   simp only [tupAV]
   rw [g1, g2]
   rfl
 have h8' : ¬ 8 ≤ x.rl.length := by rw [hF, f_leI, f_lenD, hx4l] at h8; have := of_decide_eq_false h8; omega
 rw [if_neg h8'] at hE
 have hin0 : ∀ l : List Dat, F .appD [] l = l := fun l => by rw [hF]; rfl
 have f1 : F .fits 72 sd = true := t_fits hF (by omega)
 have f2 : F .fits 120 x4 = true := t_fits hF (by omega)
 have hin : F .inL sd lv = some l := by
   rw [hF, hlv2]
   show (if 0 ≤ (l : Int) ∧ (l : Int) < (sd.length : Int) then some (l : Int).toNat else none) = some l
   rw [if_pos (by omega), Int.toNat_natCast]
 have hnd : F .nthD sd l = some (.agg [.s (.str x0), .s (.str x1), .s (.int .i64 x2), .s (.int .i64 x3), .view 5 x4]) := by rw [hF, hx0, hx1, hx2, hx3, hx4]; exact hdx
 rw [hin0]
 repeat' (first|with_reducible (first|refine qAh ?_|refine qAt ?_|refine qAf ?_|refine qAy (by assumption) ?_|refine qAn (by assumption) ?_|refine qAd (fun hb => ?_) (fun hb => ?_)|refine qAe ?_ (fun hb => ?_)|refine qAl ?_)|((with_reducible show _=true); assumption))
 refine AKp.runD2 hF tabOK hmix hnt false _ hG (Nat.le_trans (Nat.le_of_eq hfr) (Nat.le_of_ble_eq_true rfl)) ?_
 conv => arg 4; cbv
 rw [hin]
 conv => arg 4; cbv
 have hpd : sd[l]? = some (.agg [.s (.str x0), .s (.str x1), .s (.int .i64 x2), .s (.int .i64 x3), .view 5 x4]) := by rw [hx0, hx1, hx2, hx3, hx4]; exact hdx
 conv at hpd => lhs; cbv
 rw [hpd]
 conv => arg 4; cbv
 rw [hin0]
 rw [k0]
 conv => arg 4; cbv
 rw [k1]
 conv => arg 4; cbv
 rw [k2]
 conv => arg 4; cbv
 rw [k3]
 conv => arg 4; cbv
 rw [k4]
 conv => arg 4; cbv
 have v0 : uRefList1 z0 = strDs (lisV z0) := un1 _
 have v1 : uRefList1 z1 = strDs (lisV z1) := un1 _
 have v2 : uRefList1 z2 = strDs (lisV z2) := un1 _
 have v3 : uRefList1 z3 = strDs (lisV z3) := un1 _
 have v4 : uRefList1 z4 = strDs (lisV z4) := un1 _
 obtain ⟨nr, hnr⟩ : ∃ z, z = F .appD x4 [.agg [.view 1 (uRefList1 z0), .view 1 (uRefList1 z1), .view 1 (uRefList1 z2), .view 1 (uRefList1 z3), .view 1 (uRefList1 z4)]] := ⟨_, rfl⟩
 have hnr2 : nr = rlDs (x.rl ++ [rlOf ws]) := by
   rw [hnr, hF, f_appD, hx4, v0, v1, v2, v3, v4, hz0, hz1, hz2, hz3, hz4]
   simp [rlDs, Rl.dat, rlOf]
 have f3 : F .fits 120 nr = true := t_fits hF (by rw [hnr2, rlDs_len]; simp; omega)
 rw [← hnr]
 repeat' (first|with_reducible (first|refine qAh ?_|refine qAt ?_|refine qAf ?_|refine qAy (by assumption) ?_|refine qAn (by assumption) ?_|refine qAd (fun hb => ?_) (fun hb => ?_)|refine qAe ?_ (fun hb => ?_)|refine qAl ?_)|((with_reducible show _=true); assumption))
 have hset : F .setD sd l (.agg [.s (.str x0), .s (.str x1), .s (.int .i64 x2), .s (.int .i64 x3), .view 5 nr]) = R := by
   rw [hF, hR', if_pos hE, addR, hxl]
   show sd.set l _ = _
   have hs2 : ss = ss.dropLast ++ [x] := by have := last_split hne; rwa [hxl] at this
   have hl2 : l = (smDs ss.dropLast).length := by rw [hl, smDs_len]; simp
   have hs3 : sd = smDs ss.dropLast ++ [x.dat] := by rw [hsd]; conv => lhs; rw [hs2]
                                                     simp [smDs]
   rw [hs3, hl2]
   simp [smDs, Sm.dat, hx0, hx1, hx2, hx3, hnr2]
 refine AKp.freeze 7 rfl ?_
 conv => arg 4; arg 2; cbv
 refine AKp.stepO hF tabOK hnt rfl ?_
 conv => arg 5; cbv
 rw [hin]
 conv => arg 5; cbv
 refine .some ?_
 refine AK.runT hF tabOK hmix hnt hfr false _ hG ?_
 conv => arg 4; cbv
 rw [hnd]
 conv => arg 4; cbv
 rw [hset]
 repeat' (first|with_reducible (first|refine qAh ?_|refine qAt ?_|refine qAf ?_|refine qAy (by assumption) ?_|refine qAn (by assumption) ?_|refine qAd (fun hb => ?_) (fun hb => ?_)|refine qAe ?_ (fun hb => ?_)|refine qAl ?_)|((with_reducible show _=true); assumption))
 refine AKp.freeze 4 rfl ?_
 conv => arg 4; arg 2; cbv
 refine AKp.doneE tabOK hfr (by rfl) ?_
 show _ = _
 simp only [tupAV]
 rw [hE]
 rfl
def rcP (ls ss w : List Dat) : Bool := (isLv ls && isSm ss) && ((isStrs w && (unStr w).all le32) && decide (ss.length ≤ 1000))
def rlRV (ss w : List Dat) : List Dat := smDs (rulC ⟨0, 0, 0, 0, [], unSm ss⟩ (unStr w))
def rlRE (ss w : List Dat) : Int := rulE ⟨0, 0, 0, 0, [], unSm ss⟩ (unStr w)
theorem rruleD_spec (a b c d : Int) (ls ss w : List Dat) (h : rcP ls ss w = true) : ESpec Tryz.prog 58 [.d (.agg [.s (.int .i64 a), .s (.int .i64 b), .s (.int .i64 c), .s (.int .i64 d), .view 10 ls, .view 5 ss]), .d (.view 1 w)] (fun x => x = .tup [.d (.agg [.s (.int .i64 a), .s (.int .i64 b), .s (.int .i64 c), .s (.int .i64 d), .view 10 ls, .view 5 (rlRV ss w)]), .d (.s (.int .i64 (rlRE ss w)))]) := by
 simp only [rcP, Bool.and_eq_true, decide_eq_true_eq] at h
 have hl : (unSm ss).length ≤ 1000 := by simp [unSm]; exact h.2.2
 have := rrule_spec ⟨a, b, c, d, unLv ls, unSm ss⟩ (unStr w) hl (fun w hw => List.all_eq_true.1 h.2.1.2 w hw)
 simp only [lv_un h.1.1, sm_un h.1.2, strDs_unStr h.2.1.1] at this
 exact this
def φRRule (p : List Dat → List Dat → List Dat → Bool) (u : List Dat → List Dat → List Dat) (e : List Dat → List Dat → Int) : List AV → Option (Bool × AV)
 | [.d (.agg [.s (.int .i64 a), .s (.int .i64 b), .s (.int .i64 c), .s (.int .i64 d), .view 10 ls, .view 5 ss]), .d (.view 1 w)] => some (p ls ss w, .tup [.d (.agg [.s (.int .i64 a), .s (.int .i64 b), .s (.int .i64 c), .s (.int .i64 d), .view 10 ls, .view 5 (u ss w)]), .d (.s (.int .i64 (e ss w)))])
 | _ => none
theorem φRRule_ok : SpOK Tryz.prog 58 (φRRule (rcP) (rlRV) (rlRE)) := by
 intro xs b x h hb
 unfold φRRule at h
 split at h
 · simp only [Option.some.injEq, Prod.mk.injEq] at h
   obtain ⟨rfl, rfl⟩ := h
   exact rruleD_spec _ _ _ _ _ _ _ hb
 · cases h
end Go.Proofs.YtpmpajodihpkaaaGreatDoor
