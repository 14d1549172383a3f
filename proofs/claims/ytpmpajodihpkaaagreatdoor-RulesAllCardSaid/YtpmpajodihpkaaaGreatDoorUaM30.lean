/- The library of this claim and its walks, part 30, joined out of smaller texts. No statement stands in it. -/
import Derived.Test.YtpmpajodihpkaaaGreatDoorUaM29
set_option linter.unusedSimpArgs false
set_option linter.unusedVariables false
namespace Go.Ua
open Go Go.RowKit
section
variable {P : Program} [Globs P] {cx : Cx P} {Q : Exit → Act → World → Prop}
theorem AKp.shut {kk : List KI} {S : St} (n : Nat) {E : TypeId} {k m : Nat} {es : List Dat} {cells : List AV} {ds : List Dat} (hb : look n S.h = some (.xs E k m es cells)) (hc : unDs cells = some ds) (he : es[m]? = some (.agg ds))
   (h : AKp P cx Q (kk, ⟨S.t, (n, .ds E k es) :: del n S.h, S.fr⟩)) : AKp P cx Q (kk, S) := by
 intro ι a w H
 refine h ι a w (H.redesc hb fun hB => ?_)
 have hcs := unDs_some hc
 cases hB with
 | xs0 => simp at he
 | xs _ _ _ _ _ b cap cur hi hbk hl hcap hm hk0 hlen hkl hk h1 hr hr2 =>
   have hdl : ds.length = k := by rw [← hkl, hcs]; simp
   refine .ds _ _ _ b cap cur hi hbk hl hcap hm hk0 (fun i e hie => ?_) h1 fun i e j c v hie hc' hv => ?_
   · by_cases hlt : i < m
     · exact hk i e hlt hie
     · have := (List.getElem?_eq_some_iff.1 hie).1
       obtain rfl : i = m := by omega
       rw [he] at hie
       obtain rfl := Option.some.inj hie
       exact hdl
   · by_cases hlt : i < m
     · exact hr i e j c v hlt hie hc' hv
     · have := (List.getElem?_eq_some_iff.1 hie).1
       obtain rfl : i = m := by omega
       rw [he] at hie
       obtain rfl := Option.some.inj hie
       have hc2 : ds[j]? = some c := hc'
       exact rep_d (hr2 j (.d c) v (by rw [hcs, List.getElem?_map, hc2]; rfl) hv)
theorem RepB.move {R R' : Rd} {ι ι' : Io} {w : World} {n n' : Nat} {B : Blk} (hR : ∀ b o v, R b o v → R' b o v) (hι : ∀ n p, ι n = some p → ι' n = some p) (hn : ∀ p, ι n = some p → ι' n' = some p) (h : RepB R ι w n B) : RepB R' ι' w n' B := by
 cases h with
 | cs T cells b cap l cur hi hb hl h1 h => exact .cs T cells b cap l cur (hn _ hi) hb hl h1 fun j c v h2 h3 => (h j c v h2 h3).mono hR hι
 | ds0 E k hi hk0 => exact .ds0 E k (hn _ hi) hk0
 | ds E k es b cap cur hi hb hl hc hm hk0 hk h1 h => exact .ds E k es b cap cur (hn _ hi) hb hl hc hm hk0 hk h1 fun i e j c v h2 h3 h4 => (h i e j c v h2 h3 h4).mono hR
 | xs E k m es cells b cap cur hi hb hl hc hm hk0 hlen hkl hk h1 h h2 => exact .xs E k m es cells b cap cur (hn _ hi) hb hl hc hm hk0 hlen hkl hk h1 (fun i e j c v h0 h2 h3 h4 => (h i e j c v h0 h2 h3 h4).mono hR) fun j c v h3 h4 => (h2 j c v h3 h4).mono hR hι
 | xs0 E k m cells hi hk0 hkl h2 => exact .xs0 E k m cells (hn _ hi) hk0 hkl fun j c h => (h2 j c h).imp fun v hv => hv.mono hR hι
 | mp f b c l es clock hi hb hf hk => exact .mp f b c l es clock (hn _ hi) hb hf hk
theorem RepB.loc {R : Rd} {ι : Io} {w : World} {n : Nat} {B : Blk} (h : RepB R ι w n B) : ∃ p, ι n = some p := by
 cases h with
 | cs T cells b cap l cur hi => exact ⟨_, hi⟩
 | ds0 E k hi => exact ⟨_, hi⟩
 | ds E k es b cap cur hi => exact ⟨_, hi⟩
 | xs E k m es cells b cap cur hi => exact ⟨_, hi⟩
 | xs0 E k m cells hi => exact ⟨_, hi⟩
 | mp f b c l es clock hi => exact ⟨_, hi⟩
theorem rep_move {R : Rd} {ι : Io} {n n' k : Nat} {v : Value} (hn : ∀ p, ι n = some p → ι n' = some p) (h : RepV R ι (.row n k) v) : RepV R ι (.row n' k) v := by
 cases h with
 | row _ _ b cap len hi => exact .row _ _ _ _ _ (hn _ hi)
 | row0 _ _ a hi => exact .row0 _ _ _ (hn _ hi)
theorem Rel.anew {X L : Nat → Prop} {w0 : W0} {nt : Nat} {ι : Io} {S : St} {a : Act} {w : World} (H : Rel X L w0 nt ι S a w) {n : Nat} {B : Blk} (hb : look n S.h = some B) :
   ∃ ι', Rel X L w0 nt ι' ⟨S.t, (S.fr, B) :: del n S.h, S.fr + 1⟩ a w ∧ (∀ p, ι' n = some p → ι' S.fr = some p) ∧ n < S.fr := by
 have hB := H.hr.hp n B hb
 obtain ⟨loc, hloc⟩ := hB.loc
 have hfr : n < S.fr := by
   rcases Nat.lt_or_ge n S.fr with h | h
   · exact h
   · rw [H.hr.fresh n h] at hloc; cases hloc
 have := H.change (w' := w) (n0 := some n) (m := S.fr) (fr' := S.fr + 1) (loc := loc) (B := B) ⟨by omega, by omega⟩ (.inl (H.hr.fresh _ (Nat.le_refl _))) (fun b _ _ => rfl)
   (fun b c l h => .inr ⟨n, c, l, rfl, by rw [hb]; rfl, by rw [hloc, h]⟩) rfl rfl rfl (Nat.le_refl _)
   (fun hR hι => hB.move hR hι fun p hp => by rw [hloc] at hp; cases hp; simp [upd])
 refine ⟨_, this.1, fun p hp => ?_, hfr⟩
 have e : upd ι S.fr loc n = ι n := by simp only [upd]; rw [if_neg (by omega)]
 rw [e, hloc] at hp
 cases hp
 simp [upd]
theorem AKp.anew {kk : List KI} {S : St} (n p j : Nat) {B : Blk} {T : TypeId} {cells : List AV} {k : Nat} (hb : look n S.h = some B) (hp : look p S.h = some (.cs T cells)) (hj : cells[j]? = some (.row n k)) (hpn : p ≠ n) (hlt : p < S.fr)
   (h : AKp P cx Q (kk, ⟨S.t, (p, .cs T (cells.set j (.row S.fr k))) :: del p ((S.fr, B) :: del n S.h), S.fr + 1⟩)) : AKp P cx Q (kk, S) := by
 intro ι a w H
 obtain ⟨ι', H', hn, _⟩ := H.anew hb
 have hp' : look p ((S.fr, B) :: del n S.h) = some (.cs T cells) := by
   rw [look_cons, if_neg (fun e => by simp at e; omega), look_del, if_neg hpn]
   exact hp
 refine h ι' a w (H'.redesc hp' fun hB => ?_)
 cases hB with
 | cs _ _ b cap l cur hi hbk hl h1 hr =>
   refine .cs _ _ b cap l cur hi hbk (by rw [List.length_set]; exact hl) h1 fun i c v hc hv => ?_
   rw [List.getElem?_set] at hc
   by_cases e : j = i
   · subst e
     have hlt : j < cells.length := (List.getElem?_eq_some_iff.1 hj).1
     rw [if_pos rfl, if_pos hlt] at hc
     obtain rfl := Option.some.inj hc
     exact rep_move hn (hr j _ v hj hv)
   · rw [if_neg e] at hc
     exact hr i c v hc hv
theorem AKp.lessRow {kk : List KI} {S : St} (n : Nat) (es' : List Dat) {E : TypeId} {k : Nat} {es : List Dat} (hb : look n S.h = some (.ds E k es)) (hle : LesD es es')
   (h : AKp P cx Q (kk, ⟨S.t, (n, .ds E k es') :: del n S.h, S.fr⟩)) : AKp P cx Q (kk, S) := by
 intro ι a w H
 refine h ι a w (H.redesc hb fun hB => ?_)
 obtain ⟨hlen, hget⟩ := hle.get
 cases hB with
 | ds0 _ _ hi hk0 =>
   obtain rfl : es' = [] := List.eq_nil_of_length_eq_zero hlen.symm
   exact .ds0 _ _ hi hk0
 | ds _ _ _ b cap cur hi hbk hl hc hm hk0 hk h1 hr =>
   refine .ds _ _ _ b cap cur (by rw [← hlen]; exact hi) hbk hl (by rw [← hlen]; exact hc) hm hk0 (fun i e he => ?_) (by rw [← hlen]; exact h1) fun i e j c v he hc' hv => ?_
   · obtain ⟨x, hx, hxe⟩ := hget i e he
     rw [← hxe.cells.1]
     exact hk i x hx
   · obtain ⟨x, hx, hxe⟩ := hget i e he
     obtain ⟨d, hd, hde⟩ := hxe.cells.2 j c hc'
     exact LeD.rep (hr i x j d v hx hd hv) hde
end
end Go.Ua
namespace Go.Proofs.YtpmpajodihpkaaaGreatDoor
open Go Go.Proofs Go.Ua Go.Extern
set_option maxRecDepth 10000
def orF (n o : Int) : Int := if n = 0 then o else n
theorem for_spec (n o : Int) : ESpec Tryz.prog 13 [.d (.s (.int .i64 n)), .d (.s (.int .i64 o))] (fun x => x = .d (.s (.int .i64 (orF n o)))) := by
 have hG : TblOK Tryz.prog [] := trivial
 refine ESpec.enter Tryz.func13 (by kernel_rfl) rfl (Nat.le_of_ble_eq_true rfl) fun hok cx hnt hfr => ?_
 obtain ⟨F, hF⟩ := real_ex
 refine AK.runT hF tabOK hmix hnt hfr true _ hG ?_
 conv => arg 4; cbv
 repeat' (first|with_reducible (first|refine qAh ?_|refine qAt ?_|refine qAf ?_|refine qAy (by assumption) ?_|refine qAn (by assumption) ?_|refine qAd (fun hb => ?_) (fun hb => ?_)|refine qAe ?_ (fun hb => ?_)|refine qAl ?_)|((with_reducible show _=true); assumption))
 · refine AKp.doneE tabOK hfr (by rfl) ?_
   show _ = _
   simp only [tupAV]
   have h : n = 0 := by rw [hF, f_eqI] at hb; exact eq_of_beq hb
   rw [orF, if_pos h]
 · refine AKp.doneE tabOK hfr (by rfl) ?_
   show _ = _
   simp only [tupAV]
   have h : ¬ n = 0 := by rw [hF, f_eqI] at hb; exact ne_of_beq_false hb
   rw [orF, if_neg h]
def φFOr (u : Int → Int → Int) : List AV → Option (Bool × AV)
 | [.d (.s (.int .i64 n)), .d (.s (.int .i64 o))] => some (true, .d (.s (.int .i64 (u n o))))
 | _ => none
theorem φFOr_ok : SpOK Tryz.prog 13 (φFOr (orF)) := by
 intro xs b x h hb
 unfold φFOr at h
 split at h
 · simp only [Option.some.injEq, Prod.mk.injEq] at h
   obtain ⟨rfl, rfl⟩ := h
   exact for_spec _ _
 · cases h
theorem fall_spec : ESpec Tryz.prog 15 [] (fun x => x = .d (.view 1 [.s (.str [42])])) := by
 have hG : TblOK Tryz.prog [] := trivial
 refine ESpec.enter Tryz.func15 (by kernel_rfl) rfl (Nat.le_of_ble_eq_true rfl) fun hok cx hnt hfr => ?_
 obtain ⟨F, hF⟩ := real_ex
 refine AK.runT hF tabOK hmix hnt hfr false _ hG ?_
 conv => arg 4; cbv
 repeat' (first|with_reducible (first|refine qAh ?_|refine qAt ?_|refine qAf ?_|refine qAy (by assumption) ?_|refine qAn (by assumption) ?_|refine qAd (fun hb => ?_) (fun hb => ?_)|refine qAe ?_ (fun hb => ?_)|refine qAl ?_)|((with_reducible show _=true); assumption))
 refine AKp.freeze 0 rfl ?_
 conv => arg 4; arg 2; cbv
 refine AKp.doneE tabOK hfr (by rfl) ?_
 show _ = _
 simp only [tupAV]
def φFAll  : List AV → Option (Bool × AV)
 | [] => some (true, .d (.view 1 [.s (.str [42])]))
 | _ => none
theorem φFAll_ok : SpOK Tryz.prog 15 (φFAll ) := by
 intro xs b x h hb
 unfold φFAll at h
 split at h
 · simp only [Option.some.injEq, Prod.mk.injEq] at h
   obtain ⟨rfl, rfl⟩ := h
   exact fall_spec
 · cases h
theorem fwords_spec (es : List Dat) (h : lsB es = true) : ESpec Tryz.prog 27 [.d (.view 1 es)] (fun x => x = .d (.view 1 es)) := by
 have h := of_decide_eq_true h
 have hG : TblOK Tryz.prog [] := trivial
 refine ESpec.enter Tryz.func27 (by kernel_rfl) rfl (Nat.le_of_ble_eq_true rfl) fun hok cx hnt hfr => ?_
 obtain ⟨F, hF⟩ := real_ex
 refine AK.runT hF tabOK hmix hnt hfr false _ hG ?_
 conv => arg 4; cbv
 have hf : F .fits 16 es = true := by rw [hF]; exact decide_eq_true (by omega)
 repeat' (first|with_reducible (first|refine qAh ?_|refine qAt ?_|refine qAf ?_|refine qAy (by assumption) ?_|refine qAn (by assumption) ?_|refine qAd (fun hb => ?_) (fun hb => ?_)|refine qAe ?_ (fun hb => ?_)|refine qAl ?_)|((with_reducible show _=true); assumption))
 refine AKp.freeze 0 rfl ?_
 conv => arg 4; arg 2; cbv
 refine AKp.doneE tabOK hfr (by rfl) ?_
 show _ = _
 simp only [tupAV]
def φFWords (p : List Dat → Bool) : List AV → Option (Bool × AV)
 | [.d (.view 1 es)] => some (p es, .d (.view 1 es))
 | _ => none
theorem φFWords_ok : SpOK Tryz.prog 27 (φFWords (lsB)) := by
 intro xs b x h hb
 unfold φFWords at h
 split at h
 · simp only [Option.some.injEq, Prod.mk.injEq] at h
   obtain ⟨rfl, rfl⟩ := h
   exact fwords_spec _ hb
 · cases h
set_option maxHeartbeats 2000000 in
theorem fschema_spec (x : Sm) (hc : cpS x = true) : ESpec Tryz.prog 14 [.d x.dat] (fun y => y = .d x.dat) := by
 obtain ⟨uFWords, huFWords⟩ : ∃ u : List Dat → Bool, u = lsB := ⟨_, rfl⟩
 have hG : TblOK Tryz.prog [(27, .p (φFWords uFWords))] := ⟨(by rw [huFWords]; exact φFWords_ok), trivial⟩
 simp only [cpS, Bool.and_eq_true, decide_eq_true_eq] at hc
 obtain ⟨hc1, hc2⟩ := hc
 obtain ⟨x0, x1, x2, x3, xr⟩ := x
 simp only [Sm.dat] at hc1 hc2 ⊢
 obtain ⟨x4, hx4⟩ : ∃ z, z = rlDs xr := ⟨_, rfl⟩
 rw [← hx4]
 have hrl : x4.length = xr.length := by rw [hx4, rlDs_len]
 refine ESpec.enter Tryz.func14 (by kernel_rfl) rfl (Nat.le_of_ble_eq_true rfl) fun hok cx hnt hfr => ?_
 obtain ⟨F, hF⟩ := real_ex
 refine AK.runT hF tabOK hmix hnt hfr false _ hG ?_
 conv => arg 4; cbv
 repeat' (first|with_reducible (first|refine qAh ?_|refine qAt ?_|refine qAf ?_|refine qAy (by assumption) ?_|refine qAn (by assumption) ?_|refine qAd (fun hb => ?_) (fun hb => ?_)|refine qAe ?_ (fun hb => ?_)|refine qAl ?_)|((with_reducible show _=true); assumption))
 refine AKp.asRow 3 46 5 (by decide) rfl ?_
 conv => arg 4; arg 2; cbv
 refine AKp.enterLoop 10 ?_
 conv => arg 7; cbv
 refine AKl.invTs hF tabOK hmix hnt (Nat.le_trans (Nat.le_of_eq hfr) (Nat.le_of_ble_eq_true rfl)) [5] false _ hG (fun n vs hs => ∃ (k : Nat) (kv : Int) (bd : List Dat), k + n = xr.length ∧ kv = k ∧ bd = rlDs (xr.take k) ∧ vs = [(9, .d (.s (.int .i64 kv))), (3, .row 2 5)] ∧ hs = [(2, .ds 46 5 bd), (1, .cs 43 [.d (.s (.str [])), .d (.s (.str [])), .d (.s (.int .i64 0)), .d (.s (.int .i64 0)), .d (.s .sl0)]), (0, .cs 43 [.d (.s (.str x0)), .d (.s (.str x1)), .d (.s (.int .i64 x2)), .d (.s (.int .i64 x3)), .d (.view 5 x4)])]) xr.length ⟨0, _, [], by omega, rfl, by rfl, rfl, rfl⟩ (by repeat (first | exact True.intro | refine ⟨⟨rfl, rfl⟩, ?_⟩)) (by repeat (first | exact True.intro | refine ⟨⟨rfl, rfl, rfl⟩, ?_⟩)) ?_
 rintro J n vs hs hJ ⟨k, kv, bd, hk, hkv, hbd, rfl, rfl⟩
 conv => arg 4; cbv
 refine AKt.node (fun hb => ?_) (fun hb => ?_)
 · have hlt2 : k < xr.length := by rw [hF, f_ltI, f_lenD, hrl, hkv] at hb; have := of_decide_eq_true hb; omega
   obtain ⟨r, hr⟩ : ∃ r, xr[k]? = some r := ⟨_, List.getElem?_eq_getElem hlt2⟩
   have hdr : x4[k]? = some r.dat := by rw [hx4]; exact rlDs_get hr
   have hr_ : F .hasD x4 kv [.view 1, .view 1, .view 1, .view 1, .view 1] = true := t_hasD hF hdr hkv rfl
   obtain ⟨r0, hr0⟩ : ∃ z, z = strDs r.us := ⟨_, rfl⟩
   try rw [show F .viewA x4 kv 0 = r0 by rw [hr0]; exact t_viewA hF hdr hkv rfl]
   obtain ⟨r1, hr1⟩ : ∃ z, z = strDs r.gs := ⟨_, rfl⟩
   try rw [show F .viewA x4 kv 1 = r1 by rw [hr1]; exact t_viewA hF hdr hkv rfl]
   obtain ⟨r2, hr2⟩ : ∃ z, z = strDs r.vs := ⟨_, rfl⟩
   try rw [show F .viewA x4 kv 2 = r2 by rw [hr2]; exact t_viewA hF hdr hkv rfl]
   obtain ⟨r3, hr3⟩ : ∃ z, z = strDs r.rs := ⟨_, rfl⟩
   try rw [show F .viewA x4 kv 3 = r3 by rw [hr3]; exact t_viewA hF hdr hkv rfl]
   obtain ⟨r4, hr4⟩ : ∃ z, z = strDs r.ps := ⟨_, rfl⟩
   try rw [show F .viewA x4 kv 4 = r4 by rw [hr4]; exact t_viewA hF hdr hkv rfl]
   have hcr := List.all_eq_true.1 hc2 r (List.mem_of_getElem? hr)
   have qw : ∀ l, l ∈ rlLs r → uFWords (strDs l) = true := fun l hl => by
     have := of_decide_eq_true (List.all_eq_true.1 hcr l hl)
     subst huFWords
     exact decide_eq_true (by rw [strDs_length]; omega)
   have q0 : uFWords r0 = true := by rw [hr0]; exact qw _ (by simp [rlLs])
   have q1 : uFWords r1 = true := by rw [hr1]; exact qw _ (by simp [rlLs])
   have q2 : uFWords r2 = true := by rw [hr2]; exact qw _ (by simp [rlLs])
   have q3 : uFWords r3 = true := by rw [hr3]; exact qw _ (by simp [rlLs])
   have q4 : uFWords r4 = true := by rw [hr4]; exact qw _ (by simp [rlLs])
   obtain ⟨nd, hnd⟩ : ∃ z, z = F .appD bd [.agg [.view 1 r0, .view 1 r1, .view 1 r2, .view 1 r3, .view 1 r4]] := ⟨_, rfl⟩
   have hnd2 : nd = rlDs (xr.take (k + 1)) := by
     rw [hnd, hF, f_appD, hbd, List.take_add_one, hr, hr0, hr1, hr2, hr3, hr4]
     simp [rlDs, Rl.dat]
   have hfn : F .fits 120 nd = true := t_fits hF (by rw [hnd2, rlDs_len]; simp; omega)
   refine AKt.need hr_ fun _ => AKt.leaf ?_
   refine AKp.runD2 hF tabOK hmix hnt false _ hG (Nat.le_trans (Nat.le_of_eq hfr) (Nat.le_of_ble_eq_true rfl)) ?_
   conv => arg 4; cbv
   rw [← hnd]
   repeat' (first|with_reducible (first|refine qAh ?_|refine qAt ?_|refine qAf ?_|refine qAy (by assumption) ?_|refine qAn (by assumption) ?_|refine qAd (fun hb => ?_) (fun hb => ?_)|refine qAe ?_ (fun hb => ?_)|refine qAl ?_)|((with_reducible show _=true); assumption))
   refine AKp.againR [(2, 4)] _ hfr (by repeat (first | exact True.intro | refine ⟨⟨rfl, rfl⟩, ?_⟩)) (by repeat (first | exact True.intro | refine ⟨⟨Nat.le_of_ble_eq_true rfl, rfl, rfl⟩, ?_⟩)) rfl (hJ (n - 1) _ _ (by omega) ⟨k + 1, _, _, by omega, inc_i hF hkv (by omega), hnd2, rfl, rfl⟩)
 have hge2 : ¬ k < xr.length := by rw [hF, f_ltI, f_lenD, hrl, hkv] at hb; have := of_decide_eq_false hb; omega
 rw [List.take_of_length_le (by omega), ← hx4] at hbd
 rw [hbd]
 repeat' (first|with_reducible (first|refine qAh ?_|refine qAt ?_|refine qAf ?_|refine qAy (by assumption) ?_|refine qAn (by assumption) ?_|refine qAd (fun hb => ?_) (fun hb => ?_)|refine qAe ?_ (fun hb => ?_)|refine qAl ?_)|((with_reducible show _=true); assumption))
 refine AKp.freeze 2 rfl ?_
 conv => arg 4; arg 2; cbv
 refine AKp.doneE tabOK hfr (by rfl) ?_
 show _ = _
 simp only [tupAV]
 rfl
end Go.Proofs.YtpmpajodihpkaaaGreatDoor
namespace Go.Proofs.YtpmpajodihpkaaaGreatDoor
open Go Go.Proofs Go.Ua Go.Extern
set_option maxRecDepth 10000
def wEx : Wd := [101,120,101,109,112,116]
def wCa : Wd := [99,97,116,99,104,45,97,108,108]
def lEx : Lv := ⟨wEx, 1, 0, 0, 0, 0, 0, 0, 0, 0⟩
def lCa : Lv := ⟨wCa, 2, 5, 0, -1, 0, 0, 0, 0, 0⟩
def star : List Wd := [[42]]
def sEx : Sm := ⟨wEx, wEx, 1, 0, [⟨[], [[115,121,115,116,101,109,58,109,97,115,116,101,114,115]], star, star, star⟩]⟩
def sCa : Sm := ⟨wCa, wCa, 10000, 1, [⟨star, [], star, star, star⟩]⟩
def haveL (w : Wd) (l : List Lv) : Bool := l.any fun x => decide (x.nm = w)
def haveS (w : Wd) (l : List Sm) : Bool := l.any fun x => decide (x.nm = w)
def addL (w : Wd) (x : Lv) (ls l : List Lv) : List Lv := if haveL w ls then l else l ++ [x]
def addS (w : Wd) (x : Sm) (ls l : List Sm) : List Sm := if haveS w ls then l else l ++ [x]
def fillF (c : Cf) : Cf := ⟨orF c.tt 100, orF c.pe 10, orF c.pr 100, orF c.mo 10, addL wCa lCa c.ls (addL wEx lEx c.ls c.ls), addS wCa sCa c.ss (addS wEx sEx c.ss c.ss)⟩
def cntM (l : List Wd) : Wd → Int := fun s => (l.count s : Int)
theorem cnt_snoc {F : Fam} (hF : F = Fam.real) {f : Wd → Int} {l : List Wd} {w : Wd} (h : f = cntM l) (hl : l.length ≤ 1000) : F .setM f w (F .wrap .i64 (F .add (F .getM f w) 1)) = cntM (l ++ [w]) := by
 have hc : l.count w ≤ l.length := List.count_le_length
 have e1 : F .wrap .i64 (F .add (F .getM f w) 1) = (l.count w : Int) + 1 := by
   rw [hF, h]
   show IntKind.i64.wrap ((l.count w : Int) + 1) = _
   exact w_i64 (by omega) (by omega)
 rw [e1, hF, h]
 show (fun x => if x = w then (l.count w : Int) + 1 else (l.count x : Int)) = fun x => ((l ++ [w]).count x : Int)
 funext x
 by_cases e : x = w
 · rw [if_pos e, e, List.count_append]
   simp
 · rw [if_neg e, List.count_append, List.count_eq_zero.2 (show x ∉ [w] by simpa using e)]
   simp
theorem cnt_L {l : List Lv} {w : Wd} : cntM (l.map (·.nm)) w = 0 ↔ haveL w l = false := by
 unfold cntM haveL
 rw [List.any_eq_false]
 constructor
 · intro h x hx
   have h2 : (l.map (·.nm)).count w = 0 := by omega
   have := List.count_eq_zero.1 h2
   simp only [decide_eq_true_eq]
   intro e
   exact this (List.mem_map.2 ⟨x, hx, e⟩)
 · intro h
   have : (l.map (·.nm)).count w = 0 := List.count_eq_zero.2 fun hm => by
     obtain ⟨x, hx, e⟩ := List.mem_map.1 hm
     have := h x hx
     simp [e] at this
   omega
theorem cnt_S {l : List Sm} {w : Wd} : cntM (l.map (·.nm)) w = 0 ↔ haveS w l = false := by
 unfold cntM haveS
 rw [List.any_eq_false]
 constructor
 · intro h x hx
   have h2 : (l.map (·.nm)).count w = 0 := by omega
   have := List.count_eq_zero.1 h2
   simp only [decide_eq_true_eq]
   intro e
   exact this (List.mem_map.2 ⟨x, hx, e⟩)
 · intro h
   have : (l.map (·.nm)).count w = 0 := List.count_eq_zero.2 fun hm => by
     obtain ⟨x, hx, e⟩ := List.mem_map.1 hm
     have := h x hx
     simp [e] at this
   omega
def isS1 (d : Dat) : Bool := isS d && cpS (unS d)
theorem fschemaD_spec (nm lv : Wd) (rk bb : Int) (rl : List Dat) (hb : isS1 (.agg [.s (.str nm), .s (.str lv), .s (.int .i64 rk), .s (.int .i64 bb), .view 5 rl]) = true) : ESpec Tryz.prog 14 [.d (.agg [.s (.str nm), .s (.str lv), .s (.int .i64 rk), .s (.int .i64 bb), .view 5 rl])] (fun x => x = .d (.agg [.s (.str nm), .s (.str lv), .s (.int .i64 rk), .s (.int .i64 bb), .view 5 rl])) := by
 rw [isS1, Bool.and_eq_true] at hb
 have h := fschema_spec _ hb.2
 rw [s_un hb.1] at h
 exact h
def φFSchema (p : Wd → Wd → Int → Int → List Dat → Bool) : List AV → Option (Bool × AV)
 | [.d (.agg [.s (.str nm), .s (.str lv), .s (.int .i64 rk), .s (.int .i64 bb), .view 5 rl])] => some (p nm lv rk bb rl, .d (.agg [.s (.str nm), .s (.str lv), .s (.int .i64 rk), .s (.int .i64 bb), .view 5 rl]))
 | _ => none
theorem φFSchema_ok : SpOK Tryz.prog 14 (φFSchema (fun nm lv rk bb rl => isS1 (.agg [.s (.str nm), .s (.str lv), .s (.int .i64 rk), .s (.int .i64 bb), .view 5 rl]))) := by
 intro xs b x h hb
 unfold φFSchema at h
 split at h
 · simp only [Option.some.injEq, Prod.mk.injEq] at h
   obtain ⟨rfl, rfl⟩ := h
   exact fschemaD_spec _ _ _ _ _ hb
 · cases h
def filL (ls : List Dat) : List Dat := lvDs (addL wCa lCa (unLv ls) (addL wEx lEx (unLv ls) (unLv ls)))
def filS (ss : List Dat) : List Dat := smDs (addS wCa sCa (unSm ss) (addS wEx sEx (unSm ss) (unSm ss)))
end Go.Proofs.YtpmpajodihpkaaaGreatDoor
