/- The library of this claim and its walks, part 24, joined out of smaller texts. No statement stands in it. -/
import Derived.Test.YtpmpajodihpkaaaGreatDoorUaM19
import Derived.Test.YtpmpajodihpkaaaGreatDoorUaM23
import Derived.Lib.Join
set_option linter.unusedSimpArgs false
set_option linter.unusedVariables false
namespace Go.Proofs.YtpmpajodihpkaaaGreatDoor
open Go Go.Proofs Go.Ua Go.Extern
theorem StrJoin_spec (zs : List (List UInt8)) (sep : List UInt8) (hN : zs.length ≤ 140737488355328) (hlen : (Lib.join zs sep).length ≤ 140737488355328) :
   ESpec Tryz.prog 65 [.d (.view 1 (strDs zs)), .d (.s (.str sep))] (fun x => x = .d (.s (.str (Lib.join zs sep)))) := by
 refine ESpec.grown (enters_of Tryz.func65 (by kernel_rfl) rfl) (Nat.le_trans hlen (by decide)) fun R ι vs w hR hG hl hr => ?_
 obtain ⟨v0, v1, rfl⟩ : ∃ v0 v1, vs = [v0, v1] := by
   match vs, hl with
   | [v0, v1], _ => exact ⟨v0, v1, rfl⟩
 obtain rfl := rep_s (hr 1 _ _ rfl rfl)
 have h0 := rep_d (hr 0 _ _ rfl rfl)
 rcases view_strs h0 with ⟨rfl, a, cap, rfl⟩ | ⟨b, off, cap, rfl, hcap, hmx, hcell⟩
 · refine (Tryz.strings_Join_none a cap ⟨sep.toArray⟩ w).mono ?_
   rintro e w' ⟨rfl, rfl⟩
   exact ⟨by simp [Lib.join_nil, Sc.val], RowKit.Below.refl _ _⟩
 · cases hz : zs with
   | nil =>
     subst hz
     refine (Tryz.strings_Join_none (some ⟨b, off, none⟩) cap ⟨sep.toArray⟩ w).mono ?_
     rintro e w' ⟨rfl, rfl⟩
     exact ⟨by simp [Lib.join_nil, Sc.val], RowKit.Below.refl _ _⟩
   | cons z r =>
     rw [← hz]
     obtain ⟨L, hL⟩ : ∃ L : List ByteArray, L = zs.map fun s => ⟨s.toArray⟩ := ⟨_, rfl⟩
     have hLl : L.length = zs.length := by rw [hL]; simp
     have hLd : L.map (·.data.toList) = zs := by rw [hL, List.map_map]; simp [Function.comp_def]
     have hb : b < w.heap.size := block_lt_of_cell (hR _ _ _ (hcell 0 z (by rw [hz]; rfl)))
     rw [← hLl]
     refine (Tryz.strings_Join b off cap L ⟨sep.toArray⟩ w (fun j x hx => ?_) hb (by omega) (by omega) (by rw [hLd]; simpa using hlen)).mono ?_
     · rw [hL, List.getElem?_map] at hx
       obtain ⟨s, hs, rfl⟩ := Option.map_eq_some_iff.1 hx
       exact hR _ _ _ (hcell j s hs)
     · rintro e w' ⟨rfl, hbw⟩
       refine ⟨?_, hbw⟩
       rw [hLd]
       simp [Sc.val]
theorem join_le : ∀ (l : List (List UInt8)), (∀ p, p ∈ l → p.length ≤ 64) → (Lib.join l [44]).length ≤ 65 * l.length
 | [], _ => by simp [Lib.join_nil]
 | x :: r, h => by
   rw [Lib.join_cons]
   have ht : ∀ (r : List (List UInt8)), (∀ p, p ∈ r → p.length ≤ 64) → (Lib.joinTail [44] r).length ≤ 65 * r.length := by
     intro r
     induction r with
     | nil => intro _; simp [Lib.joinTail]
     | cons y r ih =>
       intro h
       have h1 := ih fun p hp => h p (List.mem_cons_of_mem _ hp)
       have h2 := h y (by simp)
       simp only [Lib.joinTail, List.map_cons, List.flatten_cons, List.length_append, List.length_cons, List.length_nil] at h1 ⊢
       omega
   have h1 := ht r fun p hp => h p (List.mem_cons_of_mem _ hp)
   have h2 := h x (by simp)
   simp only [List.length_append, List.length_cons]
   omega
theorem good_le {l : List (List UInt8)} (h : goodF l = true) : l.length ≤ 8 ∧ ∀ p, p ∈ l → p.length ≤ 64 := by
 unfold goodF at h
 rcases (Bool.or_eq_true _ _).mp h with h | h
 · have := eq_of_beq h
   subst this
   exact ⟨by decide, fun p hp => by obtain rfl := List.mem_singleton.1 hp; decide⟩
 · simp only [Bool.and_eq_true, decide_eq_true_eq] at h
   refine ⟨h.2, fun p hp => ?_⟩
   have := List.all_eq_true.1 h.1.1 p hp
   unfold wordF at this
   simp only [Bool.and_eq_true, decide_eq_true_eq] at this
   exact this.1.1.2
def joinF (l : List (List UInt8)) : List UInt8 := if goodF l = true then (if l = [] then [45] else Lib.join l [44]) else []
theorem Join_spec (l : List (List UInt8)) : ESpec Tryz.prog 47 [.d (.view 1 (strDs l))] (fun x => x = .d (.s (.str (joinF l)))) := by
 have sg := good_spec l
 have sj : goodF l = true → ESpec Tryz.prog 65 [.d (.view 1 (strDs l)), .d (.s (.str [44]))] (fun x => x = .d (.s (.str (Lib.join l [44])))) := fun h => by
   obtain ⟨h1, h2⟩ := good_le h
   have h3 := join_le l h2
   exact StrJoin_spec l [44] (by omega) (by omega)
 have hj : joinF l = if goodF l = true then (if l = [] then [45] else Lib.join l [44]) else [] := rfl
 obtain ⟨z, hz⟩ : ∃ z, z = joinF l := ⟨_, rfl⟩
 obtain ⟨es, hes⟩ : ∃ z, z = strDs l := ⟨_, rfl⟩
 have hel : es.length = l.length := by rw [hes]; simp [strDs]
 obtain ⟨J, hJ⟩ : ∃ z, z = Lib.join l [44] := ⟨_, rfl⟩
 rw [← hJ] at sj hj
 rw [← hz] at hj ⊢
 rw [← hes] at sg sj ⊢
 generalize goodF l = g at sg sj hj
 refine ESpec.enter Tryz.func47 (by kernel_rfl) rfl (Nat.le_of_ble_eq_true rfl) fun _ cx hnt hfr => ?_
 obtain ⟨F, hF⟩ := real_ex
 refine AK.run hF tabOK hnt ?_
 conv => arg 4; cbv
 refine AKp.call hF tabOK hnt sg rfl rfl rfl rfl rfl rfl rfl (by repeat' first | exact .refl _ | constructor) ?_
 rintro _ rfl
 conv => arg 4; cbv
 cases g
 case' false =>
   rw [l_not0 hF]
   conv => arg 4; cbv
   rw [show z = [] by rw [hj]; rfl]
   exact AKp.doneE tabOK hfr (by rfl) (by rfl)
 case' true =>
 have sj := sj rfl
 rw [l_not1 hF]
 conv => arg 4; cbv
 cases h1 : F .eqI (F .lenD es) 0
 case' true =>
   have h1' := eqI1 hF h1
   rw [l_lenD hF] at h1'
   have hl : l = [] := List.eq_nil_of_length_eq_zero (by omega)
   conv => arg 4; cbv
   rw [show z = [45] by rw [hj, if_pos rfl, if_pos hl]]
   exact AKp.doneE tabOK hfr (by rfl) (by rfl)
 case' false =>
 have h1' := eqI0 hF h1
 rw [l_lenD hF] at h1'
 have hl : l ≠ [] := by rintro rfl; exact h1' (by rw [hel]; rfl)
 conv => arg 4; cbv
 refine AKp.call hF tabOK hnt sj rfl rfl rfl rfl rfl rfl rfl (by repeat' first | exact .refl _ | constructor) ?_
 rintro _ rfl
 conv => arg 4; cbv
 rw [show J = z by rw [hj, if_pos rfl, if_neg hl]]
 exact AKp.doneE tabOK hfr (by rfl) (by rfl)
end Go.Proofs.YtpmpajodihpkaaaGreatDoor
namespace Go.Proofs.YtpmpajodihpkaaaGreatDoor
open Go Go.Proofs Go.Ua Go.Extern
theorem join_cons2 (c : UInt8) (p q : List UInt8) (r : List (List UInt8)) : Lib.join (p :: q :: r) [c] = p ++ c :: Lib.join (q :: r) [c] := by
 rw [Lib.join_cons, Lib.join_cons]
 simp [Lib.joinTail]
theorem join_cut (c : UInt8) : ∀ w : List UInt8, Lib.join (cutF c w) [c] = w
 | [] => by simp [cutF, Lib.join_one]
 | b :: r => by
   have ih := join_cut c r
   unfold cutF
   cases hr : cutF c r with
   | nil => exact absurd hr (cutF_ne c r)
   | cons q qs =>
     rw [hr] at ih
     by_cases e : b = c
     · rw [if_pos e, join_cons2, ih, e]; rfl
     · rw [if_neg e]
       cases qs with
       | nil => rw [Lib.join_one] at ih ⊢; simp [ih]
       | cons q2 qs => rw [join_cons2] at ih ⊢; simp [← ih]
theorem cut_append {c : UInt8} : ∀ {p : List UInt8} (r : List UInt8), c ∉ p → cutF c (p ++ c :: r) = p :: cutF c r
 | [], r, _ => by simp [cutF]
 | b :: p, r, h => by
   have h1 : b ≠ c := fun e => h (by rw [e]; simp)
   have ih := cut_append (p := p) r (fun hm => h (List.mem_cons_of_mem _ hm))
   rw [List.cons_append, show cutF c (b :: (p ++ c :: r)) = (if b = c then [] :: cutF c (p ++ c :: r) else match cutF c (p ++ c :: r) with
     | q :: ps => (b :: q) :: ps
     | [] => [[b]]) from rfl, if_neg h1, ih]
theorem cut_join {c : UInt8} : ∀ {l : List (List UInt8)}, l ≠ [] → (∀ p, p ∈ l → c ∉ p) → cutF c (Lib.join l [c]) = l
 | [], h, _ => absurd rfl h
 | [p], _, h => by rw [Lib.join_one]; exact cutF_none (h p (by simp))
 | p :: q :: r, _, h => by
   rw [join_cons2, cut_append _ (h p (by simp)), cut_join (by simp) fun x hx => h x (List.mem_cons_of_mem _ hx)]
theorem good_no {l : List (List UInt8)} (h : goodF l = true) : ∀ p, p ∈ l → (44 : UInt8) ∉ p := by
 intro p hp hm
 unfold goodF at h
 rcases (Bool.or_eq_true _ _).mp h with h | h
 · have := eq_of_beq h
   subst this
   obtain rfl := List.mem_singleton.1 hp
   simp at hm
 · simp only [Bool.and_eq_true] at h
   have := List.all_eq_true.1 h.1.1 p hp
   rw [wordF_no hm (.inl rfl)] at this
   cases this
theorem list_join {l : List (List UInt8)} (h : joinF l ≠ []) : listF (joinF l) = some l := by
 unfold joinF at h ⊢
 by_cases hg : goodF l = true
 · rw [if_pos hg] at h ⊢
   by_cases hl : l = []
   · subst hl; rw [if_pos rfl]; rfl
   · rw [if_neg hl]
     have hc := cut_join hl (good_no hg)
     obtain ⟨g1, g2⟩ := good_le hg
     have g3 := join_le l g2
     unfold listF
     rw [if_neg, if_neg (by omega), hc, if_pos hg]
     intro e
     rw [e] at hc
     have : l = [[45]] := by rw [← hc]; decide
     subst this
     revert hg
     decide
 · rw [if_neg hg] at h; exact absurd rfl h
theorem join_list {w : List UInt8} {m : List (List UInt8)} (h : listF w = some m) : joinF m = w := by
 unfold listF at h
 by_cases h1 : w = [45]
 · rw [if_pos h1] at h
   obtain rfl := Option.some.inj h
   rw [h1]; decide
 · rw [if_neg h1] at h
   split at h
   · cases h
   · split at h
     · rename_i hg
       obtain rfl := Option.some.inj h
       unfold joinF
       rw [if_pos hg, if_neg (cutF_ne 44 w), join_cut]
     · cases h
end Go.Proofs.YtpmpajodihpkaaaGreatDoor
namespace Go.Proofs.YtpmpajodihpkaaaGreatDoor
open Go Go.Proofs Go.Ua Go.Extern
theorem l_cutS {F : Fam} (hF : F = Fam.real) {s : List UInt8} {i j : Nat} {iv jv : Int} (hi : iv = i) (hj : jv = j) (h1 : i ≤ j) (h2 : j ≤ s.length) : F .cutS s iv jv = some ((s.take j).drop i) := by
 subst hF; subst hi; subst hj
 show cutI s (i : Int) (j : Int) = _
 unfold cutI
 rw [if_pos ⟨by omega, by omega, by omega⟩]
 simp
theorem Cut_spec (s : List UInt8) (c : UInt8) (hs : s.length < 4294967296) : ESpec Tryz.prog 59 [.d (.s (.str s)), .d (.s (.int .u8 c.toNat))] (fun x => x = .d (.view 1 (strDs (cutF c s)))) := by
 obtain ⟨z, hz⟩ : ∃ z, z = strDs (cutF c s) := ⟨_, rfl⟩
 obtain ⟨cv, hcv⟩ : ∃ z : Int, z = c.toNat := ⟨_, rfl⟩
 rw [← hz, ← hcv]
 refine ESpec.enter Tryz.func59 (by kernel_rfl) rfl (Nat.le_of_ble_eq_true rfl) fun hok cx hnt hfr => ?_
 obtain ⟨F, hF⟩ := real_ex
 refine AK.run hF tabOK hnt ?_
 conv => arg 4; cbv
 refine AKp.asRow 5 9 1 (by decide) rfl ?_
 conv => arg 4; arg 2; cbv
 refine AKp.enterLoop 5 ?_
 conv => arg 7; cbv
 refine AKl.inv hF tabOK hnt hfr (fun n vs hs' => ∃ (i j : Nat) (iv jv : Int) (out : List (List UInt8)) (es : List Dat), i + n = s.length ∧ iv = i ∧ jv = j ∧ j ≤ i ∧ out.length ≤ j ∧ cutF c s = out ++ cutF c (s.drop j) ∧ c ∉ (s.take i).drop j ∧ es = strDs out ∧
     vs = [(7, .d (.s (.int .i64 iv))), (6, .d (.s (.int .i64 jv))), (5, .row 0 1)] ∧ hs' = [(0, .ds 9 1 es)]) s.length
   ⟨0, 0, _, _, [], [], by omega, rfl, rfl, by omega, by simp, by simp, by simp, rfl, rfl, rfl⟩ (by repeat (first | exact True.intro | refine ⟨⟨rfl, rfl⟩, ?_⟩)) (by repeat (first | exact True.intro | refine ⟨⟨rfl, rfl, rfl⟩, ?_⟩)) ?_
 rintro J n vs hs' hJ ⟨i, j, iv, jv, out, es, hi, hiv, hjv, hji, hol, hcut, hno, hes, rfl, rfl⟩
 have hesl : es.length = out.length := by rw [hes]; simp [strDs]
 conv => arg 4; cbv
 cases hb : F .ltI iv (F .lenS s)
 case' false =>
   have hlt := ltI0 hF hb
   rw [l_lenS hF] at hlt
   have hil : i = s.length := by omega
   have hcs := l_cutS hF (s := s) (iv := jv) (jv := F .lenS s) (i := j) (j := s.length) hjv (by rw [l_lenS hF]) (by omega) (by omega)
   rw [List.take_length] at hcs
   obtain ⟨p, hp⟩ : ∃ p, p = s.drop j := ⟨_, rfl⟩
   rw [← hp] at hcs
   rw [hil, List.take_length, ← hp] at hno
   rw [← hp, cutF_none hno] at hcut
   have hap : F .appD es [.s (.str p)] = es ++ [.s (.str p)] := by rw [hF]; rfl
   have hft : F .fits 16 (F .appD es [.s (.str p)]) = true := by rw [hap, hF]; exact decide_eq_true (by simp; omega)
   have hzz : F .appD es [.s (.str p)] = z := by rw [hap, hz, hcut, hes]; simp [strDs]
   conv => arg 4; cbv
   rw [hcs]
   conv => arg 4; cbv
   rw [hft]
   conv => arg 4; cbv
   rw [hzz]
   refine AKp.freeze 2 rfl ?_
   conv => arg 4; arg 2; cbv
   exact AKp.doneE tabOK hfr (by rfl) (by rfl)
 case' true =>
   have hlt := ltI1 hF hb
   rw [l_lenS hF] at hlt
   obtain ⟨x, hx⟩ : ∃ c, s[i]? = some c := ⟨_, List.getElem?_eq_getElem (by omega)⟩
   have hg := l_getS hF hx hiv
   obtain ⟨xv, hxv⟩ : ∃ z : Int, z = x.toNat := ⟨_, rfl⟩
   rw [← hxv] at hg
   conv => arg 4; cbv
   rw [hg]
   conv => arg 4; cbv
   cases h5 : F .eqI xv cv
   case' false =>
     have h5' := eqI0 hF h5
     conv => arg 4; cbv
     refine AKp.again _ hfr (by repeat (first | exact True.intro | refine ⟨⟨rfl, rfl⟩, ?_⟩)) (by repeat (first | exact True.intro | refine ⟨⟨rfl, rfl, rfl⟩, ?_⟩)) (hJ (n - 1) _ _ (by omega) ⟨i + 1, j, _, jv, out, es, by omega, inc_i hF hiv (by omega), hjv, by omega, hol, hcut, ?_, hes, rfl, rfl⟩)
     rw [List.take_add_one, hx, List.drop_append]
     simp only [Option.toList_some, List.mem_append, not_or]
     refine ⟨hno, fun hm => h5' ?_⟩
     have := List.mem_of_mem_drop hm
     obtain rfl := List.mem_singleton.1 this
     rw [hxv, hcv]
   case' true =>
     have h5' := eqI1 hF h5
     have hcs := l_cutS hF (s := s) hjv hiv hji (by omega)
     conv => arg 4; cbv
     obtain ⟨p, hp⟩ : ∃ p, p = (s.take i).drop j := ⟨_, rfl⟩
     rw [← hp] at hcs hno
     have hxc : x = c := UInt8.toNat_inj.1 (by rw [hxv, hcv] at h5'; omega)
     have hsd : s.drop j = p ++ c :: s.drop (i + 1) := by
       have h6 : s.drop i = c :: s.drop (i + 1) := by
         rw [List.drop_eq_getElem_cons (by omega)]
         have : s[i] = c := by rw [List.getElem?_eq_getElem (by omega)] at hx; rw [← hxc]; exact Option.some.inj hx
         rw [this]
       have h7 : s.drop j = (s.take i ++ s.drop i).drop j := by rw [List.take_append_drop]
       rw [h7, List.drop_append_of_le_length (by simp; omega), h6, ← hp]
     have hap : F .appD es [.s (.str p)] = es ++ [.s (.str p)] := by rw [hF]; rfl
     have hft : F .fits 16 (F .appD es [.s (.str p)]) = true := by rw [hap, hF]; exact decide_eq_true (by simp; omega)
     rw [hcs]
     conv => arg 4; cbv
     rw [hft]
     conv => arg 4; cbv
     rw [hap]
     refine AKp.againR [(0, 2)] _ hfr (by repeat (first | exact True.intro | refine ⟨⟨rfl, rfl⟩, ?_⟩)) (by repeat (first | exact True.intro | refine ⟨⟨Nat.le_of_ble_eq_true rfl, rfl, rfl⟩, ?_⟩)) rfl (hJ (n - 1) _ _ (by omega) ⟨i + 1, i + 1, _, _, out ++ [p], es ++ [.s (.str p)], by omega, inc_i hF hiv (by omega), inc_i hF hiv (by omega), Nat.le_refl _, by simp; omega, ?_, by simp, by rw [hes]; simp [strDs], rfl, rfl⟩)
     rw [hcut, hsd, cut_append _ hno]
     simp
end Go.Proofs.YtpmpajodihpkaaaGreatDoor
namespace Go.Proofs.YtpmpajodihpkaaaGreatDoor
open Go Go.Proofs Go.Ua Go.Extern
end Go.Proofs.YtpmpajodihpkaaaGreatDoor
namespace Go.Proofs.YtpmpajodihpkaaaGreatDoor
open Go Go.Proofs Go.Ua Go.Extern
def wordsF (s : List UInt8) : List (List UInt8) := (cutF 32 s).filter fun p => !(p == [])
theorem RefWords_spec (s : List UInt8) (hs : s.length < 4294967296) : ESpec Tryz.prog 39 [.d (.s (.str s))] (fun x => x = .d (.view 1 (strDs (wordsF s)))) := by
 have sp := Cut_spec s 32 hs
 rw [show (((32 : UInt8).toNat : Nat) : Int) = 32 from rfl] at sp
 obtain ⟨l, hl⟩ : ∃ l, l = cutF 32 s := ⟨_, rfl⟩
 have hll : l.length ≤ 4294967296 := by
   rw [hl, cutF_len]
   have := List.count_le_length (a := (32 : UInt8)) (l := s)
   omega
 obtain ⟨ea, hea⟩ : ∃ z, z = strDs l := ⟨_, rfl⟩
 have hel : ea.length = l.length := by rw [hea]; simp [strDs]
 rw [← hl, ← hea] at sp
 obtain ⟨z, hz⟩ : ∃ z, z = strDs (wordsF s) := ⟨_, rfl⟩
 have hzl : z = strDs (l.filter fun p => !(p == [])) := by rw [hz, wordsF, hl]
 rw [← hz]
 refine ESpec.enter Tryz.func39 (by kernel_rfl) rfl (Nat.le_of_ble_eq_true rfl) fun hok cx hnt hfr => ?_
 obtain ⟨F, hF⟩ := real_ex
 refine AK.run hF tabOK hnt ?_
 conv => arg 4; cbv
 refine AKp.call hF tabOK hnt sp rfl rfl rfl rfl rfl rfl rfl (by repeat' first | exact .refl _ | constructor) ?_
 rintro _ rfl
 conv => arg 4; cbv
 refine AKp.asRow 4 9 1 (by decide) rfl ?_
 conv => arg 4; arg 2; cbv
 refine AKp.enterLoop 4 ?_
 conv => arg 7; cbv
 refine AKl.inv hF tabOK hnt hfr (fun n vs hs' => ∃ (i : Nat) (iv : Int) (out : List (List UInt8)) (es : List Dat), i + n = l.length ∧ iv = i ∧ out.length ≤ i ∧ out = (l.take i).filter (fun p => !(p == [])) ∧ es = strDs out ∧
     vs = [(5, .d (.s (.int .i64 iv))), (4, .row 0 1)] ∧ hs' = [(0, .ds 9 1 es)]) l.length
   ⟨0, _, [], [], by omega, rfl, by simp, by simp, rfl, rfl, rfl⟩ (by repeat (first | exact True.intro | refine ⟨⟨rfl, rfl⟩, ?_⟩)) (by repeat (first | exact True.intro | refine ⟨⟨rfl, rfl, rfl⟩, ?_⟩)) ?_
 rintro J n vs hs' hJ ⟨i, iv, out, es, hi, hiv, hol, hout, hes, rfl, rfl⟩
 have hesl : es.length = out.length := by rw [hes]; simp [strDs]
 conv => arg 4; cbv
 cases hb : F .ltI iv (F .lenD ea)
 case' false =>
   have hlt := ltI0 hF hb
   rw [l_lenD hF] at hlt
   rw [List.take_of_length_le (by omega)] at hout
   conv => arg 4; cbv
   rw [show es = z by rw [hes, hout, hzl]]
   refine AKp.freeze 0 rfl ?_
   conv => arg 4; arg 2; cbv
   exact AKp.doneE tabOK hfr (by rfl) (by rfl)
 case' true =>
   have hlt := ltI1 hF hb
   rw [l_lenD hF] at hlt
   obtain ⟨p, hp⟩ : ∃ c, l[i]? = some c := ⟨_, List.getElem?_eq_getElem (by omega)⟩
   have hg : F .getD ea iv = some (.s (.str p)) := l_getD hF (i := i) (by rw [hea]; exact strDs_get hp) hiv
   have htk : (l.take (i + 1)).filter (fun p => !(p == [])) = out ++ [p].filter (fun p => !(p == [])) := by rw [List.take_add_one, hp, List.filter_append, hout]; rfl
   conv => arg 4; cbv
   rw [hg]
   conv => arg 4; cbv
   cases h5 : F .eqS p []
   case' true =>
     have h5' := eqS1 hF h5
     rw [l_not1 hF]
     conv => arg 4; cbv
     exact AKp.again _ hfr (by repeat (first | exact True.intro | refine ⟨⟨rfl, rfl⟩, ?_⟩)) (by repeat (first | exact True.intro | refine ⟨⟨rfl, rfl, rfl⟩, ?_⟩)) (hJ (n - 1) _ _ (by omega) ⟨i + 1, _, out, es, by omega, inc_i hF hiv (by omega), by omega, by rw [htk, h5']; simp, hes, rfl, rfl⟩)
   case' false =>
     have h5' := eqS0 hF h5
     have hap : F .appD es [.s (.str p)] = es ++ [.s (.str p)] := by rw [hF]; rfl
     have hft : F .fits 16 (F .appD es [.s (.str p)]) = true := by rw [hap, hF]; exact decide_eq_true (by simp; omega)
     rw [l_not0 hF]
     conv => arg 4; cbv
     rw [hg]
     conv => arg 4; cbv
     rw [hft]
     conv => arg 4; cbv
     rw [hap]
     exact AKp.againR [(0, 2)] _ hfr (by repeat (first | exact True.intro | refine ⟨⟨rfl, rfl⟩, ?_⟩)) (by repeat (first | exact True.intro | refine ⟨⟨Nat.le_of_ble_eq_true rfl, rfl, rfl⟩, ?_⟩)) rfl (hJ (n - 1) _ _ (by omega) ⟨i + 1, _, out ++ [p], es ++ [.s (.str p)], by omega, inc_i hF hiv (by omega), by simp; omega, by rw [htk]; simp [h5'], by rw [hes]; simp [strDs], rfl, rfl⟩)
end Go.Proofs.YtpmpajodihpkaaaGreatDoor
namespace Go.Proofs.YtpmpajodihpkaaaGreatDoor
open Go Go.Proofs Go.Ua Go.Extern
end Go.Proofs.YtpmpajodihpkaaaGreatDoor
namespace Go.Proofs.YtpmpajodihpkaaaGreatDoor
open Go Go.Proofs Go.Ua Go.Extern
theorem Same_spec (a b : List (List UInt8)) : ESpec Tryz.prog 44 [.d (.view 1 (strDs a)), .d (.view 1 (strDs b))] (fun x => x = .d (.s (.bool (decide (a = b))))) := by
 obtain ⟨z, hz⟩ : ∃ z, z = decide (a = b) := ⟨_, rfl⟩
 obtain ⟨ea, hea⟩ : ∃ z, z = strDs a := ⟨_, rfl⟩
 obtain ⟨eb, heb⟩ : ∃ z, z = strDs b := ⟨_, rfl⟩
 have hla : ea.length = a.length := by rw [hea]; simp [strDs]
 have hlb : eb.length = b.length := by rw [heb]; simp [strDs]
 rw [← hz, ← hea, ← heb]
 refine ESpec.enter Tryz.func44 (by kernel_rfl) rfl (Nat.le_of_ble_eq_true rfl) fun hok cx hnt hfr => ?_
 have hml : ea.length ≤ maxLen := hok.1.1
 have hm : maxLen = 9223372036854775807 := by decide
 obtain ⟨F, hF⟩ := real_ex
 refine AK.run hF tabOK hnt ?_
 conv => arg 4; cbv
 cases h1 : F .eqI (F .lenD ea) (F .lenD eb)
 case' false =>
   have h1' := eqI0 hF h1
   rw [l_lenD hF, l_lenD hF] at h1'
   rw [l_not0 hF]
   conv => arg 4; cbv
   rw [show z = false by rw [hz]; exact decide_eq_false (by rintro rfl; exact h1' (by rw [hla, hlb]))]
   exact AKp.doneE tabOK hfr (by rfl) (by rfl)
 case' true =>
 have h1' := eqI1 hF h1
 rw [l_lenD hF, l_lenD hF] at h1'
 rw [l_not1 hF]
 conv => arg 4; cbv
 refine AKp.enterLoop 5 ?_
 conv => arg 7; cbv
 refine AKl.inv hF tabOK hnt hfr (fun n vs hs => ∃ (i : Nat) (iv : Int), i + n = a.length ∧ iv = i ∧ a.take i = b.take i ∧ vs = [(5, .d (.s (.int .i64 iv)))] ∧ hs = []) a.length
   ⟨0, _, by omega, rfl, by simp, rfl, rfl⟩ (by repeat (first | exact True.intro | refine ⟨⟨rfl, rfl⟩, ?_⟩)) (by repeat (first | exact True.intro | refine ⟨⟨rfl, rfl, rfl⟩, ?_⟩)) ?_
 rintro J n vs hs hJ ⟨i, iv, hi, hiv, heq, rfl, rfl⟩
 conv => arg 4; cbv
 cases hb : F .ltI iv (F .lenD ea)
 case' false =>
   have hlt := ltI0 hF hb
   rw [l_lenD hF] at hlt
   conv => arg 4; cbv
   rw [show z = true by rw [hz]; exact decide_eq_true (by rwa [List.take_of_length_le (by omega), List.take_of_length_le (by omega)] at heq)]
   exact AKp.doneE tabOK hfr (by rfl) (by rfl)
 case' true =>
   have hlt := ltI1 hF hb
   rw [l_lenD hF] at hlt
   obtain ⟨x, hx⟩ : ∃ c, a[i]? = some c := ⟨_, List.getElem?_eq_getElem (by omega)⟩
   obtain ⟨y, hy⟩ : ∃ c, b[i]? = some c := ⟨_, List.getElem?_eq_getElem (by omega)⟩
   have hg1 : F .getD ea iv = some (.s (.str x)) := l_getD hF (i := i) (by rw [hea]; exact strDs_get hx) hiv
   have hg2 : F .getD eb iv = some (.s (.str y)) := l_getD hF (i := i) (by rw [heb]; exact strDs_get hy) hiv
   conv => arg 4; cbv
   refine AKp.drawn ?_
   refine DK.runV hF tabOK hnt hfr 0 ?_
   conv => arg 8; cbv
   rw [hg1]
   conv => arg 8; cbv
   rw [hg2]
   conv => arg 8; cbv
   refine DK.fin (by kernel_rfl) (by decide) ?_
   refine AK.run hF tabOK hnt ?_
   conv => arg 4; cbv
   cases h5 : F .eqS x y
   case' false =>
     have h5' := eqS0 hF h5
     rw [l_not0 hF]
     conv => arg 4; cbv
     rw [show z = false by rw [hz]; exact decide_eq_false (by rintro rfl; rw [hx] at hy; exact h5' (Option.some.inj hy))]
     exact AKp.doneE tabOK hfr (by rfl) (by rfl)
   case' true =>
     have h5' := eqS1 hF h5
     rw [l_not1 hF]
     conv => arg 4; cbv
     exact AKp.again _ hfr (by repeat (first | exact True.intro | refine ⟨⟨rfl, rfl⟩, ?_⟩)) (by repeat (first | exact True.intro | refine ⟨⟨rfl, rfl, rfl⟩, ?_⟩)) (hJ (n - 1) _ _ (by omega) ⟨i + 1, _, by omega, inc_i hF hiv (by omega), by rw [List.take_add_one, List.take_add_one, heq, hx, hy, h5'], rfl, rfl⟩)
end Go.Proofs.YtpmpajodihpkaaaGreatDoor
namespace Go.Proofs.YtpmpajodihpkaaaGreatDoor
open Go Go.Proofs Go.Ua Go.Extern
theorem hmix : Tryz.prog.follows .mixedOrders = true := by kernel_rfl
def φSmall (u : Int → Bool) : List AV → Option (Bool × AV)
 | [.d (.s (.int .u8 n))] => some (true, .d (.s (.bool (u n))))
 | _ => none
theorem φSmall_ok : SpOK Tryz.prog 78 (φSmall (smallN)) := by
 intro xs b x h hb
 unfold φSmall at h
 split at h
 · simp only [Option.some.injEq, Prod.mk.injEq] at h
   obtain ⟨rfl, rfl⟩ := h
   exact small_spec _
 · cases h
def φGreat (u : Int → Bool) : List AV → Option (Bool × AV)
 | [.d (.s (.int .u8 n))] => some (true, .d (.s (.bool (u n))))
 | _ => none
theorem φGreat_ok : SpOK Tryz.prog 88 (φGreat (greatN)) := by
 intro xs b x h hb
 unfold φGreat at h
 split at h
 · simp only [Option.some.injEq, Prod.mk.injEq] at h
   obtain ⟨rfl, rfl⟩ := h
   exact great_spec _
 · cases h
def φDigit (u : Int → Bool) : List AV → Option (Bool × AV)
 | [.d (.s (.int .u8 n))] => some (true, .d (.s (.bool (u n))))
 | _ => none
theorem φDigit_ok : SpOK Tryz.prog 79 (φDigit (digitN)) := by
 intro xs b x h hb
 unfold φDigit at h
 split at h
 · simp only [Option.some.injEq, Prod.mk.injEq] at h
   obtain ⟨rfl, rfl⟩ := h
   exact digit_spec _
 · cases h
def φName (u : List UInt8 → Bool) : List AV → Option (Bool × AV)
 | [.d (.s (.str w))] => some (true, .d (.s (.bool (u w))))
 | _ => none
theorem φName_ok : SpOK Tryz.prog 45 (φName (nameF)) := by
 intro xs b x h hb
 unfold φName at h
 split at h
 · simp only [Option.some.injEq, Prod.mk.injEq] at h
   obtain ⟨rfl, rfl⟩ := h
   exact Name_spec _
 · cases h
theorem CutI_spec (s : List UInt8) (n : Int) (hs : s.length < 4294967296) : ESpec Tryz.prog 59 [.d (.s (.str s)), .d (.s (.int .u8 n))] (fun x => x = .d (.view 1 (strDs (cutF (UInt8.ofNat n.toNat) s)))) :=
 ESpec.ok (enters_of Tryz.func59 (by kernel_rfl) rfl) fun hok => by
   have := Cut_spec s (UInt8.ofNat n.toNat) hs
   rwa [u8_of hok.2.1] at this
theorem JoinD_spec (es : List Dat) (h : isStrs es = true) : ESpec Tryz.prog 47 [.d (.view 1 es)] (fun x => x = .d (.s (.str (joinF (unStr es))))) := by
 have := Join_spec (unStr es)
 rwa [strDs_unStr h] at this
theorem SameD_spec (es ds : List Dat) (h : isStrs es = true) (h2 : isStrs ds = true) : ESpec Tryz.prog 44 [.d (.view 1 es), .d (.view 1 ds)] (fun x => x = .d (.s (.bool (decide (unStr es = unStr ds))))) := by
 have := Same_spec (unStr es) (unStr ds)
 rwa [strDs_unStr h, strDs_unStr h2] at this
def listV (w : List UInt8) : List Dat := strDs ((listF w).getD [])
def listB (w : List UInt8) : Bool := (listF w).isSome
def numV (w : List UInt8) (a b : Int) : Int := (numberF w a b).getD 0
def numB (w : List UInt8) (a b : Int) : Bool := (numberF w a b).isSome
def le32 (w : List UInt8) : Bool := decide (w.length < 4294967281)
def φCut (p : List UInt8 → Bool) (u : List UInt8 → Int → List Dat) : List AV → Option (Bool × AV)
 | [.d (.s (.str w)), .d (.s (.int .u8 n))] => some (p w, .d (.view 1 (u w n)))
 | _ => none
theorem φCut_ok : SpOK Tryz.prog 59 (φCut (le32) (fun w n => strDs (cutF (UInt8.ofNat n.toNat) w))) := by
 intro xs b x h hb
 unfold φCut at h
 split at h
 · simp only [Option.some.injEq, Prod.mk.injEq] at h
   obtain ⟨rfl, rfl⟩ := h
   exact CutI_spec _ _ (Nat.lt_trans (of_decide_eq_true hb) (by decide))
 · cases h
def φJoin (p : List Dat → Bool) (u : List Dat → List UInt8) : List AV → Option (Bool × AV)
 | [.d (.view 1 l)] => some (p l, .d (.s (.str (u l))))
 | _ => none
theorem φJoin_ok : SpOK Tryz.prog 47 (φJoin (isStrs) (fun l => joinF (unStr l))) := by
 intro xs b x h hb
 unfold φJoin at h
 split at h
 · simp only [Option.some.injEq, Prod.mk.injEq] at h
   obtain ⟨rfl, rfl⟩ := h
   exact JoinD_spec _ hb
 · cases h
def φSame (p q : List Dat → List Dat → Bool) : List AV → Option (Bool × AV)
 | [.d (.view 1 l), .d (.view 1 m)] => some (p l m, .d (.s (.bool (q l m))))
 | _ => none
theorem φSame_ok : SpOK Tryz.prog 44 (φSame (fun l m => isStrs l && isStrs m) (fun l m => decide (unStr l = unStr m))) := by
 intro xs b x h hb
 unfold φSame at h
 split at h
 · simp only [Option.some.injEq, Prod.mk.injEq] at h
   obtain ⟨rfl, rfl⟩ := h
   simp only [Bool.and_eq_true] at hb; exact SameD_spec _ _ hb.1 hb.2
 · cases h
def φRefWords (p : List UInt8 → Bool) (u : List UInt8 → List Dat) : List AV → Option (Bool × AV)
 | [.d (.s (.str w))] => some (p w, .d (.view 1 (u w)))
 | _ => none
theorem φRefWords_ok : SpOK Tryz.prog 39 (φRefWords (le32) (fun w => strDs (wordsF w))) := by
 intro xs b x h hb
 unfold φRefWords at h
 split at h
 · simp only [Option.some.injEq, Prod.mk.injEq] at h
   obtain ⟨rfl, rfl⟩ := h
   exact RefWords_spec _ (Nat.lt_trans (of_decide_eq_true hb) (by decide))
 · cases h
end Go.Proofs.YtpmpajodihpkaaaGreatDoor
