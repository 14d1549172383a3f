/- The library of this claim and its walks, part 22, joined out of smaller texts. No statement stands in it. -/
import Derived.Test.YtpmpajodihpkaaaGreatDoorUaM17
import Derived.Test.YtpmpajodihpkaaaGreatDoorUaM21
import Derived.Lib.SplitLaws
import Derived.Lib.IndexBytes
set_option linter.unusedSimpArgs false
set_option linter.unusedVariables false
namespace Go.Ua
open Go Go.Proofs
def cutF (c : UInt8) : List UInt8 → List (List UInt8)
 | [] => [[]]
 | b :: r => if b = c then [] :: cutF c r else match cutF c r with
   | p :: ps => (b :: p) :: ps
   | [] => [[b]]
theorem cutF_ne (c : UInt8) (s : List UInt8) : cutF c s ≠ [] := by
 cases s with
 | nil => simp [cutF]
 | cons b r =>
   unfold cutF
   split
   · simp
   · split <;> simp
theorem cutF_all {c : UInt8} : ∀ {s p : List UInt8}, p ∈ cutF c s → p.length ≤ s.length
 | [], p, h => by simp [cutF] at h; subst h; simp
 | b :: r, p, h => by
   unfold cutF at h
   split at h
   · rcases List.mem_cons.1 h with rfl | h
     · simp
     · have := cutF_all h
       simp; omega
   · cases hr : cutF c r with
     | nil => exact absurd hr (cutF_ne c r)
     | cons q qs =>
       rw [hr] at h
       rcases List.mem_cons.1 h with rfl | h
       · have := cutF_all (c := c) (s := r) (p := q) (by rw [hr]; simp)
         simp; omega
       · have := cutF_all (c := c) (s := r) (p := p) (by rw [hr]; exact List.mem_cons_of_mem _ h)
         simp; omega
theorem cutF_len (c : UInt8) : ∀ s : List UInt8, (cutF c s).length = s.count c + 1
 | [] => rfl
 | b :: r => by
   have := cutF_len c r
   unfold cutF
   split
   · rename_i e
     subst e
     simp [this]
   · rename_i e
     cases hr : cutF c r with
     | nil => exact absurd hr (cutF_ne c r)
     | cons q qs =>
       rw [hr] at this
       simp only [List.length_cons] at this ⊢
       rw [List.count_cons, this]
       simp [e]
end Go.Ua
namespace Go.Proofs.YtpmpajodihpkaaaGreatDoor
open Go Go.Proofs Go.Ua Go.Extern
end Go.Proofs.YtpmpajodihpkaaaGreatDoor
namespace Go.Proofs.YtpmpajodihpkaaaGreatDoor
open Go Go.Proofs Go.Ua Go.Extern
theorem strDs_get {zs : List (List UInt8)} {i : Nat} {s : List UInt8} (h : zs[i]? = some s) : (strDs zs)[i]? = some (.s (.str s)) := by simp [strDs, h]
theorem l_cutD0 {F : Fam} (hF : F = Fam.real) {es : List Dat} {i : Nat} {iv : Int} (hi : iv = i) (h : i ≤ es.length) : F .cutD es 0 iv = some (es.take i) := by
 subst hF; subst hi
 show cutI es 0 (i : Int) = _
 unfold cutI
 rw [if_pos ⟨by omega, by omega, by omega⟩]
 simp
theorem view_strs {R : Rd} {zs : List (List UInt8)} {v : Value} (h : RepD R (.view 1 (strDs zs)) v) :
   (zs = [] ∧ ∃ a cap, v = .slice a 0 cap) ∨ (∃ b off cap, v = .slice (some ⟨b, off, none⟩) zs.length cap ∧ zs.length ≤ cap ∧ zs.length ≤ maxLen ∧ ∀ (j : Nat) (s : List UInt8), zs[j]? = some s → R b (off + j) (.string ⟨s.toArray⟩)) := by
 generalize hx : Dat.view 1 (strDs zs) = x at h
 cases h with
 | nil k =>
   injection hx with _ hz
   have : zs = [] := by simpa [strDs] using hz
   exact .inl ⟨this, _, _, rfl⟩
 | view k es a cap f hc hm hsp hk hr h =>
   cases hx
   by_cases h0 : zs = []
   · subst h0
     exact .inl ⟨rfl, _, _, rfl⟩
   · have hs := hsp (by simpa [strDs] using h0)
     have hl : (strDs zs).length = zs.length := by simp [strDs]
     rw [hl] at hc
     refine .inr ⟨a.block, a.off, cap, ?_, hc, Nat.le_trans hc hm, fun j s hj => ?_⟩
     · rw [hl]
       obtain ⟨b, o, sp⟩ := a
       simp only at hs
       subst hs
       rfl
     · have h1 := hr j _ 0 _ (strDs_get hj) rfl
       have h2 := (h j _ 0 _ (strDs_get hj) rfl).sc
       rw [Nat.mul_one, Nat.add_zero, h2] at h1
       exact h1
 | _ => cases hx
theorem Contains_spec (zs : List (List UInt8)) (x : List UInt8) : ESpec Tryz.prog 73 [.d (.view 1 (strDs zs)), .d (.s (.str x))] (fun y => y = .d (.s (.bool (zs.contains x)))) := by
 have hm : maxLen = 9223372036854775807 := by decide
 refine ESpec.grown (enters_of Tryz.func73 (by kernel_rfl) rfl) trivial fun R ι vs w hR hG hl hr => ?_
 obtain ⟨v0, v1, rfl⟩ : ∃ v0 v1, vs = [v0, v1] := by
   match vs, hl with
   | [v0, v1], _ => exact ⟨v0, v1, rfl⟩
 obtain rfl := rep_s (hr 1 _ _ rfl rfl)
 have h0 := rep_d (hr 0 _ _ rfl rfl)
 rcases view_strs h0 with ⟨rfl, a, cap, rfl⟩ | ⟨b, off, cap, rfl, hcap, hmx, hcell⟩
 · refine (Tryz.slices_Contains_string_empty a cap ⟨x.toArray⟩ w).mono ?_
   rintro e w' ⟨rfl, rfl⟩
   exact ⟨rfl, RowKit.Below.refl _ _⟩
 · obtain ⟨L, hL⟩ : ∃ L : List ByteArray, L = zs.map fun s => ⟨s.toArray⟩ := ⟨_, rfl⟩
   have hLl : L.length = zs.length := by rw [hL]; simp
   refine (Tryz.slices_Contains_string b off zs.length cap L ⟨x.toArray⟩ w (by omega) (by omega) (fun j hj => ?_)).mono ?_
   · obtain ⟨s, hs⟩ : ∃ s, zs[j]? = some s := ⟨_, List.getElem?_eq_getElem (by omega)⟩
     rw [hR _ _ _ (hcell j s hs)]
     simp [hL, hs]
   · rintro e w' ⟨rfl, rfl⟩
     refine ⟨?_, RowKit.Below.refl _ _⟩
     have : Lib.containsS (L.take zs.length) ⟨x.toArray⟩ = zs.contains x := by
       rw [← hLl, List.take_length]
       apply Bool.eq_iff_iff.2
       rw [Lib.containsS_iff, hL, List.contains_iff_mem]
       constructor
       · intro h
         obtain ⟨s, hs, e⟩ := List.mem_map.1 h
         have : s = x := by simpa using e
         exact this ▸ hs
       · intro h
         exact List.mem_map.2 ⟨x, h, rfl⟩
     rw [this]
     rfl
end Go.Proofs.YtpmpajodihpkaaaGreatDoor
namespace Go.Proofs.YtpmpajodihpkaaaGreatDoor
open Go Go.Proofs Go.Ua Go.Extern
def goodF (l : List (List UInt8)) : Bool := (l == [[42]]) || (l.all wordF && decide l.Nodup && decide (l.length ≤ 8))
theorem nodup_take_succ {α : Type} {l : List α} {i : Nat} {x : α} (h : l[i]? = some x) : (l.take (i + 1)).Nodup ↔ (l.take i).Nodup ∧ x ∉ l.take i := by
 rw [List.take_add_one, h]
 simp only [Option.toList_some]
 rw [List.nodup_append]
 constructor
 · rintro ⟨h1, _, h3⟩
   exact ⟨h1, fun hm => h3 x hm x (by simp) rfl⟩
 · rintro ⟨h1, h2⟩
   refine ⟨h1, by simp, fun a ha b hb => ?_⟩
   obtain rfl := List.mem_singleton.1 hb
   rintro rfl
   exact h2 ha
theorem good_spec (l : List (List UInt8)) : ESpec Tryz.prog 64 [.d (.view 1 (strDs l))] (fun x => x = .d (.s (.bool (goodF l)))) := by
 obtain ⟨z, hz⟩ : ∃ z, z = goodF l := ⟨_, rfl⟩
 rw [← hz]
 unfold goodF at hz
 obtain ⟨es, hes⟩ : ∃ z, z = strDs l := ⟨_, rfl⟩
 rw [← hes]
 have hel : es.length = l.length := by rw [hes]; simp [strDs]
 refine ESpec.enter Tryz.func64 (by kernel_rfl) rfl (Nat.le_of_ble_eq_true rfl) fun hok cx hnt hfr => ?_
 have hml : es.length ≤ maxLen := hok.1.1
 have hm : maxLen = 9223372036854775807 := by decide
 obtain ⟨F, hF⟩ := real_ex
 refine AK.run hF tabOK hnt ?_
 conv => arg 4; cbv
 have rest : z = true ∨ (l == [[42]]) = false := by
   rw [hz]
   cases l == [[42]]
   · exact .inr rfl
   · exact .inl rfl
 cases h1 : F .eqI (F .lenD es) 1
 case' true =>
   have h1' := eqI1 hF h1
   rw [l_lenD hF] at h1'
   obtain ⟨a, hla⟩ : ∃ a, l = [a] := by
     match l, (show l.length = 1 by omega) with
     | [a], _ => exact ⟨a, rfl⟩
   have hg : F .getD es 0 = some (.s (.str a)) := l_getD hF (i := 0) (by rw [hes, hla]; rfl) rfl
   conv => arg 4; cbv
   rw [hg]
   conv => arg 4; cbv
   cases h2 : F .eqS a [42]
   case' true =>
     have h2' := eqS1 hF h2
     conv => arg 4; cbv
     rw [show z = true by rw [hz, hla, h2']; rfl]
     exact AKp.doneE tabOK hfr (by rfl) (by rfl)
   case' false =>
   have h2' := eqS0 hF h2
   have hst : (l == [[42]]) = false := by
     rw [hla, beq_eq_false_iff_ne]
     intro e
     exact h2' (by simpa using e)
 case' false =>
   have h1' := eqI0 hF h1
   rw [l_lenD hF] at h1'
   have hst : (l == [[42]]) = false := by
     rw [beq_eq_false_iff_ne]
     rintro rfl
     exact h1' (by rw [hel]; rfl)
 all_goals
   rw [hst, Bool.false_or] at hz
   clear rest
   conv => arg 4; cbv
   refine AKp.enterLoop 16 ?_
   conv => arg 7; cbv
   refine AKl.inv hF tabOK hnt hfr (fun n vs hs => ∃ (i : Nat) (iv : Int), i + n = l.length ∧ iv = i ∧ (l.take i).all wordF = true ∧ (l.take i).Nodup ∧ vs = [(16, .d (.s (.int .i64 iv)))] ∧ hs = []) l.length
     ⟨0, _, by omega, rfl, by simp, by simp, rfl, rfl⟩ (by repeat (first | exact True.intro | refine ⟨⟨rfl, rfl⟩, ?_⟩)) (by repeat (first | exact True.intro | refine ⟨⟨rfl, rfl, rfl⟩, ?_⟩)) ?_
   rintro J n vs hs hJ ⟨i, iv, hi, hiv, hall, hnd, rfl, rfl⟩
   conv => arg 4; cbv
   cases hb : F .ltI iv (F .lenD es)
   case' false =>
     have hlt := ltI0 hF hb
     rw [l_lenD hF] at hlt
     rw [List.take_of_length_le (by omega)] at hall hnd
     rw [hall, decide_eq_true hnd] at hz
     conv => arg 4; cbv
     rw [show F .leI (F .lenD es) 8 = z by rw [hz, l_leI hF, l_lenD hF, hel]; exact decide_eq_decide.2 ⟨fun h => by omega, fun h => by omega⟩]
     exact AKp.doneE tabOK hfr (by rfl) (by rfl)
   case' true =>
     have hlt := ltI1 hF hb
     rw [l_lenD hF] at hlt
     have hil : i < l.length := by omega
     obtain ⟨a, ha⟩ : ∃ a, l[i]? = some a := ⟨_, List.getElem?_eq_getElem hil⟩
     have hg : F .getD es iv = some (.s (.str a)) := l_getD hF (i := i) (by rw [hes]; exact strDs_get ha) hiv
     have sw := Word_spec a
     have sc := Contains_spec (l.take i) a
     obtain ⟨r, hr⟩ : ∃ r, r = es.take i := ⟨_, rfl⟩
     have hct := l_cutD0 hF (es := es) hiv (by omega)
     rw [← hr] at hct
     rw [show strDs (l.take i) = r by rw [hr, hes]; simp [strDs]] at sc
     have hbad : wordF a = false → z = false := fun h => by rw [hz, all_false ha h]; rfl
     have hdup : (l.take i).contains a = true → z = false := fun h => by
       have : ¬ l.Nodup := by
         intro hn
         have := (nodup_take_succ ha).1 (hn.sublist (List.take_sublist _ _))
         exact this.2 (List.contains_iff_mem.1 h)
       rw [hz, decide_eq_false this, Bool.and_false, Bool.false_and]
     have hnext : wordF a = true → (l.take i).contains a = false → (l.take (i + 1)).all wordF = true ∧ (l.take (i + 1)).Nodup := fun h1 h2 =>
       ⟨all_take_succ ha hall h1, (nodup_take_succ ha).2 ⟨hnd, fun hm => by have := List.contains_iff_mem.2 hm; rw [h2] at this; cases this⟩⟩
     generalize wordF a = wa at sw hbad hnext
     generalize (l.take i).contains a = ca at sc hdup hnext
     conv => arg 4; cbv
     rw [hg]
     conv => arg 4; cbv
     refine AKp.call hF tabOK hnt sw rfl rfl rfl rfl rfl rfl rfl (by repeat' first | exact .refl _ | constructor) ?_
     rintro _ rfl
     conv => arg 4; cbv
     cases wa
     case' false =>
       rw [l_not0 hF]
       conv => arg 4; cbv
       rw [hbad rfl]
       exact AKp.doneE tabOK hfr (by rfl) (by rfl)
     case' true =>
     rw [l_not1 hF]
     conv => arg 4; cbv
     rw [hct]
     conv => arg 4; cbv
     refine AKp.call hF tabOK hnt sc rfl rfl rfl rfl rfl rfl rfl (by repeat' first | exact .refl _ | constructor) ?_
     rintro _ rfl
     conv => arg 4; cbv
     cases ca
     case' true =>
       conv => arg 4; cbv
       rw [hdup rfl]
       exact AKp.doneE tabOK hfr (by rfl) (by rfl)
     case' false =>
     conv => arg 4; cbv
     refine AKp.again _ hfr (by repeat (first | exact True.intro | refine ⟨⟨rfl, rfl⟩, ?_⟩)) (by repeat (first | exact True.intro | refine ⟨⟨rfl, rfl, rfl⟩, ?_⟩)) (hJ (n - 1) _ _ (by omega) ⟨i + 1, _, by omega, inc_i hF hiv (by omega), (hnext rfl rfl).1, (hnext rfl rfl).2, rfl, rfl⟩)
end Go.Proofs.YtpmpajodihpkaaaGreatDoor
namespace Go.Proofs.YtpmpajodihpkaaaGreatDoor
open Go Go.Proofs Go.Ua Go.Extern
def listF (w : List UInt8) : Option (List (List UInt8)) := if w = [45] then some [] else if 520 < w.length then none else if goodF (cutF 44 w) = true then some (cutF 44 w) else none
end Go.Proofs.YtpmpajodihpkaaaGreatDoor
