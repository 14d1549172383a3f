/- The library of this claim and its walks, part 24, joined out of smaller texts. No statement stands in it. -/
import Derived.Test.YtpmpajodihpkaaaDoorUaM19
import Derived.Test.YtpmpajodihpkaaaDoorUaM23
import Derived.Lib.Join
/- Lists, joined. -/
namespace Go.Proofs.YtpmpajodihpkaaaDoor
open Go Go.Proofs Go.Ua Go.Extern
set_option linter.unusedVariables false
set_option linter.unusedSimpArgs false

theorem StrJoin_spec (zs : List (List UInt8)) (sep : List UInt8) (hN : zs.length ≤ 140737488355328) (hlen : (Lib.join zs sep).length ≤ 140737488355328) :
    ESpec Tryd.prog 49 [.d (.view 1 (strDs zs)), .d (.s (.str sep))] (fun x => x = .d (.s (.str (Lib.join zs sep)))) := by
  refine ESpec.grown (enters_of Tryd.func49 (by kernel_rfl) rfl) (Nat.le_trans hlen (by decide)) fun R ι vs w hR hG hl hr => ?_
  obtain ⟨v0, v1, rfl⟩ : ∃ v0 v1, vs = [v0, v1] := by
    match vs, hl with
    | [v0, v1], _ => exact ⟨v0, v1, rfl⟩
  obtain rfl := rep_s (hr 1 _ _ rfl rfl)
  have h0 := rep_d (hr 0 _ _ rfl rfl)
  rcases view_strs h0 with ⟨rfl, a, cap, rfl⟩ | ⟨b, off, cap, rfl, hcap, hmx, hcell⟩
  · refine (Tryd.strings_Join_none a cap ⟨sep.toArray⟩ w).mono ?_
    rintro e w' ⟨rfl, rfl⟩
    exact ⟨by simp [Lib.join_nil, Sc.val], RowKit.Below.refl _ _⟩
  · cases hz : zs with
    | nil =>
      subst hz
      refine (Tryd.strings_Join_none (some ⟨b, off, none⟩) cap ⟨sep.toArray⟩ w).mono ?_
      rintro e w' ⟨rfl, rfl⟩
      exact ⟨by simp [Lib.join_nil, Sc.val], RowKit.Below.refl _ _⟩
    | cons z r =>
      rw [← hz]
      obtain ⟨L, hL⟩ : ∃ L : List ByteArray, L = zs.map fun s => ⟨s.toArray⟩ := ⟨_, rfl⟩
      have hLl : L.length = zs.length := by rw [hL]; simp
      have hLd : L.map (·.data.toList) = zs := by rw [hL, List.map_map]; simp [Function.comp_def]
      have hb : b < w.heap.size := block_lt_of_cell (hR _ _ _ (hcell 0 z (by rw [hz]; rfl)))
      rw [← hLl]
      refine (Tryd.strings_Join b off cap L ⟨sep.toArray⟩ w (fun j x hx => ?_) hb (by omega) (by omega) (by rw [hLd]; simpa using hlen)).mono ?_
      · rw [hL, List.getElem?_map] at hx
        obtain ⟨s, hs, rfl⟩ := Option.map_eq_some_iff.1 hx
        exact hR _ _ _ (hcell j s hs)
      · rintro e w' ⟨rfl, hbw⟩
        refine ⟨?_, hbw⟩
        rw [hLd]
        simp [Sc.val]

theorem join_le : ∀ (l : List (List UInt8)), (∀ p, p ∈ l → p.length ≤ 64) → (Lib.join l [44]).length ≤ 65 * l.length
  | [], _ => by simp [Lib.join_nil]
  | x :: r, h => by
    rw [Lib.join_cons]
    have ht : ∀ (r : List (List UInt8)), (∀ p, p ∈ r → p.length ≤ 64) → (Lib.joinTail [44] r).length ≤ 65 * r.length := by
      intro r
      induction r with
      | nil => intro _; simp [Lib.joinTail]
      | cons y r ih =>
        intro h
        have h1 := ih fun p hp => h p (List.mem_cons_of_mem _ hp)
        have h2 := h y (by simp)
        simp only [Lib.joinTail, List.map_cons, List.flatten_cons, List.length_append, List.length_cons, List.length_nil] at h1 ⊢
        omega
    have h1 := ht r fun p hp => h p (List.mem_cons_of_mem _ hp)
    have h2 := h x (by simp)
    simp only [List.length_append, List.length_cons]
    omega
theorem good_le {l : List (List UInt8)} (h : goodF l = true) : l.length ≤ 8 ∧ ∀ p, p ∈ l → p.length ≤ 64 := by
  unfold goodF at h
  rcases (Bool.or_eq_true _ _).mp h with h | h
  · have := eq_of_beq h
    subst this
    exact ⟨by decide, fun p hp => by obtain rfl := List.mem_singleton.1 hp; decide⟩
  · simp only [Bool.and_eq_true, decide_eq_true_eq] at h
    refine ⟨h.2, fun p hp => ?_⟩
    have := List.all_eq_true.1 h.1.1 p hp
    unfold wordF at this
    simp only [Bool.and_eq_true, decide_eq_true_eq] at this
    exact this.1.1.2

def joinF (l : List (List UInt8)) : List UInt8 := if goodF l = true then (if l = [] then [45] else Lib.join l [44]) else []

theorem Join_spec (l : List (List UInt8)) : ESpec Tryd.prog 38 [.d (.view 1 (strDs l))] (fun x => x = .d (.s (.str (joinF l)))) := by
  have sg := good_spec l
  have sj : goodF l = true → ESpec Tryd.prog 49 [.d (.view 1 (strDs l)), .d (.s (.str [44]))] (fun x => x = .d (.s (.str (Lib.join l [44])))) := fun h => by
    obtain ⟨h1, h2⟩ := good_le h
    have h3 := join_le l h2
    exact StrJoin_spec l [44] (by omega) (by omega)
  have hj : joinF l = if goodF l = true then (if l = [] then [45] else Lib.join l [44]) else [] := rfl
  obtain ⟨z, hz⟩ : ∃ z, z = joinF l := ⟨_, rfl⟩
  obtain ⟨es, hes⟩ : ∃ z, z = strDs l := ⟨_, rfl⟩
  have hel : es.length = l.length := by rw [hes]; simp [strDs]
  obtain ⟨J, hJ⟩ : ∃ z, z = Lib.join l [44] := ⟨_, rfl⟩
  rw [← hJ] at sj hj
  rw [← hz] at hj ⊢
  rw [← hes] at sg sj ⊢
  generalize goodF l = g at sg sj hj
  refine ESpec.enter Tryd.func38 (by kernel_rfl) rfl (Nat.le_of_ble_eq_true rfl) fun _ cx hnt hfr => ?_
  obtain ⟨F, hF⟩ := real_ex
  refine AK.run hF tabOK hnt ?_
  conv => arg 4; cbv
  refine AKp.call hF tabOK hnt sg rfl rfl rfl rfl rfl rfl rfl (by repeat' first | exact .refl _ | constructor) ?_
  rintro _ rfl
  conv => arg 4; cbv
  cases g
  case' false =>
    rw [l_not0 hF]
    conv => arg 4; cbv
    rw [show z = [] by rw [hj]; rfl]
    exact AKp.doneE tabOK hfr (by rfl) (by rfl)
  case' true =>
  have sj := sj rfl
  rw [l_not1 hF]
  conv => arg 4; cbv
  cases h1 : F .eqI (F .lenD es) 0
  case' true =>
    have h1' := eqI1 hF h1
    rw [l_lenD hF] at h1'
    have hl : l = [] := List.eq_nil_of_length_eq_zero (by omega)
    conv => arg 4; cbv
    rw [show z = [45] by rw [hj, if_pos rfl, if_pos hl]]
    exact AKp.doneE tabOK hfr (by rfl) (by rfl)
  case' false =>
  have h1' := eqI0 hF h1
  rw [l_lenD hF] at h1'
  have hl : l ≠ [] := by rintro rfl; exact h1' (by rw [hel]; rfl)
  conv => arg 4; cbv
  refine AKp.call hF tabOK hnt sj rfl rfl rfl rfl rfl rfl rfl (by repeat' first | exact .refl _ | constructor) ?_
  rintro _ rfl
  conv => arg 4; cbv
  rw [show J = z by rw [hj, if_pos rfl, if_neg hl]]
  exact AKp.doneE tabOK hfr (by rfl) (by rfl)
end Go.Proofs.YtpmpajodihpkaaaDoor

/- Lists are read as they were joined, joined as they were read: plain laws. -/
namespace Go.Proofs.YtpmpajodihpkaaaDoor
open Go Go.Proofs Go.Ua Go.Extern
set_option linter.unusedVariables false
set_option linter.unusedSimpArgs false

theorem join_cons2 (c : UInt8) (p q : List UInt8) (r : List (List UInt8)) : Lib.join (p :: q :: r) [c] = p ++ c :: Lib.join (q :: r) [c] := by
  rw [Lib.join_cons, Lib.join_cons]
  simp [Lib.joinTail]

theorem cut_append {c : UInt8} : ∀ {p : List UInt8} (r : List UInt8), c ∉ p → cutF c (p ++ c :: r) = p :: cutF c r
  | [], r, _ => by simp [cutF]
  | b :: p, r, h => by
    have h1 : b ≠ c := fun e => h (by rw [e]; simp)
    have ih := cut_append (p := p) r (fun hm => h (List.mem_cons_of_mem _ hm))
    rw [List.cons_append, show cutF c (b :: (p ++ c :: r)) = (if b = c then [] :: cutF c (p ++ c :: r) else match cutF c (p ++ c :: r) with
      | q :: ps => (b :: q) :: ps
      | [] => [[b]]) from rfl, if_neg h1, ih]

theorem cut_join {c : UInt8} : ∀ {l : List (List UInt8)}, l ≠ [] → (∀ p, p ∈ l → c ∉ p) → cutF c (Lib.join l [c]) = l
  | [], h, _ => absurd rfl h
  | [p], _, h => by rw [Lib.join_one]; exact cutF_none (h p (by simp))
  | p :: q :: r, _, h => by
    rw [join_cons2, cut_append _ (h p (by simp)), cut_join (by simp) fun x hx => h x (List.mem_cons_of_mem _ hx)]

theorem good_no {l : List (List UInt8)} (h : goodF l = true) : ∀ p, p ∈ l → (44 : UInt8) ∉ p := by
  intro p hp hm
  unfold goodF at h
  rcases (Bool.or_eq_true _ _).mp h with h | h
  · have := eq_of_beq h
    subst this
    obtain rfl := List.mem_singleton.1 hp
    simp at hm
  · simp only [Bool.and_eq_true] at h
    have := List.all_eq_true.1 h.1.1 p hp
    rw [wordF_no hm (.inl rfl)] at this
    cases this

/-- Read as it was joined. -/
theorem list_join {l : List (List UInt8)} (h : joinF l ≠ []) : listF (joinF l) = some l := by
  unfold joinF at h ⊢
  by_cases hg : goodF l = true
  · rw [if_pos hg] at h ⊢
    by_cases hl : l = []
    · subst hl; rw [if_pos rfl]; rfl
    · rw [if_neg hl]
      have hc := cut_join hl (good_no hg)
      obtain ⟨g1, g2⟩ := good_le hg
      have g3 := join_le l g2
      unfold listF
      rw [if_neg, if_neg (by omega), hc, if_pos hg]
      intro e
      rw [e] at hc
      have : l = [[45]] := by rw [← hc]; decide
      subst this
      revert hg
      decide
  · rw [if_neg hg] at h; exact absurd rfl h

end Go.Proofs.YtpmpajodihpkaaaDoor

/- The reference's cut. -/
namespace Go.Proofs.YtpmpajodihpkaaaDoor
open Go Go.Proofs Go.Ua Go.Extern
set_option linter.unusedVariables false
set_option linter.unusedSimpArgs false

end Go.Proofs.YtpmpajodihpkaaaDoor

/- The reference's lines. -/
namespace Go.Proofs.YtpmpajodihpkaaaDoor
open Go Go.Proofs Go.Ua Go.Extern
set_option linter.unusedVariables false
set_option linter.unusedSimpArgs false

end Go.Proofs.YtpmpajodihpkaaaDoor

/- The reference's words. -/
namespace Go.Proofs.YtpmpajodihpkaaaDoor
open Go Go.Proofs Go.Ua Go.Extern
set_option linter.unusedVariables false
set_option linter.unusedSimpArgs false

end Go.Proofs.YtpmpajodihpkaaaDoor

/- words.Digits at any int. -/
namespace Go.Proofs.YtpmpajodihpkaaaDoor
open Go Go.Proofs Go.Ua Go.Extern
set_option linter.unusedVariables false

end Go.Proofs.YtpmpajodihpkaaaDoor

/- Are two lists the same? -/
namespace Go.Proofs.YtpmpajodihpkaaaDoor
open Go Go.Proofs Go.Ua Go.Extern
set_option linter.unusedVariables false
set_option linter.unusedSimpArgs false

end Go.Proofs.YtpmpajodihpkaaaDoor

/- What is told of the functions walked so far, for trees of calls. -/
namespace Go.Proofs.YtpmpajodihpkaaaDoor
open Go Go.Proofs Go.Ua Go.Extern
set_option linter.unusedVariables false
set_option linter.unusedSimpArgs false
theorem hmix : Tryd.prog.follows .mixedOrders = true := by kernel_rfl
def φName (u : List UInt8 → Bool) : List AV → Option (Bool × AV)
  | [.d (.s (.str w))] => some (true, .d (.s (.bool (u w))))
  | _ => none
theorem φName_ok : SpOK Tryd.prog 36 (φName (nameF)) := by
  intro xs b x h hb
  unfold φName at h
  split at h
  · simp only [Option.some.injEq, Prod.mk.injEq] at h
    obtain ⟨rfl, rfl⟩ := h
    exact Name_spec _
  · cases h
theorem JoinD_spec (es : List Dat) (h : isStrs es = true) : ESpec Tryd.prog 38 [.d (.view 1 es)] (fun x => x = .d (.s (.str (joinF (unStr es))))) := by
  have := Join_spec (unStr es)
  rwa [strDs_unStr h] at this
def listB (w : List UInt8) : Bool := (listF w).isSome
def φJoin (p : List Dat → Bool) (u : List Dat → List UInt8) : List AV → Option (Bool × AV)
  | [.d (.view 1 l)] => some (p l, .d (.s (.str (u l))))
  | _ => none
theorem φJoin_ok : SpOK Tryd.prog 38 (φJoin (isStrs) (fun l => joinF (unStr l))) := by
  intro xs b x h hb
  unfold φJoin at h
  split at h
  · simp only [Option.some.injEq, Prod.mk.injEq] at h
    obtain ⟨rfl, rfl⟩ := h
    exact JoinD_spec _ hb
  · cases h
end Go.Proofs.YtpmpajodihpkaaaDoor

/- The reference's names and words. -/
namespace Go.Proofs.YtpmpajodihpkaaaDoor
open Go Go.Proofs Go.Ua Go.Extern
set_option linter.unusedVariables false
set_option linter.unusedSimpArgs false

end Go.Proofs.YtpmpajodihpkaaaDoor

/- The reference's lists. -/
namespace Go.Proofs.YtpmpajodihpkaaaDoor
open Go Go.Proofs Go.Ua Go.Extern
set_option linter.unusedVariables false
set_option linter.unusedSimpArgs false

end Go.Proofs.YtpmpajodihpkaaaDoor

