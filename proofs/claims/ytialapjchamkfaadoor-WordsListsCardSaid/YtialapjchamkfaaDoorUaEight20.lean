/- Lists are read as they were joined, joined as they were read: plain laws. -/
import Derived.Test.YtialapjchamkfaaDoorUaEight17
import Derived.Test.YtialapjchamkfaaDoorUaEight19
namespace Go.Proofs.YtialapjchamkfaaDoor
open Go Go.Proofs Go.Ua Go.Extern
set_option linter.unusedVariables false
set_option linter.unusedSimpArgs false

theorem join_cons2 (c : UInt8) (p q : List UInt8) (r : List (List UInt8)) : Lib.join (p :: q :: r) [c] = p ++ c :: Lib.join (q :: r) [c] := by
  rw [Lib.join_cons, Lib.join_cons]
  simp [Lib.joinTail]

theorem join_cut (c : UInt8) : ∀ w : List UInt8, Lib.join (cutF c w) [c] = w
  | [] => by simp [cutF, Lib.join_one]
  | b :: r => by
    have ih := join_cut c r
    unfold cutF
    cases hr : cutF c r with
    | nil => exact absurd hr (cutF_ne c r)
    | cons q qs =>
      rw [hr] at ih
      by_cases e : b = c
      · rw [if_pos e, join_cons2, ih, e]; rfl
      · rw [if_neg e]
        cases qs with
        | nil => rw [Lib.join_one] at ih ⊢; simp [ih]
        | cons q2 qs => rw [join_cons2] at ih ⊢; simp [← ih]

theorem cut_append {c : UInt8} : ∀ {p : List UInt8} (r : List UInt8), c ∉ p → cutF c (p ++ c :: r) = p :: cutF c r
  | [], r, _ => by simp [cutF]
  | b :: p, r, h => by
    have h1 : b ≠ c := fun e => h (by rw [e]; simp)
    have ih := cut_append (p := p) r (fun hm => h (List.mem_cons_of_mem _ hm))
    rw [List.cons_append, show cutF c (b :: (p ++ c :: r)) = (if b = c then [] :: cutF c (p ++ c :: r) else match cutF c (p ++ c :: r) with
      | q :: ps => (b :: q) :: ps
      | [] => [[b]]) from rfl, if_neg h1, ih]

theorem cut_join {c : UInt8} : ∀ {l : List (List UInt8)}, l ≠ [] → (∀ p, p ∈ l → c ∉ p) → cutF c (Lib.join l [c]) = l
  | [], h, _ => absurd rfl h
  | [p], _, h => by rw [Lib.join_one]; exact cutF_none (h p (by simp))
  | p :: q :: r, _, h => by
    rw [join_cons2, cut_append _ (h p (by simp)), cut_join (by simp) fun x hx => h x (List.mem_cons_of_mem _ hx)]

theorem good_no {l : List (List UInt8)} (h : goodF l = true) : ∀ p, p ∈ l → (44 : UInt8) ∉ p := by
  intro p hp hm
  unfold goodF at h
  rcases (Bool.or_eq_true _ _).mp h with h | h
  · have := eq_of_beq h
    subst this
    obtain rfl := List.mem_singleton.1 hp
    simp at hm
  · simp only [Bool.and_eq_true] at h
    have := List.all_eq_true.1 h.1.1 p hp
    rw [wordF_no hm (.inl rfl)] at this
    cases this

/-- Read as it was joined. -/
theorem list_join {l : List (List UInt8)} (h : joinF l ≠ []) : listF (joinF l) = some l := by
  unfold joinF at h ⊢
  by_cases hg : goodF l = true
  · rw [if_pos hg] at h ⊢
    by_cases hl : l = []
    · subst hl; rw [if_pos rfl]; rfl
    · rw [if_neg hl]
      have hc := cut_join hl (good_no hg)
      obtain ⟨g1, g2⟩ := good_le hg
      have g3 := join_le l g2
      unfold listF
      rw [if_neg, if_neg (by omega), hc, if_pos hg]
      intro e
      rw [e] at hc
      have : l = [[45]] := by rw [← hc]; decide
      subst this
      revert hg
      decide
  · rw [if_neg hg] at h; exact absurd rfl h

/-- Joined as it was read. -/
theorem join_list {w : List UInt8} {m : List (List UInt8)} (h : listF w = some m) : joinF m = w := by
  unfold listF at h
  by_cases h1 : w = [45]
  · rw [if_pos h1] at h
    obtain rfl := Option.some.inj h
    rw [h1]; decide
  · rw [if_neg h1] at h
    split at h
    · cases h
    · split at h
      · rename_i hg
        obtain rfl := Option.some.inj h
        unfold joinF
        rw [if_pos hg, if_neg (cutF_ne 44 w), join_cut]
      · cases h
end Go.Proofs.YtialapjchamkfaaDoor
