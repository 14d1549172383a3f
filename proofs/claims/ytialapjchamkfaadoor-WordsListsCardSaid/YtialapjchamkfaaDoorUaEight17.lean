/- Names are words, words are lists: plain laws. -/
import Derived.Test.YtialapjchamkfaaDoorUaEight13
namespace Go.Proofs.YtialapjchamkfaaDoor
open Go Go.Proofs Go.Ua Go.Extern
set_option linter.unusedVariables false
set_option linter.unusedSimpArgs false

theorem cutF_none {c : UInt8} : ∀ {s : List UInt8}, c ∉ s → cutF c s = [s]
  | [], _ => rfl
  | b :: r, h => by
    have h1 : b ≠ c := fun e => h (by rw [e]; simp)
    have h2 := cutF_none (s := r) (fun hm => h (List.mem_cons_of_mem _ hm))
    unfold cutF
    rw [if_neg h1, h2]

theorem mem_cut {c d : UInt8} (hd : d ≠ c) : ∀ {s : List UInt8}, d ∈ s → ∃ p, p ∈ cutF c s ∧ d ∈ p
  | b :: r, h => by
    unfold cutF
    by_cases e : b = c
    · rw [if_pos e]
      rcases List.mem_cons.1 h with h | h
      · exact absurd (h.trans e) hd
      · obtain ⟨p, hp, hm⟩ := mem_cut hd h
        exact ⟨p, List.mem_cons_of_mem _ hp, hm⟩
    · rw [if_neg e]
      cases hr : cutF c r with
      | nil => exact absurd hr (cutF_ne c r)
      | cons q qs =>
        rcases List.mem_cons.1 h with h | h
        · exact ⟨b :: q, by simp, by rw [h]; simp⟩
        · obtain ⟨p, hp, hm⟩ := mem_cut hd h
          rw [hr] at hp
          rcases List.mem_cons.1 hp with rfl | hp
          · exact ⟨b :: p, by simp, List.mem_cons_of_mem _ hm⟩
          · exact ⟨p, List.mem_cons_of_mem _ hp, hm⟩

theorem word_parts {w : List UInt8} (h : wordF w = true) : w ≠ [] ∧ w.length ≤ 64 ∧ w ≠ [45] ∧ w.all wordB = true := by
  unfold wordF at h
  simp only [Bool.and_eq_true, Bool.not_eq_true', decide_eq_true_eq, beq_eq_false_iff_ne] at h
  exact ⟨h.1.1.1, h.1.1.2, h.1.2, h.2⟩
theorem wordF_of {w : List UInt8} (h1 : w ≠ []) (h2 : w.length ≤ 64) (h3 : w ≠ [45]) (h4 : w.all wordB = true) : wordF w = true := by
  unfold wordF
  simp only [Bool.and_eq_true, Bool.not_eq_true', decide_eq_true_eq, beq_eq_false_iff_ne]
  exact ⟨⟨⟨h1, h2⟩, h3⟩, h4⟩

theorem word_of_name {w : List UInt8} (h : nameF w = true) : wordF w = true := by
  cases w with
  | nil => cases h
  | cons c r =>
    simp only [nameF, Bool.and_eq_true, decide_eq_true_eq] at h
    obtain ⟨⟨h1, h2⟩, h3⟩ := h
    refine wordF_of (by simp) (by omega) ?_ ?_
    · intro e
      cases e
      revert h2
      decide
    · rw [List.all_eq_true] at h3 ⊢
      intro x hx
      have := h3 x hx
      unfold nameB at this
      unfold wordB
      rcases Bool.or_eq_true _ _ ▸ this with h | h
      · rw [h]; rfl
      · have e : x = 45 := UInt8.toNat_inj.1 (by have := eq_of_beq h; simp; omega)
        rw [e]; decide

theorem wordB_no {c : UInt8} (h : c = 44 ∨ c = 32 ∨ c = 10) : wordB c = false := by
  rcases h with rfl | rfl | rfl <;> decide
theorem wordF_no {w : List UInt8} {c : UInt8} (hc : c ∈ w) (h : c = 44 ∨ c = 32 ∨ c = 10) : wordF w = false := by
  cases hw : wordF w
  · rfl
  · have := List.all_eq_true.1 (word_parts hw).2.2.2 c hc
    rw [wordB_no h] at this
    cases this

theorem list_of_word {w : List UInt8} (h : wordF w = true) : listF w = some [w] := by
  have hp := word_parts h
  have hc : (44 : UInt8) ∉ w := fun hm => by have := wordF_no hm (.inl rfl); rw [h] at this; cases this
  unfold listF
  rw [if_neg hp.2.2.1, if_neg (by omega), cutF_none hc]
  have : goodF [w] = true := by
    unfold goodF
    rw [Bool.or_eq_true]
    exact .inr (by simp [h])
  rw [if_pos this]

theorem list_no {w : List UInt8} {c : UInt8} (hc : c ∈ w) (h : c = 32 ∨ c = 10) : listF w = none := by
  have hne : c ≠ 44 := by rcases h with rfl | rfl <;> decide
  unfold listF
  have h1 : w ≠ [45] := by
    rintro rfl
    rcases h with rfl | rfl <;> simp at hc
  rw [if_neg h1]
  split
  · rfl
  · rw [if_neg]
    intro hg
    obtain ⟨p, hp, hm⟩ := mem_cut hne hc
    unfold goodF at hg
    rcases (Bool.or_eq_true _ _).mp hg with h2 | h2
    · have := eq_of_beq h2
      rw [this] at hp
      obtain rfl := List.mem_singleton.1 hp
      rcases h with rfl | rfl <;> simp at hm
    · simp only [Bool.and_eq_true] at h2
      have h3 := List.all_eq_true.1 h2.1.1 p hp
      rw [wordF_no hm (.inr h)] at h3
      cases h3
end Go.Proofs.YtialapjchamkfaaDoor
