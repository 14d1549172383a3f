/- The library of this claim and its walks, part 23, joined out of smaller texts. No statement stands in it. -/
import Derived.Test.YtpmpajodihpkaaaGreatDoorUaM22
import Derived.Lib.FieldsP
set_option linter.unusedSimpArgs false
set_option linter.unusedVariables false
namespace Go.Proofs.YtpmpajodihpkaaaGreatDoor
open Go Go.Proofs Go.Ua Go.Extern
end Go.Proofs.YtpmpajodihpkaaaGreatDoor
namespace Go.Proofs.YtpmpajodihpkaaaGreatDoor
open Go Go.Proofs Go.Ua Go.Extern
end Go.Proofs.YtpmpajodihpkaaaGreatDoor
namespace Go.Proofs.YtpmpajodihpkaaaGreatDoor
open Go Go.Proofs Go.Ua Go.Extern
end Go.Proofs.YtpmpajodihpkaaaGreatDoor
namespace Go.Proofs.YtpmpajodihpkaaaGreatDoor
open Go Go.Proofs Go.Ua Go.Extern
end Go.Proofs.YtpmpajodihpkaaaGreatDoor
namespace Go.Proofs.YtpmpajodihpkaaaGreatDoor
open Go Go.Proofs Go.Ua Go.Extern
theorem cutF_none {c : UInt8} : ∀ {s : List UInt8}, c ∉ s → cutF c s = [s]
 | [], _ => rfl
 | b :: r, h => by
   have h1 : b ≠ c := fun e => h (by rw [e]; simp)
   have h2 := cutF_none (s := r) (fun hm => h (List.mem_cons_of_mem _ hm))
   unfold cutF
   rw [if_neg h1, h2]
theorem word_parts {w : List UInt8} (h : wordF w = true) : w ≠ [] ∧ w.length ≤ 64 ∧ w ≠ [45] ∧ w.all wordB = true := by
 unfold wordF at h
 simp only [Bool.and_eq_true, Bool.not_eq_true', decide_eq_true_eq, beq_eq_false_iff_ne] at h
 exact ⟨h.1.1.1, h.1.1.2, h.1.2, h.2⟩
theorem wordF_of {w : List UInt8} (h1 : w ≠ []) (h2 : w.length ≤ 64) (h3 : w ≠ [45]) (h4 : w.all wordB = true) : wordF w = true := by
 unfold wordF
 simp only [Bool.and_eq_true, Bool.not_eq_true', decide_eq_true_eq, beq_eq_false_iff_ne]
 exact ⟨⟨⟨h1, h2⟩, h3⟩, h4⟩
theorem word_of_name {w : List UInt8} (h : nameF w = true) : wordF w = true := by
 cases w with
 | nil => cases h
 | cons c r =>
   simp only [nameF, Bool.and_eq_true, decide_eq_true_eq] at h
   obtain ⟨⟨h1, h2⟩, h3⟩ := h
   refine wordF_of (by simp) (by omega) ?_ ?_
   · intro e
     cases e
     revert h2
     decide
   · rw [List.all_eq_true] at h3 ⊢
     intro x hx
     have := h3 x hx
     unfold nameB at this
     unfold wordB
     rcases Bool.or_eq_true _ _ ▸ this with h | h
     · rw [h]; rfl
     · have e : x = 45 := UInt8.toNat_inj.1 (by have := eq_of_beq h; simp; omega)
       rw [e]; decide
theorem wordB_no {c : UInt8} (h : c = 44 ∨ c = 32 ∨ c = 10) : wordB c = false := by
 rcases h with rfl | rfl | rfl <;> decide
theorem wordF_no {w : List UInt8} {c : UInt8} (hc : c ∈ w) (h : c = 44 ∨ c = 32 ∨ c = 10) : wordF w = false := by
 cases hw : wordF w
 · rfl
 · have := List.all_eq_true.1 (word_parts hw).2.2.2 c hc
   rw [wordB_no h] at this
   cases this
end Go.Proofs.YtpmpajodihpkaaaGreatDoor
