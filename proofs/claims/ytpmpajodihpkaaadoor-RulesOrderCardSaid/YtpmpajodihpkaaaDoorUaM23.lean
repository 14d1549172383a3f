/- The library of this claim and its walks, part 23, joined out of smaller texts. No statement stands in it. -/
import Derived.Test.YtpmpajodihpkaaaDoorUaM22
import Derived.Lib.FieldsP
/- The words of a line. -/
namespace Go.Proofs.YtpmpajodihpkaaaDoor
open Go Go.Proofs Go.Ua Go.Extern
set_option linter.unusedVariables false
set_option linter.unusedSimpArgs false

end Go.Proofs.YtpmpajodihpkaaaDoor

/- Powers of two. -/
namespace Go.Proofs.YtpmpajodihpkaaaDoor
open Go Go.Proofs Go.Ua Go.Extern
set_option linter.unusedVariables false
set_option linter.unusedSimpArgs false

end Go.Proofs.YtpmpajodihpkaaaDoor

/- A piece of an array that nobody writes from now on; formatBits at base 16. -/
namespace Go.Proofs.YtpmpajodihpkaaaDoor
open Go Go.Proofs Go.Ua Go.Extern
set_option linter.unusedVariables false
set_option linter.unusedSimpArgs false

end Go.Proofs.YtpmpajodihpkaaaDoor

/- The fixed answers; digits. -/
namespace Go.Proofs.YtpmpajodihpkaaaDoor
open Go Go.Proofs Go.Ua Go.Extern
set_option linter.unusedVariables false
set_option linter.unusedSimpArgs false

end Go.Proofs.YtpmpajodihpkaaaDoor

/- Names are words, words are lists: plain laws. -/
namespace Go.Proofs.YtpmpajodihpkaaaDoor
open Go Go.Proofs Go.Ua Go.Extern
set_option linter.unusedVariables false
set_option linter.unusedSimpArgs false

theorem cutF_none {c : UInt8} : ∀ {s : List UInt8}, c ∉ s → cutF c s = [s]
  | [], _ => rfl
  | b :: r, h => by
    have h1 : b ≠ c := fun e => h (by rw [e]; simp)
    have h2 := cutF_none (s := r) (fun hm => h (List.mem_cons_of_mem _ hm))
    unfold cutF
    rw [if_neg h1, h2]

theorem word_parts {w : List UInt8} (h : wordF w = true) : w ≠ [] ∧ w.length ≤ 64 ∧ w ≠ [45] ∧ w.all wordB = true := by
  unfold wordF at h
  simp only [Bool.and_eq_true, Bool.not_eq_true', decide_eq_true_eq, beq_eq_false_iff_ne] at h
  exact ⟨h.1.1.1, h.1.1.2, h.1.2, h.2⟩
theorem wordB_no {c : UInt8} (h : c = 44 ∨ c = 32 ∨ c = 10) : wordB c = false := by
  rcases h with rfl | rfl | rfl <;> decide
theorem wordF_no {w : List UInt8} {c : UInt8} (hc : c ∈ w) (h : c = 44 ∨ c = 32 ∨ c = 10) : wordF w = false := by
  cases hw : wordF w
  · rfl
  · have := List.all_eq_true.1 (word_parts hw).2.2.2 c hc
    rw [wordB_no h] at this
    cases this

end Go.Proofs.YtpmpajodihpkaaaDoor

