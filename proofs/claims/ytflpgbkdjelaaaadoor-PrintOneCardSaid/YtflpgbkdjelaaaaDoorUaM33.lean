/- The library of this claim and its walks, part 33, joined out of smaller texts. No statement stands in it. -/
import Derived.Test.YtflpgbkdjelaaaaDoorUaM30
import Derived.Test.YtflpgbkdjelaaaaDoorUaM32
/- What print.Print tells: how long it is. -/
namespace Go.Proofs.YtflpgbkdjelaaaaDoor
open Go Go.Proofs Go.Ua Go.Extern
set_option linter.unusedVariables false
set_option linter.unusedSimpArgs false
def txtW (l : List (List Wd)) : Wd := (l.map lineT).flatten
theorem txtW_app (a b : List (List Wd)) : txtW (a ++ b) = txtW a ++ txtW b := by simp [txtW]
theorem txtW_len {N : Nat} : ∀ {l : List (List Wd)}, (∀ ws, ws ∈ l → (J32 ws).length ≤ N) → (txtW l).length ≤ l.length * (N + 1)
  | [], _ => by simp [txtW]
  | w :: r, h => by
    have ih := txtW_len (l := r) fun ws hw => h ws (List.mem_cons_of_mem _ hw)
    have h0 := h w (by simp)
    rw [show txtW (w :: r) = lineT w ++ txtW r from rfl, List.length_append, List.length_cons, Nat.add_mul, lineT, List.length_append]
    simp only [List.length_singleton]
    omega
theorem told_len {c : Cf} (h : formC c = true) {N : Nat} (hN : ∀ w, w ∈ linesR c → w.length ≤ N) : ∀ ws, ws ∈ cfW c → (J32 ws).length ≤ N := by
  intro ws hw
  refine hN _ ?_
  rw [(lines_told h).1]
  exact List.mem_map.2 ⟨ws, hw, rfl⟩
theorem told_count {c : Cf} (h : formC c = true) : (cfW c).length ≤ 307 := by
  simp only [formC, Bool.and_eq_true, decide_eq_true_eq] at h
  obtain ⟨_, _, _, _, _, z6, z7, _, z9⟩ := h
  have h1 : (headW c).length ≤ 3 := by
    unfold headW
    simp only [List.length_append]
    have : ∀ (p : Prop) [Decidable p] (x : List Wd), (if p then ([] : List (List Wd)) else [x]).length ≤ 1 := fun p _ x => by split <;> simp
    have a := this (c.tt = 0) [TOTAL, digI c.tt]
    have b := this (c.pe = 0) [PERIOD, digI c.pe]
    have d := this (c.pr = 0) [SEATS, digI c.pr, digI c.mo]
    omega
  have h2 : ∀ {l p : List Sm}, allM p l = true → ((l.map schW).flatten).length ≤ l.length * 9 := by
    intro l
    induction l with
    | nil => intro p _; simp
    | cons x r ih =>
      intro p hp
      simp only [allM, Bool.and_eq_true] at hp
      have := ih hp.2.2
      have hx := hp.1
      simp only [smOK, Bool.and_eq_true, decide_eq_true_eq] at hx
      have := hx.2.2.2.2.1
      simp only [List.map_cons, List.flatten_cons, List.length_append, List.length_cons, schW, List.length_map]
      omega
  have h3 := h2 z9
  unfold cfW
  simp only [List.length_append, List.length_map]
  omega
end Go.Proofs.YtflpgbkdjelaaaaDoor

