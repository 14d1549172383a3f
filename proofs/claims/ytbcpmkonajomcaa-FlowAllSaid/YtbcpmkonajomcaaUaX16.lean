/- What a row's reading of data of these types says. -/
import Derived.Test.YtbcpmkonajomcaaUaX15
import Derived.Test.YtbcpmkonajomcaaUaQ
namespace Go.Proofs.Ytbcpmkonajomcaa
open Go Go.Proofs Go.Ua
set_option linter.unusedVariables false

theorem strs_of {f : Nat} {es : List Dat} (h : ∀ x, x ∈ es → ∃ l', x = oneD (aggAt tab 9) l' ∧ typed tab (f + 1) 9 l') : ∃ gs, es = strs gs := by
  induction es with
  | nil => exact ⟨[], rfl⟩
  | cons x es ih =>
    obtain ⟨gs, rfl⟩ := ih fun x hx => h x (List.mem_cons_of_mem _ hx)
    obtain ⟨l', rfl, s, rfl, _⟩ := h x (by simp)
    exact ⟨s :: gs, rfl⟩

theorem typed_strs {f : Nat} {l : List Dat} (h : typed tab (f + 2) 23 l) : ∃ gs, l = [.view 1 (strs gs)] := by
  obtain ⟨es, rfl, _, hes⟩ := h
  obtain ⟨gs, rfl⟩ := strs_of hes
  exact ⟨gs, rfl⟩

theorem len5 {α : Type} {l : List α} (h : l.length = 5) : ∃ a b c d e, l = [a, b, c, d, e] := by
  match l, h with
  | [a, b, c, d, e], _ => exact ⟨a, b, c, d, e, rfl⟩
theorem len6 {α : Type} {l : List α} (h : l.length = 6) : ∃ a b c d e f, l = [a, b, c, d, e, f] := by
  match l, h with
  | [a, b, c, d, e, f], _ => exact ⟨a, b, c, d, e, f, rfl⟩

theorem typed_req {f : Nat} {l : List Dat} (h : typed tab (f + 4) 25 l) : ∃ q : ReqF, l = reqCells q := by
  obtain ⟨ls, hlen, rfl, hall⟩ := h
  obtain ⟨a, b, c, d, e, f, rfl⟩ := len6 hlen
  obtain ⟨s0, rfl, _⟩ := hall 0 (0, 9) a rfl rfl
  obtain ⟨gs, rfl⟩ := typed_strs (hall 1 (1, 23) b rfl rfl)
  obtain ⟨s2, rfl, _⟩ := hall 2 (2, 9) c rfl rfl
  obtain ⟨s3, rfl, _⟩ := hall 3 (3, 9) d rfl rfl
  obtain ⟨s4, rfl, _⟩ := hall 4 (4, 9) e rfl rfl
  obtain ⟨n, rfl, _⟩ := hall 5 (5, 3) f rfl rfl
  exact ⟨⟨s0, gs, s2, s3, s4, n⟩, rfl⟩

theorem typed_rule {f : Nat} {l : List Dat} (h : typed tab (f + 3) 52 l) : ∃ r : RuleF, Dat.agg l = ruleD r := by
  obtain ⟨ls, hlen, rfl, hall⟩ := h
  obtain ⟨a, b, c, d, e, rfl⟩ := len5 hlen
  obtain ⟨s0, rfl⟩ := typed_strs (hall 0 (0, 23) a rfl rfl)
  obtain ⟨s1, rfl⟩ := typed_strs (hall 1 (1, 23) b rfl rfl)
  obtain ⟨s2, rfl⟩ := typed_strs (hall 2 (2, 23) c rfl rfl)
  obtain ⟨s3, rfl⟩ := typed_strs (hall 3 (3, 23) d rfl rfl)
  obtain ⟨s4, rfl⟩ := typed_strs (hall 4 (4, 23) e rfl rfl)
  exact ⟨⟨s0, s1, s2, s3, s4⟩, rfl⟩

theorem rules_of {f : Nat} {es : List Dat} (h : ∀ x, x ∈ es → ∃ l', x = oneD (aggAt tab 52) l' ∧ typed tab (f + 3) 52 l') : ∃ gs, es = ruleDs gs := by
  induction es with
  | nil => exact ⟨[], rfl⟩
  | cons x es ih =>
    obtain ⟨gs, rfl⟩ := ih fun x hx => h x (List.mem_cons_of_mem _ hx)
    obtain ⟨l', rfl, ht⟩ := h x (by simp)
    obtain ⟨r, hr⟩ := typed_rule ht
    exact ⟨r :: gs, by rw [show oneD (aggAt tab 52) l' = .agg l' from rfl, hr]; rfl⟩

theorem typed_schema {f : Nat} {l : List Dat} (h : typed tab (f + 5) 46 l) : ∃ s : SchemaF, Dat.agg l = s.dat := by
  obtain ⟨ls, hlen, rfl, hall⟩ := h
  obtain ⟨a, b, c, d, e, rfl⟩ := len5 hlen
  obtain ⟨s0, rfl, _⟩ := hall 0 (0, 9) a rfl rfl
  obtain ⟨s1, rfl, _⟩ := hall 1 (1, 9) b rfl rfl
  obtain ⟨n2, rfl, _⟩ := hall 2 (2, 3) c rfl rfl
  obtain ⟨n3, rfl, _⟩ := hall 3 (3, 3) d rfl rfl
  obtain ⟨es, rfl, _, hes⟩ := hall 4 (4, 44) e rfl rfl
  obtain ⟨rs, rfl⟩ := rules_of hes
  exact ⟨⟨s0, s1, n2, n3, rs⟩, rfl⟩

theorem schemas_of {f : Nat} {es : List Dat} (h : ∀ x, x ∈ es → ∃ l', x = oneD (aggAt tab 46) l' ∧ typed tab (f + 5) 46 l') : ∃ gs, es = schemaDs gs := by
  induction es with
  | nil => exact ⟨[], rfl⟩
  | cons x es ih =>
    obtain ⟨gs, rfl⟩ := ih fun x hx => h x (List.mem_cons_of_mem _ hx)
    obtain ⟨l', rfl, ht⟩ := h x (by simp)
    obtain ⟨r, hr⟩ := typed_schema ht
    exact ⟨r :: gs, by rw [show oneD (aggAt tab 46) l' = .agg l' from rfl, hr]; rfl⟩

theorem typed_schemas {f : Nat} {l : List Dat} (h : typed tab (f + 6) 22 l) : ∃ gs, l = [.view 5 (schemaDs gs)] := by
  obtain ⟨es, rfl, _, hes⟩ := h
  obtain ⟨gs, rfl⟩ := schemas_of hes
  exact ⟨gs, rfl⟩
end Go.Proofs.Ytbcpmkonajomcaa
