/- Digits in order: plain laws. -/
import Derived.Test.YtialapjchamkfaaDoorUaEight13
namespace Go.Proofs.YtialapjchamkfaaDoor
open Go Go.Proofs Go.Ua Go.Extern
set_option linter.unusedVariables false
set_option linter.unusedSimpArgs false

theorem asymm8 : ∀ {x y : List UInt8}, x < y → ¬ y < x
  | [], [], h => absurd h (by simp)
  | [], _ :: _, _ => by simp
  | _ :: _, [], h => absurd h (by simp)
  | a :: x, b :: y, h => by
    rw [List.cons_lt_cons_iff] at h ⊢
    rintro (h2 | ⟨rfl, h2⟩)
    · rcases h with h | ⟨rfl, _⟩
      · rw [UInt8.lt_iff_toNat_lt] at h h2; omega
      · rw [UInt8.lt_iff_toNat_lt] at h2; omega
    · rcases h with h | ⟨_, h⟩
      · rw [UInt8.lt_iff_toNat_lt] at h; omega
      · exact asymm8 h h2

theorem snoc_lt : ∀ {x y : List UInt8} {c d : UInt8}, x.length = y.length → ((x ++ [c]) < (y ++ [d]) ↔ x < y ∨ (x = y ∧ c < d))
  | [], [], c, d, _ => by simp [List.cons_lt_cons_iff]
  | [], _ :: _, _, _, h => by simp at h
  | _ :: _, [], _, _, h => by simp at h
  | a :: x, b :: y, c, d, h => by
    have ih := snoc_lt (x := x) (y := y) (c := c) (d := d) (by simpa using h)
    simp only [List.cons_append, List.cons_lt_cons_iff, ih, List.cons.injEq]
    constructor
    · rintro (g | ⟨rfl, g | ⟨rfl, g⟩⟩)
      · exact .inl (.inl g)
      · exact .inl (.inr ⟨rfl, g⟩)
      · exact .inr ⟨⟨rfl, rfl⟩, g⟩
    · rintro ((g | ⟨rfl, g⟩) | ⟨⟨rfl, rfl⟩, g⟩)
      · exact .inl g
      · exact .inr ⟨rfl, .inl g⟩
      · exact .inr ⟨rfl, .inr ⟨rfl, g⟩⟩

def before (a b : List UInt8) : Prop := a.length < b.length ∨ (a.length = b.length ∧ a < b)

theorem dig_small {n : Nat} (h : n < 10) : Lib.decDigits n = [UInt8.ofNat (48 + n)] := by rw [Lib.decDigits, dif_pos h]
theorem dig_big {n : Nat} (h : ¬ n < 10) : Lib.decDigits n = Lib.decDigits (n / 10) ++ [UInt8.ofNat (48 + n % 10)] := by rw [Lib.decDigits, dif_neg h]
theorem dig_pos (n : Nat) : 1 ≤ (Lib.decDigits n).length := by
  by_cases h : n < 10
  · rw [dig_small h]; simp
  · rw [dig_big h]; simp
theorem d8_lt {a b : Nat} (ha : a < 10) (hb : b < 10) : UInt8.ofNat (48 + a) < UInt8.ofNat (48 + b) ↔ a < b := by
  rw [UInt8.lt_iff_toNat_lt]
  simp
  omega

theorem before_of_lt : ∀ (m n : Nat), n < m → before (Lib.decDigits n) (Lib.decDigits m) := by
  intro m
  induction m using Nat.strongRecOn with
  | _ m ih =>
    intro n h
    by_cases hm : m < 10
    · have hn : n < 10 := by omega
      rw [dig_small hm, dig_small hn]
      refine .inr ⟨rfl, ?_⟩
      rw [List.cons_lt_cons_iff]
      exact .inl ((d8_lt hn hm).2 h)
    · rw [dig_big hm]
      by_cases hn : n < 10
      · rw [dig_small hn]
        refine .inl ?_
        have := dig_pos (m / 10)
        simp; omega
      · rw [dig_big hn]
        rcases Nat.lt_or_ge (n / 10) (m / 10) with h1 | h1
        · rcases ih (m / 10) (by omega) (n / 10) h1 with h2 | ⟨h2, h3⟩
          · exact .inl (by simp; omega)
          · exact .inr ⟨by simp [h2], (snoc_lt h2).2 (.inl h3)⟩
        · have e : n / 10 = m / 10 := by omega
          rw [e]
          exact .inr ⟨by simp, (snoc_lt rfl).2 (.inr ⟨rfl, (d8_lt (by omega) (by omega)).2 (by omega)⟩)⟩

theorem before_asymm {a b : List UInt8} (h : before a b) : ¬ before b a := by
  rintro (h2 | ⟨h2, h3⟩)
  · rcases h with h | ⟨h, _⟩ <;> omega
  · rcases h with h | ⟨_, h⟩
    · omega
    · exact asymm8 h h3
theorem before_irrefl (a : List UInt8) : ¬ before a a := fun h => before_asymm h h

theorem before_iff (n m : Nat) : n < m ↔ before (Lib.decDigits n) (Lib.decDigits m) := by
  refine ⟨before_of_lt m n, fun h => ?_⟩
  rcases Nat.lt_trichotomy n m with h1 | h1 | h1
  · exact h1
  · subst h1; exact absurd h (before_irrefl _)
  · exact absurd h (before_asymm (before_of_lt n m h1))
theorem dig_inj {n m : Nat} (h : Lib.decDigits n = Lib.decDigits m) : n = m := by
  rcases Nat.lt_trichotomy n m with h1 | h1 | h1
  · have := before_of_lt m n h1; rw [h] at this; exact absurd this (before_irrefl _)
  · exact h1
  · have := before_of_lt n m h1; rw [h] at this; exact absurd this (before_irrefl _)
end Go.Proofs.YtialapjchamkfaaDoor
