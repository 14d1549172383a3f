/- Plain laws of texts: cutting at a byte. A library of this claim's own: no statement stands in it. -/
import Derived.Test.YtialapjchamkfaaDoorUaL
import Derived.Lib.SplitLaws
import Derived.Lib.IndexBytes
namespace Go.Ua
open Go Go.Proofs
set_option linter.unusedVariables false
set_option linter.unusedSimpArgs false

/-- The pieces between bytes of one kind. -/
def cutF (c : UInt8) : List UInt8 → List (List UInt8)
  | [] => [[]]
  | b :: r => if b = c then [] :: cutF c r else match cutF c r with
    | p :: ps => (b :: p) :: ps
    | [] => [[b]]

theorem cutF_ne (c : UInt8) (s : List UInt8) : cutF c s ≠ [] := by
  cases s with
  | nil => simp [cutF]
  | cons b r =>
    unfold cutF
    split
    · simp
    · split <;> simp

theorem cutF_index (c : UInt8) : ∀ s : List UInt8, (Lib.indexByte s c = -1 → cutF c s = [s] ∧ s.count c = 0) ∧
    (∀ i : Nat, Lib.indexByte s c = i → cutF c s = s.take i :: cutF c (s.drop (i + 1)) ∧ s.count c = (s.drop (i + 1)).count c + 1)
  | [] => ⟨fun _ => ⟨rfl, rfl⟩, fun i h => by simp [Lib.indexByte] at h⟩
  | b :: l => by
    obtain ⟨h1, h2⟩ := cutF_index c l
    have hge := Lib.indexByte_ge l c
    unfold Lib.indexByte
    rw [show cutF c (b :: l) = (if b = c then [] :: cutF c l else match cutF c l with
      | p :: ps => (b :: p) :: ps
      | [] => [[b]]) from rfl]
    by_cases e : b = c
    · subst e
      simp only [beq_self_eq_true, if_true]
      refine ⟨fun h => absurd h (by decide), fun i h => ?_⟩
      obtain rfl : i = 0 := by omega
      simp
    · have e' : (b == c) = false := by simpa using e
      rw [e', if_neg (by simp), if_neg e]
      by_cases e3 : Lib.indexByte l c = -1
      · obtain ⟨g1, g2⟩ := h1 e3
        rw [e3, g1]
        refine ⟨fun _ => ⟨rfl, by rw [List.count_cons, g2, e']; rfl⟩, fun i h => ?_⟩
        simp at h
      · obtain ⟨j, hj⟩ : ∃ j : Nat, Lib.indexByte l c = j := ⟨(Lib.indexByte l c).toNat, by omega⟩
        obtain ⟨g1, g2⟩ := h2 j hj
        have e3' : (Lib.indexByte l c == -1) = false := by simpa using e3
        rw [e3', if_neg (by simp), g1, hj]
        refine ⟨fun h => by omega, fun i h => ?_⟩
        obtain rfl : i = j + 1 := by omega
        refine ⟨by simp, ?_⟩
        rw [List.count_cons, e', g2]
        simp

theorem splitK_cut (c : UInt8) : ∀ (k : Nat) (s : List UInt8), s.count c = k → Lib.splitK [c] 0 k s = cutF c s
  | 0, s, h => by
    unfold Lib.splitK
    by_cases e : Lib.indexByte s c = -1
    · rw [((cutF_index c s).1 e).1]
    · have hge := Lib.indexByte_ge s c
      obtain ⟨j, hj⟩ : ∃ j : Nat, Lib.indexByte s c = j := ⟨(Lib.indexByte s c).toNat, by omega⟩
      have := ((cutF_index c s).2 j hj).2
      omega
  | k + 1, s, h => by
    have hge := Lib.indexByte_ge s c
    by_cases e : Lib.indexByte s c = -1
    · have := ((cutF_index c s).1 e).2
      omega
    · obtain ⟨j, hj⟩ : ∃ j : Nat, Lib.indexByte s c = j := ⟨(Lib.indexByte s c).toNat, by omega⟩
      obtain ⟨g1, g2⟩ := (cutF_index c s).2 j hj
      unfold Lib.splitK
      have e' : (Lib.index s [c] == -1) = false := by rw [Lib.index_one]; simpa using e
      rw [e', if_neg (by simp), Lib.index_one, hj, g1]
      simp only [Int.toNat_natCast, Nat.add_zero, List.length_singleton]
      rw [splitK_cut c k _ (by omega)]

theorem splitB_cut (c : UInt8) (s : List UInt8) : (Lib.splitB ⟨#[c]⟩ 0 (Lib.countB ⟨s.toArray⟩ ⟨#[c]⟩) ⟨s.toArray⟩).map (·.data.toList) = cutF c s := by
  rw [Lib.splitB_data]
  have hc : Lib.countB ⟨s.toArray⟩ ⟨#[c]⟩ = s.count c := by
    show Lib.count s [c] = _
    exact Lib.count_one c s
  rw [hc]
  show Lib.splitK [c] 0 (s.count c) s = _
  exact splitK_cut c _ s rfl

theorem cutF_all {c : UInt8} : ∀ {s p : List UInt8}, p ∈ cutF c s → p.length ≤ s.length
  | [], p, h => by simp [cutF] at h; subst h; simp
  | b :: r, p, h => by
    unfold cutF at h
    split at h
    · rcases List.mem_cons.1 h with rfl | h
      · simp
      · have := cutF_all h
        simp; omega
    · cases hr : cutF c r with
      | nil => exact absurd hr (cutF_ne c r)
      | cons q qs =>
        rw [hr] at h
        rcases List.mem_cons.1 h with rfl | h
        · have := cutF_all (c := c) (s := r) (p := q) (by rw [hr]; simp)
          simp; omega
        · have := cutF_all (c := c) (s := r) (p := p) (by rw [hr]; exact List.mem_cons_of_mem _ h)
          simp; omega
theorem cutF_len (c : UInt8) : ∀ s : List UInt8, (cutF c s).length = s.count c + 1
  | [] => rfl
  | b :: r => by
    have := cutF_len c r
    unfold cutF
    split
    · rename_i e
      subst e
      simp [this]
    · rename_i e
      cases hr : cutF c r with
      | nil => exact absurd hr (cutF_ne c r)
      | cons q qs =>
        rw [hr] at this
        simp only [List.length_cons] at this ⊢
        rw [List.count_cons, this]
        simp [e]
end Go.Ua
