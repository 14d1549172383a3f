/- strings.Split. -/
import Derived.Test.YtialapjchamkfaaDoorUaEight5
import Derived.Test.YtialapjchamkfaaDoorUaS
namespace Go.Proofs.YtialapjchamkfaaDoor
open Go Go.Proofs Go.Ua Go.Extern
set_option linter.unusedVariables false
set_option linter.unusedSimpArgs false

theorem below_alloc (w : World) (o : Obj) : RowKit.Below w.heap.size w (w.alloc o) :=
  (RowKit.Below.refl _ w).alloc (Nat.le_refl _) o
theorem heap_alloc_at (w : World) (o : Obj) : (w.alloc o).heap[w.heap.size]? = some o := by
  show (w.heap.push o)[w.heap.size]? = some o
  simp

theorem Split_spec (s : List UInt8) (c : UInt8) (hs : s.length < 4294967281) :
    ASpec Tryd.prog 33 [.d (.s (.str s)), .d (.s (.str [c]))] [] 0 (fun x h' fr' => x = .row 0 1 ∧ h' = [(0, .ds 9 1 (strDs (cutF c s)))] ∧ fr' = 1) := by
  have hm : maxLen = 9223372036854775807 := by decide
  refine ASpec.rowStrs (enters_of Tryd.func33 (by kernel_rfl) rfl) (fun p hp => by have := cutF_all hp; omega) fun R ι vs w hR hG hl hr => ?_
  obtain ⟨v0, v1, rfl⟩ : ∃ v0 v1, vs = [v0, v1] := by
    match vs, hl with
    | [v0, v1], _ => exact ⟨v0, v1, rfl⟩
  obtain rfl := rep_s (hr 0 _ _ rfl rfl)
  obtain rfl := rep_s (hr 1 _ _ rfl rfl)
  obtain ⟨cs, t, fz, ⟨m, hm0⟩, hb⟩ := hG 0 _ (Or.inr (Or.inl ⟨rfl, rfl⟩))
  have hcell : w.cell? ⟨0, 0, none⟩ = some (.int .i64 m) := by
    unfold World.cell?
    rw [hb]
    simpa using hm0
  have hlen : Lib.countB ⟨s.toArray⟩ ⟨#[c]⟩ + 1 = (cutF c s).length := by
    rw [cutF_len]
    show Lib.count s [c] + 1 = _
    rw [Lib.count_one]
  have hcnt : (cutF c s).length ≤ 4294967281 := by
    rw [cutF_len]
    have := List.count_le_length (a := c) (l := s)
    omega
  refine (Tryd.strings_Split ⟨s.toArray⟩ ⟨#[c]⟩ m w (by rw [str_size]; exact hs) hcell (by show 1 ≤ 1; decide)).mono ?_
  rintro e w' ⟨rfl, rfl⟩
  have hxs : (cutF c s).map (fun p => Value.string ⟨p.toArray⟩) = (Lib.splitB ⟨#[c]⟩ 0 (Lib.countB ⟨s.toArray⟩ ⟨#[c]⟩) ⟨s.toArray⟩).map Value.string := by
    rw [← splitB_cut, List.map_map]
    refine List.map_congr_left fun b _ => ?_
    simp
  rw [← hxs, hlen]
  refine ⟨_, rfl, ⟨by simp, .inr ⟨w.heap.size, _, _, rfl, Nat.le_refl _, heap_alloc_at _ _, Nat.le_refl _, by omega, by simp, ?_⟩⟩, below_alloc _ _⟩
  simp only [Nat.mul_one]
  exact List.take_of_length_le (by simp)

end Go.Proofs.YtialapjchamkfaaDoor
