/- The library of this claim and its walks, part 25, joined out of smaller texts. No statement stands in it. -/
import Derived.Test.YtljidkmppeaecaaDoorUaM22
import Derived.Test.YtljidkmppeaecaaDoorUaM24
import Derived.Lib.FieldsP
/- The pieces between blanks, rune by rune, are those byte by byte. A library of this claim's own: no statement stands in it. -/
namespace Go.Ua
open Go Go.Proofs Go.Lib
set_option linter.unusedVariables false
set_option linter.unusedSimpArgs false

def blank32 (x : Nat) : Bool := (x : Int) == 32
def words32 (s : List UInt8) : List (List UInt8) := (cutF 32 s).filter fun p => !(p == [])

theorem cut_none {c : UInt8} : ∀ {s : List UInt8}, c ∉ s → cutF c s = [s]
  | [], _ => rfl
  | b :: r, h => by
    have h1 : ¬ b = c := fun e => h (by rw [e]; simp)
    have ih := cut_none (s := r) fun hm => h (List.mem_cons_of_mem _ hm)
    unfold cutF
    rw [if_neg h1, ih]
theorem cut_app {c : UInt8} : ∀ {p : List UInt8} (r : List UInt8), c ∉ p → cutF c (p ++ c :: r) = p :: cutF c r
  | [], r, _ => by simp [cutF]
  | b :: p, r, h => by
    have h1 : ¬ b = c := fun e => h (by rw [e]; simp)
    have ih := cut_app (p := p) r fun hm => h (List.mem_cons_of_mem _ hm)
    show cutF c (b :: (p ++ c :: r)) = _
    rw [show cutF c (b :: (p ++ c :: r)) = (if b = c then [] :: cutF c (p ++ c :: r) else match cutF c (p ++ c :: r) with
      | p :: ps => (b :: p) :: ps
      | [] => [[b]]) from rfl, if_neg h1, ih]
theorem words_none {p : List UInt8} (h : (32 : UInt8) ∉ p) : words32 p = if p = [] then [] else [p] := by
  unfold words32
  rw [cut_none h]
  by_cases e : p = []
  · subst e; rfl
  · rw [if_neg e]
    simp [e]
theorem words_app {p : List UInt8} (r : List UInt8) (h : (32 : UInt8) ∉ p) : words32 (p ++ 32 :: r) = (if p = [] then [] else [p]) ++ words32 r := by
  unfold words32
  rw [cut_app r h]
  by_cases e : p = []
  · subst e; rfl
  · rw [if_neg e]
    simp [e]

theorem dec32 (n b0 b1 b2 b3 : Nat) (hn : 1 ≤ n) : ((decodeN n b0 b1 b2 b3).1 = 32 ↔ b0 = 32) ∧ ((decodeN n b0 b1 b2 b3).1 = 32 → (decodeN n b0 b1 b2 b3).2 = 1) ∧ 1 ≤ (decodeN n b0 b1 b2 b3).2 ∧ (decodeN n b0 b1 b2 b3).2 ≤ n ∧ (decodeN n b0 b1 b2 b3).2 ≤ 4 ∧
    (2 ≤ (decodeN n b0 b1 b2 b3).2 → 128 ≤ b1) ∧ (3 ≤ (decodeN n b0 b1 b2 b3).2 → 128 ≤ b2) ∧ (4 ≤ (decodeN n b0 b1 b2 b3).2 → 128 ≤ b3) := by
  unfold decodeN
  repeat' split
  all_goals
    refine ⟨?_, ?_, ?_, ?_, ?_, ?_, ?_, ?_⟩ <;> first | omega | (intros; omega) | (simp only; omega)

theorem get_at (s : ByteArray) (i : Nat) (h : i < s.data.toList.length) : (s.get! i) = s.data.toList[i] := by
  have : i < s.data.size := by simpa using h
  show s.data[i]! = _
  rw [getElem!_pos s.data i this]
  simp

theorem dec_at (s : ByteArray) (pos : Nat) (h : pos < s.size) : ((Utf8.decode s pos).1 = 32 ↔ s.data.toList[pos]? = some 32) ∧ ((Utf8.decode s pos).1 = 32 → (Utf8.decode s pos).2 = 1) ∧ 1 ≤ (Utf8.decode s pos).2 ∧ pos + (Utf8.decode s pos).2 ≤ s.size ∧
    ((Utf8.decode s pos).1 ≠ 32 → (32 : UInt8) ∉ (s.data.toList.drop pos).take (Utf8.decode s pos).2) := by
  have hl : s.data.toList.length = s.size := (size_eq s).symm
  have D := dec32 (s.size - pos) (s.get! pos).toNat (s.get! (pos + 1)).toNat (s.get! (pos + 2)).toNat (s.get! (pos + 3)).toNat (by omega)
  rw [← decode_at] at D
  obtain ⟨h1, h2, h3, h4, h5, h6, h7, h8⟩ := D
  have e0 : s.get! pos = s.data.toList[pos]'(by omega) := get_at s pos (by omega)
  have b0 : (s.get! pos).toNat = 32 ↔ s.data.toList[pos]? = some 32 := by
    rw [e0, List.getElem?_eq_getElem (by omega)]
    constructor
    · intro h
      rw [show s.data.toList[pos] = 32 from UInt8.toNat_inj.1 h]
    · intro h
      rw [Option.some.inj h]; rfl
  refine ⟨h1.trans b0, h2, h3, by omega, fun hne hm => ?_⟩
  obtain ⟨j, hj⟩ := List.mem_iff_getElem?.1 hm
  have hjk : j < (Utf8.decode s pos).2 := by
    have := (List.getElem?_eq_some_iff.1 hj).1
    simp at this; omega
  rw [List.getElem?_take_of_lt hjk, List.getElem?_drop] at hj
  have hjl : pos + j < s.data.toList.length := (List.getElem?_eq_some_iff.1 hj).1
  have ej : (s.get! (pos + j)).toNat = 32 := by
    rw [get_at s (pos + j) hjl]
    rw [List.getElem?_eq_getElem hjl] at hj
    rw [Option.some.inj hj]; rfl
  have : j = 0 ∨ j = 1 ∨ j = 2 ∨ j = 3 := by omega
  rcases this with rfl | rfl | rfl | rfl
  · exact hne (h1.2 ej)
  · have := h6 (by omega); omega
  · have := h7 (by omega); omega
  · have := h8 (by omega); omega

theorem spans32 (s : ByteArray) : ∀ (f pos : Nat) (st : Option Nat) (acc : List (Nat × Nat)), s.size ≤ pos + f → pos ≤ s.size → (∀ a, st = some a → a < pos) → (32 : UInt8) ∉ openPiece s.data.toList st pos →
    acc.map (fun p => pieceU s.data.toList p.1 p.2) ++ words32 (openPiece s.data.toList st pos ++ s.data.toList.drop pos) = (closeSpans s (spansFromP blank32 s f pos st acc)).map (fun p => pieceU s.data.toList p.1 p.2)
  | 0, pos, st, acc, h, hp, hst, hno => by
    obtain rfl : pos = s.size := by omega
    have hl : s.data.toList.length = s.size := (size_eq s).symm
    rw [List.drop_of_length_le (by omega), List.append_nil, words_none hno]
    cases st with
    | none => simp [spansFromP, closeSpans, openPiece]
    | some a =>
      have := pieceU_ne s.data.toList a s.size (hst a rfl) (by omega)
      simp [spansFromP, closeSpans, openPiece, this]
  | f + 1, pos, st, acc, h, hp, hst, hno => by
    have hl : s.data.toList.length = s.size := (size_eq s).symm
    by_cases hlt : pos < s.size
    · obtain ⟨d1, d2, d3, d4, d5⟩ := dec_at s pos hlt
      simp only [spansFromP, if_pos hlt]
      by_cases hb : (Utf8.decode s pos).1 = 32
      · have hk := d2 hb
        have hg := d1.1 hb
        have hd : s.data.toList.drop pos = 32 :: s.data.toList.drop (pos + 1) := by
          rw [List.drop_eq_getElem_cons (by omega)]
          rw [List.getElem?_eq_getElem (by omega)] at hg
          rw [Option.some.inj hg]
        have hbl : blank32 (Utf8.decode s pos).1 = true := by rw [hb]; rfl
        rw [if_pos hbl, hk, hd, words_app _ hno]
        cases st with
        | none =>
          have ih := spans32 s f (pos + 1) none acc (by omega) (by omega) (fun a h => by cases h) (by simp [openPiece])
          simpa [openPiece] using ih
        | some a =>
          have hpn := pieceU_ne s.data.toList a pos (hst a rfl) (by omega)
          have ih := spans32 s f (pos + 1) none (acc ++ [(a, pos)]) (by omega) (by omega) (fun a h => by cases h) (by simp [openPiece])
          simpa [openPiece, hpn] using ih
      · have hbl : blank32 (Utf8.decode s pos).1 = false := by
          unfold blank32
          rw [beq_eq_false_iff_ne]
          omega
        have hch := d5 hb
        obtain ⟨k, hk⟩ : ∃ k, k = (Utf8.decode s pos).2 := ⟨_, rfl⟩
        rw [hbl, ← hk]
        rw [← hk] at d3 d4 hch
        simp only [Bool.false_eq_true, if_false]
        have hsp : s.data.toList.drop pos = (s.data.toList.drop pos).take k ++ s.data.toList.drop (pos + k) := by
          rw [← List.drop_drop, List.take_append_drop]
        have go : ∀ a, a ≤ pos → pieceU s.data.toList a pos = openPiece s.data.toList st pos → (32 : UInt8) ∉ pieceU s.data.toList a (pos + k) ∧ openPiece s.data.toList st pos ++ s.data.toList.drop pos = pieceU s.data.toList a (pos + k) ++ s.data.toList.drop (pos + k) := by
          intro a ha hpc
          have hg := pieceU_grow s.data.toList a pos k ha
          refine ⟨?_, ?_⟩
          · rw [← hg, hpc]
            simp only [List.mem_append, not_or]
            exact ⟨hno, hch⟩
          · rw [← hg, hpc, List.append_assoc, ← hsp]
        cases st with
        | none =>
          obtain ⟨g1, g2⟩ := go pos (Nat.le_refl _) (by simp [pieceU, openPiece])
          have ih := spans32 s f (pos + k) (some pos) acc (by omega) (by omega) (fun a h => by cases h; omega) g1
          rw [g2]
          exact ih
        | some a =>
          obtain ⟨g1, g2⟩ := go a (Nat.le_of_lt (hst a rfl)) rfl
          have ih := spans32 s f (pos + k) (some a) acc (by omega) (by omega) (fun b h => by cases h; have := hst a rfl; omega) g1
          rw [g2]
          exact ih
    · obtain rfl : pos = s.size := by omega
      rw [List.drop_of_length_le (by omega), List.append_nil, words_none hno, spansFromP_end _ s _ _ _ _ hlt]
      cases st with
      | none => simp [closeSpans, openPiece]
      | some a =>
        have := pieceU_ne s.data.toList a s.size (hst a rfl) (by omega)
        simp [closeSpans, openPiece, this]

theorem fields32_eq (s : List UInt8) : (goFieldsP blank32 ⟨s.toArray⟩).map (·.data.toList) = words32 s := by
  have h := spans32 ⟨s.toArray⟩ (ByteArray.size ⟨s.toArray⟩) 0 none [] (by omega) (by omega) (fun a h => by cases h) (by simp [openPiece])
  simp only [List.map_nil, List.nil_append, openPiece, List.drop_zero] at h
  refine Eq.trans ?_ h.symm
  unfold goFieldsP spansOfP
  rw [List.map_map]
  refine List.map_congr_left fun x _ => ?_
  simp only [Function.comp_apply]
  unfold pieceU
  rw [ByteArray.data_extract]
  simp [Array.toList_extract, List.extract_eq_take_drop]
end Go.Ua

/- The reference's lists, read and joined. -/
namespace Go.Proofs.YtljidkmppeaecaaDoor
open Go Go.Proofs Go.Ua Go.Extern
set_option linter.unusedVariables false
set_option linter.unusedSimpArgs false
set_option maxRecDepth 10000

theorem fields_words (s : List UInt8) : fieldsF s = wordsF s := fields32_eq s
theorem WordsT_spec (s : List UInt8) (h : le32 s = true) : ESpec Tryd.prog 19 [.d (.s (.str s))] (fun x => x = .d (.view 1 (strDs (wordsF s)))) := by
  have hs : s.length < 4294967281 := of_decide_eq_true h
  have hm : maxLen = 9223372036854775807 := by decide
  have := WordsV_spec s (by omega) (fun p hp => by
    rw [fields_words] at hp
    have := cutF_all (List.mem_filter.1 hp).1
    omega)
  rwa [fields_words] at this
def φWords (p : List UInt8 → Bool) (u : List UInt8 → List Dat) : List AV → Option (Bool × AV)
  | [.d (.s (.str w))] => some (p w, .d (.view 1 (u w)))
  | _ => none
theorem φWords_ok : SpOK Tryd.prog 19 (φWords (le32) (fun w => strDs (wordsF w))) := by
  intro xs b x h hb
  unfold φWords at h
  split at h
  · simp only [Option.some.injEq, Prod.mk.injEq] at h
    obtain ⟨rfl, rfl⟩ := h
    exact WordsT_spec _ hb
  · cases h

end Go.Proofs.YtljidkmppeaecaaDoor

