/- The library of this claim and its walks, part 17, joined out of smaller texts. No statement stands in it. -/
import Derived.Test.YtialapjchamkfaaDoorUaM16
import Derived.Lib.FieldsP
/- The pieces between blanks, rune by rune, are those byte by byte. A library of this claim's own: no statement stands in it. -/
namespace Go.Ua
open Go Go.Proofs Go.Lib
set_option linter.unusedVariables false
set_option linter.unusedSimpArgs false

def blank32 (x : Nat) : Bool := (x : Int) == 32
def words32 (s : List UInt8) : List (List UInt8) := (cutF 32 s).filter fun p => !(p == [])

theorem cut_none {c : UInt8} : ∀ {s : List UInt8}, c ∉ s → cutF c s = [s]
  | [], _ => rfl
  | b :: r, h => by
    have h1 : ¬ b = c := fun e => h (by rw [e]; simp)
    have ih := cut_none (s := r) fun hm => h (List.mem_cons_of_mem _ hm)
    unfold cutF
    rw [if_neg h1, ih]
theorem cut_app {c : UInt8} : ∀ {p : List UInt8} (r : List UInt8), c ∉ p → cutF c (p ++ c :: r) = p :: cutF c r
  | [], r, _ => by simp [cutF]
  | b :: p, r, h => by
    have h1 : ¬ b = c := fun e => h (by rw [e]; simp)
    have ih := cut_app (p := p) r fun hm => h (List.mem_cons_of_mem _ hm)
    show cutF c (b :: (p ++ c :: r)) = _
    rw [show cutF c (b :: (p ++ c :: r)) = (if b = c then [] :: cutF c (p ++ c :: r) else match cutF c (p ++ c :: r) with
      | p :: ps => (b :: p) :: ps
      | [] => [[b]]) from rfl, if_neg h1, ih]
theorem words_none {p : List UInt8} (h : (32 : UInt8) ∉ p) : words32 p = if p = [] then [] else [p] := by
  unfold words32
  rw [cut_none h]
  by_cases e : p = []
  · subst e; rfl
  · rw [if_neg e]
    simp [e]
theorem words_app {p : List UInt8} (r : List UInt8) (h : (32 : UInt8) ∉ p) : words32 (p ++ 32 :: r) = (if p = [] then [] else [p]) ++ words32 r := by
  unfold words32
  rw [cut_app r h]
  by_cases e : p = []
  · subst e; rfl
  · rw [if_neg e]
    simp [e]

theorem dec32 (n b0 b1 b2 b3 : Nat) (hn : 1 ≤ n) : ((decodeN n b0 b1 b2 b3).1 = 32 ↔ b0 = 32) ∧ ((decodeN n b0 b1 b2 b3).1 = 32 → (decodeN n b0 b1 b2 b3).2 = 1) ∧ 1 ≤ (decodeN n b0 b1 b2 b3).2 ∧ (decodeN n b0 b1 b2 b3).2 ≤ n ∧ (decodeN n b0 b1 b2 b3).2 ≤ 4 ∧
    (2 ≤ (decodeN n b0 b1 b2 b3).2 → 128 ≤ b1) ∧ (3 ≤ (decodeN n b0 b1 b2 b3).2 → 128 ≤ b2) ∧ (4 ≤ (decodeN n b0 b1 b2 b3).2 → 128 ≤ b3) := by
  unfold decodeN
  repeat' split
  all_goals
    refine ⟨?_, ?_, ?_, ?_, ?_, ?_, ?_, ?_⟩ <;> first | omega | (intros; omega) | (simp only; omega)

theorem get_at (s : ByteArray) (i : Nat) (h : i < s.data.toList.length) : (s.get! i) = s.data.toList[i] := by
  have : i < s.data.size := by simpa using h
  show s.data[i]! = _
  rw [getElem!_pos s.data i this]
  simp

theorem dec_at (s : ByteArray) (pos : Nat) (h : pos < s.size) : ((Utf8.decode s pos).1 = 32 ↔ s.data.toList[pos]? = some 32) ∧ ((Utf8.decode s pos).1 = 32 → (Utf8.decode s pos).2 = 1) ∧ 1 ≤ (Utf8.decode s pos).2 ∧ pos + (Utf8.decode s pos).2 ≤ s.size ∧
    ((Utf8.decode s pos).1 ≠ 32 → (32 : UInt8) ∉ (s.data.toList.drop pos).take (Utf8.decode s pos).2) := by
  have hl : s.data.toList.length = s.size := (size_eq s).symm
  have D := dec32 (s.size - pos) (s.get! pos).toNat (s.get! (pos + 1)).toNat (s.get! (pos + 2)).toNat (s.get! (pos + 3)).toNat (by omega)
  rw [← decode_at] at D
  obtain ⟨h1, h2, h3, h4, h5, h6, h7, h8⟩ := D
  have e0 : s.get! pos = s.data.toList[pos]'(by omega) := get_at s pos (by omega)
  have b0 : (s.get! pos).toNat = 32 ↔ s.data.toList[pos]? = some 32 := by
    rw [e0, List.getElem?_eq_getElem (by omega)]
    constructor
    · intro h
      rw [show s.data.toList[pos] = 32 from UInt8.toNat_inj.1 h]
    · intro h
      rw [Option.some.inj h]; rfl
  refine ⟨h1.trans b0, h2, h3, by omega, fun hne hm => ?_⟩
  obtain ⟨j, hj⟩ := List.mem_iff_getElem?.1 hm
  have hjk : j < (Utf8.decode s pos).2 := by
    have := (List.getElem?_eq_some_iff.1 hj).1
    simp at this; omega
  rw [List.getElem?_take_of_lt hjk, List.getElem?_drop] at hj
  have hjl : pos + j < s.data.toList.length := (List.getElem?_eq_some_iff.1 hj).1
  have ej : (s.get! (pos + j)).toNat = 32 := by
    rw [get_at s (pos + j) hjl]
    rw [List.getElem?_eq_getElem hjl] at hj
    rw [Option.some.inj hj]; rfl
  have : j = 0 ∨ j = 1 ∨ j = 2 ∨ j = 3 := by omega
  rcases this with rfl | rfl | rfl | rfl
  · exact hne (h1.2 ej)
  · have := h6 (by omega); omega
  · have := h7 (by omega); omega
  · have := h8 (by omega); omega

theorem spans32 (s : ByteArray) : ∀ (f pos : Nat) (st : Option Nat) (acc : List (Nat × Nat)), s.size ≤ pos + f → pos ≤ s.size → (∀ a, st = some a → a < pos) → (32 : UInt8) ∉ openPiece s.data.toList st pos →
    acc.map (fun p => pieceU s.data.toList p.1 p.2) ++ words32 (openPiece s.data.toList st pos ++ s.data.toList.drop pos) = (closeSpans s (spansFromP blank32 s f pos st acc)).map (fun p => pieceU s.data.toList p.1 p.2)
  | 0, pos, st, acc, h, hp, hst, hno => by
    obtain rfl : pos = s.size := by omega
    have hl : s.data.toList.length = s.size := (size_eq s).symm
    rw [List.drop_of_length_le (by omega), List.append_nil, words_none hno]
    cases st with
    | none => simp [spansFromP, closeSpans, openPiece]
    | some a =>
      have := pieceU_ne s.data.toList a s.size (hst a rfl) (by omega)
      simp [spansFromP, closeSpans, openPiece, this]
  | f + 1, pos, st, acc, h, hp, hst, hno => by
    have hl : s.data.toList.length = s.size := (size_eq s).symm
    by_cases hlt : pos < s.size
    · obtain ⟨d1, d2, d3, d4, d5⟩ := dec_at s pos hlt
      simp only [spansFromP, if_pos hlt]
      by_cases hb : (Utf8.decode s pos).1 = 32
      · have hk := d2 hb
        have hg := d1.1 hb
        have hd : s.data.toList.drop pos = 32 :: s.data.toList.drop (pos + 1) := by
          rw [List.drop_eq_getElem_cons (by omega)]
          rw [List.getElem?_eq_getElem (by omega)] at hg
          rw [Option.some.inj hg]
        have hbl : blank32 (Utf8.decode s pos).1 = true := by rw [hb]; rfl
        rw [if_pos hbl, hk, hd, words_app _ hno]
        cases st with
        | none =>
          have ih := spans32 s f (pos + 1) none acc (by omega) (by omega) (fun a h => by cases h) (by simp [openPiece])
          simpa [openPiece] using ih
        | some a =>
          have hpn := pieceU_ne s.data.toList a pos (hst a rfl) (by omega)
          have ih := spans32 s f (pos + 1) none (acc ++ [(a, pos)]) (by omega) (by omega) (fun a h => by cases h) (by simp [openPiece])
          simpa [openPiece, hpn] using ih
      · have hbl : blank32 (Utf8.decode s pos).1 = false := by
          unfold blank32
          rw [beq_eq_false_iff_ne]
          omega
        have hch := d5 hb
        obtain ⟨k, hk⟩ : ∃ k, k = (Utf8.decode s pos).2 := ⟨_, rfl⟩
        rw [hbl, ← hk]
        rw [← hk] at d3 d4 hch
        simp only [Bool.false_eq_true, if_false]
        have hsp : s.data.toList.drop pos = (s.data.toList.drop pos).take k ++ s.data.toList.drop (pos + k) := by
          rw [← List.drop_drop, List.take_append_drop]
        have go : ∀ a, a ≤ pos → pieceU s.data.toList a pos = openPiece s.data.toList st pos → (32 : UInt8) ∉ pieceU s.data.toList a (pos + k) ∧ openPiece s.data.toList st pos ++ s.data.toList.drop pos = pieceU s.data.toList a (pos + k) ++ s.data.toList.drop (pos + k) := by
          intro a ha hpc
          have hg := pieceU_grow s.data.toList a pos k ha
          refine ⟨?_, ?_⟩
          · rw [← hg, hpc]
            simp only [List.mem_append, not_or]
            exact ⟨hno, hch⟩
          · rw [← hg, hpc, List.append_assoc, ← hsp]
        cases st with
        | none =>
          obtain ⟨g1, g2⟩ := go pos (Nat.le_refl _) (by simp [pieceU, openPiece])
          have ih := spans32 s f (pos + k) (some pos) acc (by omega) (by omega) (fun a h => by cases h; omega) g1
          rw [g2]
          exact ih
        | some a =>
          obtain ⟨g1, g2⟩ := go a (Nat.le_of_lt (hst a rfl)) rfl
          have ih := spans32 s f (pos + k) (some a) acc (by omega) (by omega) (fun b h => by cases h; have := hst a rfl; omega) g1
          rw [g2]
          exact ih
    · obtain rfl : pos = s.size := by omega
      rw [List.drop_of_length_le (by omega), List.append_nil, words_none hno, spansFromP_end _ s _ _ _ _ hlt]
      cases st with
      | none => simp [closeSpans, openPiece]
      | some a =>
        have := pieceU_ne s.data.toList a s.size (hst a rfl) (by omega)
        simp [closeSpans, openPiece, this]

theorem fields32_eq (s : List UInt8) : (goFieldsP blank32 ⟨s.toArray⟩).map (·.data.toList) = words32 s := by
  have h := spans32 ⟨s.toArray⟩ (ByteArray.size ⟨s.toArray⟩) 0 none [] (by omega) (by omega) (fun a h => by cases h) (by simp [openPiece])
  simp only [List.map_nil, List.nil_append, openPiece, List.drop_zero] at h
  refine Eq.trans ?_ h.symm
  unfold goFieldsP spansOfP
  rw [List.map_map]
  refine List.map_congr_left fun x _ => ?_
  simp only [Function.comp_apply]
  unfold pieceU
  rw [ByteArray.data_extract]
  simp [Array.toList_extract, List.extract_eq_take_drop]
end Go.Ua

/- WordsCuts: the function returns true. -/
namespace Go.Proofs.YtialapjchamkfaaDoor
open Go Go.Proofs Go.Ua Go.Extern
set_option linter.unusedVariables false
set_option linter.unusedSimpArgs false

theorem fields_words (s : List UInt8) : fieldsF s = wordsF s := fields32_eq s
theorem WordsT_spec (s : List UInt8) (h : le32 s = true) : ESpec Tryd.prog 15 [.d (.s (.str s))] (fun x => x = .d (.view 1 (strDs (wordsF s)))) := by
  have hs : s.length < 4294967281 := of_decide_eq_true h
  have hm : maxLen = 9223372036854775807 := by decide
  have := WordsV_spec s (by omega) (fun p hp => by
    rw [fields_words] at hp
    have := cutF_all (List.mem_filter.1 hp).1
    omega)
  rwa [fields_words] at this
def φWords (p : List UInt8 → Bool) (u : List UInt8 → List Dat) : List AV → Option (Bool × AV)
  | [.d (.s (.str w))] => some (p w, .d (.view 1 (u w)))
  | _ => none
theorem φWords_ok : SpOK Tryd.prog 15 (φWords (le32) (fun w => strDs (wordsF w))) := by
  intro xs b x h hb
  unfold φWords at h
  split at h
  · simp only [Option.some.injEq, Prod.mk.injEq] at h
    obtain ⟨rfl, rfl⟩ := h
    exact WordsT_spec _ hb
  · cases h

theorem WordsCuts_spec (w : List UInt8) : ESpec Tryd.prog 3 [.d (.s (.str w))] (fun x => x = .d (.s (.bool true))) := by
  obtain ⟨uLines, huLines⟩ : ∃ u : List UInt8 → Bool, u = le32 := ⟨_, rfl⟩
  obtain ⟨uLines1, huLines1⟩ : ∃ u : List UInt8 → List Dat, u = fun w => strDs (linesF w) := ⟨_, rfl⟩
  obtain ⟨uRefLines, huRefLines⟩ : ∃ u : List UInt8 → Bool, u = le32 := ⟨_, rfl⟩
  obtain ⟨uRefLines1, huRefLines1⟩ : ∃ u : List UInt8 → List Dat, u = fun w => strDs (linesF w) := ⟨_, rfl⟩
  obtain ⟨uWords, huWords⟩ : ∃ u : List UInt8 → Bool, u = le32 := ⟨_, rfl⟩
  obtain ⟨uWords1, huWords1⟩ : ∃ u : List UInt8 → List Dat, u = fun w => strDs (wordsF w) := ⟨_, rfl⟩
  obtain ⟨uRefWords, huRefWords⟩ : ∃ u : List UInt8 → Bool, u = le32 := ⟨_, rfl⟩
  obtain ⟨uRefWords1, huRefWords1⟩ : ∃ u : List UInt8 → List Dat, u = fun w => strDs (wordsF w) := ⟨_, rfl⟩
  obtain ⟨uSame, huSame⟩ : ∃ u : List Dat → List Dat → Bool, u = fun l m => isStrs l && isStrs m := ⟨_, rfl⟩
  obtain ⟨uSame1, huSame1⟩ : ∃ u : List Dat → List Dat → Bool, u = fun l m => decide (unStr l = unStr m) := ⟨_, rfl⟩
  have hG : TblOK Tryd.prog [(11, φAwake ), (13, φLines uLines uLines1), (14, φRefLines uRefLines uRefLines1), (15, φWords uWords uWords1), (16, φRefWords uRefWords uRefWords1), (12, φSame uSame uSame1)] := ⟨φAwake_ok, (by rw [huLines, huLines1]; exact φLines_ok), (by rw [huRefLines, huRefLines1]; exact φRefLines_ok), (by rw [huWords, huWords1]; exact φWords_ok), (by rw [huRefWords, huRefWords1]; exact φRefWords_ok), (by rw [huSame, huSame1]; exact φSame_ok), trivial⟩
  have e1 : uSame (uLines1 w) (uRefLines1 w) = true := by subst huLines huLines1 huRefLines huRefLines1 huWords huWords1 huRefWords huRefWords1 huSame huSame1; show (isStrs (strDs _) && isStrs (strDs _)) = true; simp only [isStrs_strDs]; rfl
  have e2 : uSame1 (uLines1 w) (uRefLines1 w) = true := by subst huLines huLines1 huRefLines huRefLines1 huWords huWords1 huRefWords huRefWords1 huSame huSame1; exact decide_eq_true rfl
  have e3 : uSame (uWords1 w) (uRefWords1 w) = true := by subst huLines huLines1 huRefLines huRefLines1 huWords huWords1 huRefWords huRefWords1 huSame huSame1; show (isStrs (strDs _) && isStrs (strDs _)) = true; simp only [isStrs_strDs]; rfl
  have e4 : uSame1 (uWords1 w) (uRefWords1 w) = true := by subst huLines huLines1 huRefLines huRefLines1 huWords huWords1 huRefWords huRefWords1 huSame huSame1; exact decide_eq_true rfl
  refine ESpec.enter Tryd.func3 (by kernel_rfl) rfl (Nat.le_of_ble_eq_true rfl) fun hok cx hnt hfr => ?_
  obtain ⟨F, hF⟩ := real_ex
  refine AK.runT hF tabOK hmix hnt hfr false _ hG ?_
  conv => arg 4; cbv
  have e5 : F .ltI 16384 (F .lenS w) = false → le32 w = true := fun h => le32_of (by simp only [hF, f_ltI, f_leI, f_eqI, f_eqS, f_eqB, f_not, f_lenS, f_lenD, f_hasS, f_atS, f_hasC, f_subS, f_hasCat, f_app, f_wrap, f_add, f_sub, f_mul, f_appD, f_fits, f_hasV, f_subV, decide_eq_true_eq, decide_eq_false_iff_not, beq_iff_eq, beq_eq_false_iff_ne, Bool.and_eq_true, Bool.not_eq_true, Bool.not_eq_false, Bool.not_eq_eq_eq_not, Bool.not_true, Bool.not_false] at h; omega)
  rw [l_not1 hF, e2, e4]
  refine AKt.have (AKt.ff ?_)
  refine AKt.node (fun hb => ?_) (fun hb => ?_)
  · repeat' (first | with_reducible refine AKt.have ?_ | with_reducible refine AKt.tt ?_ | with_reducible refine AKt.ff ?_ | with_reducible refine AKt.yes (by assumption) ?_ | with_reducible refine AKt.no (by assumption) ?_ | with_reducible refine AKt.node (fun hb => ?_) (fun hb => ?_) | with_reducible refine AKt.need ?_ (fun hb => ?_) | with_reducible refine AKt.leaf ?_ | (with_reducible show _ = true; assumption))
    exact AKp.doneE tabOK hfr (by rfl) (by rfl)
  · have h5 := e5 hb
    have h6 : uLines w = true := by subst huLines huLines1 huRefLines huRefLines1 huWords huWords1 huRefWords huRefWords1 huSame huSame1; exact h5
    have h7 : uRefLines w = true := by subst huLines huLines1 huRefLines huRefLines1 huWords huWords1 huRefWords huRefWords1 huSame huSame1; exact h5
    have h8 : uWords w = true := by subst huLines huLines1 huRefLines huRefLines1 huWords huWords1 huRefWords huRefWords1 huSame huSame1; exact h5
    have h9 : uRefWords w = true := by subst huLines huLines1 huRefLines huRefLines1 huWords huWords1 huRefWords huRefWords1 huSame huSame1; exact h5
    repeat' (first | with_reducible refine AKt.have ?_ | with_reducible refine AKt.tt ?_ | with_reducible refine AKt.ff ?_ | with_reducible refine AKt.yes (by assumption) ?_ | with_reducible refine AKt.no (by assumption) ?_ | with_reducible refine AKt.node (fun hb => ?_) (fun hb => ?_) | with_reducible refine AKt.need ?_ (fun hb => ?_) | with_reducible refine AKt.leaf ?_ | (with_reducible show _ = true; assumption))
    exact AKp.doneE tabOK hfr (by rfl) (by rfl)
end Go.Proofs.YtialapjchamkfaaDoor

/- WordsBack: the function returns true. -/
namespace Go.Proofs.YtialapjchamkfaaDoor
open Go Go.Proofs Go.Ua Go.Extern
set_option linter.unusedVariables false
set_option linter.unusedSimpArgs false

def intDs (ns : List Int) : List Dat := ns.map fun n => .s (.int .u8 n)

theorem words_blanks (n : Nat) (x : List UInt8) : wordsF (List.replicate n 32 ++ x) = wordsF x := by
  induction n with
  | zero => rfl
  | succ n ih =>
    have := words_app (p := []) (List.replicate n 32 ++ x) (by simp)
    rw [List.replicate_succ, List.cons_append]
    exact this.trans ih

/-- A line that is read as ws, whatever follows behind a blank. -/
def LineOK (line : List UInt8) (ws : List (List UInt8)) : Prop := wordsF line = ws ∧ ∀ r, wordsF (line ++ 32 :: r) = ws ++ wordsF r
theorem line_nil : LineOK [] [] := ⟨rfl, fun r => words_app (p := []) r (by simp)⟩
theorem word_no {w : List UInt8} (h : wordF w = true) : w ≠ [] ∧ (32 : UInt8) ∉ w ∧ (10 : UInt8) ∉ w := by
  refine ⟨(word_parts h).1, fun hm => ?_, fun hm => ?_⟩
  · rw [wordF_no hm (.inr (.inl rfl))] at h; cases h
  · rw [wordF_no hm (.inr (.inr rfl))] at h; cases h
theorem line_snoc {line : List UInt8} {ws : List (List UInt8)} (h : LineOK line ws) (n : Nat) {w : List UInt8} (hw : wordF w = true) : LineOK (line ++ List.replicate (n + 1) 32 ++ w) (ws ++ [w]) := by
  obtain ⟨h1, h2, _⟩ := word_no hw
  have e : ∀ r, line ++ List.replicate (n + 1) 32 ++ r = line ++ 32 :: (List.replicate n 32 ++ r) := fun r => by simp [List.replicate_succ]
  refine ⟨?_, fun r => ?_⟩
  · rw [e, h.2, words_blanks]
    have := words_none h2
    rw [if_neg h1] at this
    exact congrArg (ws ++ ·) this
  · rw [List.append_assoc, e, h.2, words_blanks]
    have := words_app r h2
    rw [if_neg h1] at this
    rw [show wordsF (w ++ 32 :: r) = [w] ++ wordsF r from this, List.append_assoc]
def linesOf (ws : List (List UInt8)) : List UInt8 := (ws.map fun w => w ++ [10]).flatten
theorem linesOf_snoc (ws : List (List UInt8)) (w : List UInt8) : linesOf (ws ++ [w]) = linesOf ws ++ (w ++ [10]) := by simp [linesOf]
theorem cut_lines : ∀ {ws : List (List UInt8)}, (∀ w, w ∈ ws → wordF w = true) → cutF 10 (linesOf ws) = ws ++ [[]]
  | [], _ => rfl
  | w :: ws, h => by
    have ih := cut_lines (ws := ws) fun x hx => h x (List.mem_cons_of_mem _ hx)
    have : linesOf (w :: ws) = w ++ 10 :: linesOf ws := by simp [linesOf]
    rw [this, cut_app _ (word_no (h w (by simp))).2.2, ih]
    rfl
theorem lines_of {ws : List (List UInt8)} (h : ∀ w, w ∈ ws → wordF w = true) : linesF (linesOf ws) = ws := by
  unfold linesF
  rw [cut_lines h]
  simp

set_option maxRecDepth 10000 in
theorem WordsBack_spec (l : List (List UInt8)) (bs : List Int) : ESpec Tryd.prog 4 [.d (.view 1 (strDs l)), .d (.view 1 (intDs bs))] (fun x => x = .d (.s (.bool true))) := by
  obtain ⟨uWord, huWord⟩ : ∃ u : List UInt8 → Bool, u = wordF := ⟨_, rfl⟩
  obtain ⟨uWords, huWords⟩ : ∃ u : List UInt8 → Bool, u = le32 := ⟨_, rfl⟩
  obtain ⟨uWords1, huWords1⟩ : ∃ u : List UInt8 → List Dat, u = fun w => strDs (wordsF w) := ⟨_, rfl⟩
  obtain ⟨uLines, huLines⟩ : ∃ u : List UInt8 → Bool, u = le32 := ⟨_, rfl⟩
  obtain ⟨uLines1, huLines1⟩ : ∃ u : List UInt8 → List Dat, u = fun w => strDs (linesF w) := ⟨_, rfl⟩
  obtain ⟨uSame, huSame⟩ : ∃ u : List Dat → List Dat → Bool, u = fun l m => isStrs l && isStrs m := ⟨_, rfl⟩
  obtain ⟨uSame1, huSame1⟩ : ∃ u : List Dat → List Dat → Bool, u = fun l m => decide (unStr l = unStr m) := ⟨_, rfl⟩
  have hG : TblOK Tryd.prog [(11, φAwake ), (17, φWord uWord), (15, φWords uWords uWords1), (13, φLines uLines uLines1), (12, φSame uSame uSame1)] := ⟨φAwake_ok, (by rw [huWord]; exact φWord_ok), (by rw [huWords, huWords1]; exact φWords_ok), (by rw [huLines, huLines1]; exact φLines_ok), (by rw [huSame, huSame1]; exact φSame_ok), trivial⟩
  obtain ⟨es, hes⟩ : ∃ z, z = strDs l := ⟨_, rfl⟩
  obtain ⟨ds, hds⟩ : ∃ z, z = intDs bs := ⟨_, rfl⟩
  rw [← hes, ← hds]
  have hel : es.length = l.length := by rw [hes]; simp [strDs]
  have hdl : ds.length = bs.length := by rw [hds]; simp [intDs]
  refine ESpec.enter Tryd.func4 (by kernel_rfl) rfl (Nat.le_of_ble_eq_true rfl) fun hok cx hnt hfr => ?_
  obtain ⟨F, hF⟩ := real_ex
  refine AK.runT hF tabOK hmix hnt hfr true _ hG ?_
  conv => arg 4; cbv
  have hbv : ∀ (i : Nat) (n : Int), bs[i]? = some n → ds[i]? = some (.s (.int .u8 n)) ∧ 0 ≤ n ∧ n ≤ 255 := by
    intro i n hn
    have h1 : ds[i]? = some (.s (.int .u8 n)) := by rw [hds]; simp [intDs, hn]
    have h2 := Doks_iff.1 hok.2.1.2 _ (List.mem_of_getElem? h1)
    exact ⟨h1, h2.1, h2.2⟩
  refine AKt.have ?_
  rw [l_not1 hF]
  refine AKt.ff ?_
  repeat' (first | with_reducible refine AKt.have ?_ | with_reducible refine AKt.tt ?_ | with_reducible refine AKt.ff ?_ | with_reducible refine AKt.yes (by assumption) ?_ | with_reducible refine AKt.no (by assumption) ?_ | with_reducible refine AKt.node (fun hb => ?_) (fun hb => ?_) | with_reducible refine AKt.need ?_ (fun hb => ?_) | with_reducible refine AKt.leaf ?_ | (with_reducible show _ = true; assumption))
  refine AKp.asRow 7 9 1 (by decide) rfl ?_
  conv => arg 4; arg 2; cbv
  refine AKp.enterLoop 9 ?_
  conv => arg 7; cbv
  refine AKl.invT hF tabOK hmix hnt hfr true _ hG (fun n vs hs => ∃ (i : Nat) (iv : Int) (line : List UInt8) (lines : List UInt8) (ws : List (List UInt8)) (es' : List Dat), i + n = l.length ∧ i ≤ 40 ∧ iv = i ∧ LineOK line ws ∧ lines = linesOf ws ∧ (∀ w, w ∈ ws → wordF w = true) ∧ ws.length ≤ i ∧ line.length ≤ 68 * i ∧ lines.length ≤ 65 * i ∧ es' = strDs ws ∧ vs = [(8, .d (.s (.int .i64 iv))), (7, .row 0 1), (6, .d (.s (.str lines))), (5, .d (.s (.str line)))] ∧ hs = [(0, .ds 9 1 es')]) l.length ⟨0, _, [], [], [], [], by omega, by omega, rfl, line_nil, rfl, by simp, by simp, by simp, by simp, rfl, rfl, rfl⟩ (by repeat (first | exact True.intro | refine ⟨⟨rfl, rfl⟩, ?_⟩)) (by repeat (first | exact True.intro | refine ⟨⟨rfl, rfl, rfl⟩, ?_⟩)) ?_
  rintro J n vs hs hJ ⟨i, iv, line, lines, ws, es', hi, hi40, hiv, hline, hlines, hws, hwl, hll, hll2, hes', rfl, rfl⟩
  have hel' : es'.length = ws.length := by rw [hes']; simp [strDs]
  have L1 : le32 line = true := decide_eq_true (by omega)
  have L2 : le32 lines = true := decide_eq_true (by omega)
  have w1 : uWords line = true := by subst huWord huWords huWords1 huLines huLines1 huSame huSame1; exact L1
  have w2 : uLines lines = true := by subst huWord huWords huWords1 huLines huLines1 huSame huSame1; exact L2
  have w3 : uWords1 line = es' := by subst huWord huWords huWords1 huLines huLines1 huSame huSame1; show strDs (wordsF line) = _; rw [hline.1, hes']
  have w4 : uLines1 lines = es' := by subst huWord huWords huWords1 huLines huLines1 huSame huSame1; show strDs (linesF lines) = _; rw [hlines, lines_of hws, hes']

  have e5 : uSame es' es' = true := by subst huWord huWords huWords1 huLines huLines1 huSame huSame1; show (isStrs es' && isStrs es') = true; rw [hes', isStrs_strDs]; rfl
  have e6 : uSame1 es' es' = true := by subst huWord huWords huWords1 huLines huLines1 huSame huSame1; exact decide_eq_true rfl
  conv => arg 4; cbv
  rw [w3]
  refine AKt.node (fun hb => ?_) (fun hb => ?_)
  · have hlt : i < l.length := by simp only [hF, f_ltI, f_leI, f_eqI, f_eqS, f_eqB, f_not, f_lenS, f_lenD, f_hasS, f_atS, f_hasC, f_subS, f_hasCat, f_app, f_wrap, f_add, f_sub, f_mul, f_appD, f_fits, f_hasV, f_subV, decide_eq_true_eq, decide_eq_false_iff_not, beq_iff_eq, beq_eq_false_iff_ne, Bool.and_eq_true, Bool.not_eq_true, Bool.not_eq_false, Bool.not_eq_eq_eq_not, Bool.not_true, Bool.not_false] at hb; omega
    obtain ⟨x, hx⟩ : ∃ c, l[i]? = some c := ⟨_, List.getElem?_eq_getElem hlt⟩
    have hs1 : F .strA es iv 0 = x := by rw [hes]; exact t_str0 hF hx hiv
    have hh1 : F .hasD es iv [.str] = true := by rw [hes]; exact t_hasStrs hF hlt hiv
    rw [hs1]
    refine AKt.node (fun hb2 => ?_) (fun hb2 => ?_)
    · have hi4 : i < 40 := by simp only [hF, f_ltI, f_leI, f_eqI, f_eqS, f_eqB, f_not, f_lenS, f_lenD, f_hasS, f_atS, f_hasC, f_subS, f_hasCat, f_app, f_wrap, f_add, f_sub, f_mul, f_appD, f_fits, f_hasV, f_subV, decide_eq_true_eq, decide_eq_false_iff_not, beq_iff_eq, beq_eq_false_iff_ne, Bool.and_eq_true, Bool.not_eq_true, Bool.not_eq_false, Bool.not_eq_eq_eq_not, Bool.not_true, Bool.not_false] at hb2; omega
      refine AKt.need hh1 fun _ => AKt.have ?_
      refine AKt.node (fun hb3 => ?_) (fun hb3 => ?_)
      · repeat' (first | with_reducible refine AKt.have ?_ | with_reducible refine AKt.tt ?_ | with_reducible refine AKt.ff ?_ | with_reducible refine AKt.yes (by assumption) ?_ | with_reducible refine AKt.no (by assumption) ?_ | with_reducible refine AKt.node (fun hb => ?_) (fun hb => ?_) | with_reducible refine AKt.need ?_ (fun hb => ?_) | with_reducible refine AKt.leaf ?_ | (with_reducible show _ = true; assumption))
        refine AKp.again _ hfr (by repeat (first | exact True.intro | refine ⟨⟨rfl, rfl⟩, ?_⟩)) (by repeat (first | exact True.intro | refine ⟨⟨rfl, rfl, rfl⟩, ?_⟩)) (hJ (n - 1) _ _ (by omega) ⟨i + 1, _, line, lines, ws, es', by omega, by omega, inc_i hF hiv (by omega), hline, hlines, hws, by omega, by omega, by omega, hes', rfl, rfl⟩)
      · have hwd : wordF x = true := by
          subst huWord huWords huWords1 huLines huLines1 huSame huSame1
          simp only [hF, f_ltI, f_leI, f_eqI, f_eqS, f_eqB, f_not, f_lenS, f_lenD, f_hasS, f_atS, f_hasC, f_subS, f_hasCat, f_app, f_wrap, f_add, f_sub, f_mul, f_appD, f_fits, f_hasV, f_subV, decide_eq_true_eq, decide_eq_false_iff_not, beq_iff_eq, beq_eq_false_iff_ne, Bool.and_eq_true, Bool.not_eq_true, Bool.not_eq_false, Bool.not_eq_eq_eq_not, Bool.not_true, Bool.not_false] at hb3
          exact hb3
        have hxl : x.length ≤ 64 := (word_parts hwd).2.1
        obtain ⟨bv, hbv0⟩ : ∃ z, z = F .wrap .i64 (F .add 1 (F .wrap .i64 (F .tmod (F .intA ds iv 0) 4))) := ⟨_, rfl⟩
        rw [← hbv0]
        refine AKt.node (fun hb4 => ?_) (fun hb4 => ?_)
        · have hlt4 : i < bs.length := by simp only [hF, f_ltI, f_leI, f_eqI, f_eqS, f_eqB, f_not, f_lenS, f_lenD, f_hasS, f_atS, f_hasC, f_subS, f_hasCat, f_app, f_wrap, f_add, f_sub, f_mul, f_appD, f_fits, f_hasV, f_subV, decide_eq_true_eq, decide_eq_false_iff_not, beq_iff_eq, beq_eq_false_iff_ne, Bool.and_eq_true, Bool.not_eq_true, Bool.not_eq_false, Bool.not_eq_eq_eq_not, Bool.not_true, Bool.not_false] at hb4; omega
          obtain ⟨b, hb5⟩ : ∃ c, bs[i]? = some c := ⟨_, List.getElem?_eq_getElem hlt4⟩
          obtain ⟨g1, g2, g3⟩ := hbv i b hb5
          have hh2 : F .hasD ds iv [.int .u8] = true := t_hasD hF g1 hiv rfl
          have hN : ∃ N : Nat, 1 ≤ N ∧ N ≤ 4 ∧ bv = N := by
            rw [t_intA hF g1 hiv (j := 0) (s := b) (k := .u8) rfl] at hbv0
            have h0 : F .tmod b 4 = b % 4 := by rw [hF]; exact Int.tmod_eq_emod_of_nonneg g2
            rw [h0, hF] at hbv0
            have h1 : bv = IntKind.i64.wrap (1 + IntKind.i64.wrap (b % 4)) := hbv0
            rw [w_i64 (n := b % 4) (by omega) (by omega), w_i64 (by omega) (by omega)] at h1
            exact ⟨(1 + b % 4).toNat, by omega, by omega, by omega⟩
          clear hbv0
          refine AKt.need hh2 fun _ => ?_
          obtain ⟨N, hN1, hN4, hN⟩ := hN
          rw [hN]
          clear hN bv
          obtain ⟨bv, hN⟩ : ∃ z : Int, z = N := ⟨_, rfl⟩
          rw [← hN]
          refine AKt.leaf ?_
          refine AKp.enterLoop 41 ?_
          conv => arg 7; cbv
          refine AKl.invT hF tabOK hmix hnt hfr true _ hG (fun m vs hs => ∃ (k : Nat) (kv : Int) (s : List UInt8), k + m = N ∧ kv = k ∧ s = line ++ List.replicate k 32 ∧ vs = [(40, .d (.s (.int .i64 kv))), (5, .d (.s (.str s)))] ∧ hs = [(0, .ds 9 1 es')]) N ⟨0, _, line, by omega, rfl, by simp, rfl, rfl⟩ (by repeat (first | exact True.intro | refine ⟨⟨rfl, rfl⟩, ?_⟩)) (by repeat (first | exact True.intro | refine ⟨⟨rfl, rfl, rfl⟩, ?_⟩)) ?_
          rintro J2 n2 vs hs hJ2 ⟨k, kv, s, hk, hkv, hs, rfl, rfl⟩
          have hsl : s.length = line.length + k := by rw [hs]; simp
          conv => arg 4; cbv
          rw [hs1]
          have hc1 : F .hasCat s [32] = true := t_hasCat hF (by simp; omega)
          have ha1 : F .app s [32] = s ++ [32] := by rw [hF]; rfl
          have hc2 : F .hasCat s x = true := t_hasCat hF (by omega)
          have ha2 : F .app s x = s ++ x := by rw [hF]; rfl
          have hc3 : F .hasCat x [10] = true := t_hasCat hF (by simp; omega)
          have ha3 : F .app x [10] = x ++ [10] := by rw [hF]; rfl
          have hc4 : F .hasCat lines (x ++ [10]) = true := t_hasCat hF (by simp; omega)
          have ha4 : F .app lines (x ++ [10]) = lines ++ (x ++ [10]) := by rw [hF]; rfl
          have ha5 : F .appD es' [.s (.str x)] = es' ++ [.s (.str x)] := by rw [hF]; rfl
          have hc5 : F .fits 16 (es' ++ [.s (.str x)]) = true := t_fits hF (by simp; omega)
          rw [ha1, ha2, ha3, ha4, ha5]
          refine AKt.node (fun hb6 => ?_) (fun hb6 => ?_)
          · have hk2 : k < N := by simp only [hF, f_ltI, f_leI, f_eqI, f_eqS, f_eqB, f_not, f_lenS, f_lenD, f_hasS, f_atS, f_hasC, f_subS, f_hasCat, f_app, f_wrap, f_add, f_sub, f_mul, f_appD, f_fits, f_hasV, f_subV, decide_eq_true_eq, decide_eq_false_iff_not, beq_iff_eq, beq_eq_false_iff_ne, Bool.and_eq_true, Bool.not_eq_true, Bool.not_eq_false, Bool.not_eq_eq_eq_not, Bool.not_true, Bool.not_false] at hb6; omega
            repeat' (first | with_reducible refine AKt.have ?_ | with_reducible refine AKt.tt ?_ | with_reducible refine AKt.ff ?_ | with_reducible refine AKt.yes (by assumption) ?_ | with_reducible refine AKt.no (by assumption) ?_ | with_reducible refine AKt.node (fun hb => ?_) (fun hb => ?_) | with_reducible refine AKt.need ?_ (fun hb => ?_) | with_reducible refine AKt.leaf ?_ | (with_reducible show _ = true; assumption))
            refine AKp.again _ hfr (by repeat (first | exact True.intro | refine ⟨⟨rfl, rfl⟩, ?_⟩)) (by repeat (first | exact True.intro | refine ⟨⟨rfl, rfl, rfl⟩, ?_⟩)) (hJ2 (n2 - 1) _ _ (by omega) ⟨k + 1, _, s ++ [32], by omega, inc_i hF hkv (by omega), by rw [hs, List.replicate_succ']; simp, rfl, rfl⟩)
          · have hk2 : ¬ k < N := by simp only [hF, f_ltI, f_leI, f_eqI, f_eqS, f_eqB, f_not, f_lenS, f_lenD, f_hasS, f_atS, f_hasC, f_subS, f_hasCat, f_app, f_wrap, f_add, f_sub, f_mul, f_appD, f_fits, f_hasV, f_subV, decide_eq_true_eq, decide_eq_false_iff_not, beq_iff_eq, beq_eq_false_iff_ne, Bool.and_eq_true, Bool.not_eq_true, Bool.not_eq_false, Bool.not_eq_eq_eq_not, Bool.not_true, Bool.not_false] at hb6; omega
            have hkN : k = N := by omega
            rw [hkN] at hs hsl
            repeat' (first | with_reducible refine AKt.have ?_ | with_reducible refine AKt.tt ?_ | with_reducible refine AKt.ff ?_ | with_reducible refine AKt.yes (by assumption) ?_ | with_reducible refine AKt.no (by assumption) ?_ | with_reducible refine AKt.node (fun hb => ?_) (fun hb => ?_) | with_reducible refine AKt.need ?_ (fun hb => ?_) | with_reducible refine AKt.leaf ?_ | (with_reducible show _ = true; assumption))
            refine AKp.againR [(0, 1)] _ hfr (by repeat (first | exact True.intro | refine ⟨⟨rfl, rfl⟩, ?_⟩)) (by repeat (first | exact True.intro | refine ⟨⟨Nat.le_of_ble_eq_true rfl, rfl, rfl⟩, ?_⟩)) rfl (hJ (n - 1) _ _ (by omega) ⟨i + 1, _, s ++ x, lines ++ (x ++ [10]), ws ++ [x], es' ++ [.s (.str x)], by omega, by omega, inc_i hF hiv (by omega), ?_, ?_, ?_, by simp; omega, by simp; omega, by simp; omega, by rw [hes']; simp [strDs], rfl, rfl⟩)
            · obtain ⟨q, hq⟩ : ∃ q, N = q + 1 := ⟨N - 1, by omega⟩
              rw [hs, hq]
              exact line_snoc hline q hwd
            · rw [linesOf_snoc, hlines]
            · intro w hw
              rcases List.mem_append.1 hw with h | h
              · exact hws w h
              · rw [List.mem_singleton.1 h]; exact hwd
        · clear hbv0 bv
          refine AKt.leaf ?_
          obtain ⟨N, hN⟩ : ∃ N : Nat, N = 1 := ⟨_, rfl⟩
          refine AKp.enterLoop 41 ?_
          conv => arg 7; cbv
          refine AKl.invT hF tabOK hmix hnt hfr true _ hG (fun m vs hs => ∃ (k : Nat) (kv : Int) (s : List UInt8), k + m = N ∧ kv = k ∧ s = line ++ List.replicate k 32 ∧ vs = [(40, .d (.s (.int .i64 kv))), (5, .d (.s (.str s)))] ∧ hs = [(0, .ds 9 1 es')]) N ⟨0, _, line, by omega, rfl, by simp, rfl, rfl⟩ (by repeat (first | exact True.intro | refine ⟨⟨rfl, rfl⟩, ?_⟩)) (by repeat (first | exact True.intro | refine ⟨⟨rfl, rfl, rfl⟩, ?_⟩)) ?_
          rintro J2 n2 vs hs hJ2 ⟨k, kv, s, hk, hkv, hs, rfl, rfl⟩
          have hsl : s.length = line.length + k := by rw [hs]; simp
          conv => arg 4; cbv
          rw [hs1]
          have hc1 : F .hasCat s [32] = true := t_hasCat hF (by simp; omega)
          have ha1 : F .app s [32] = s ++ [32] := by rw [hF]; rfl
          have hc2 : F .hasCat s x = true := t_hasCat hF (by omega)
          have ha2 : F .app s x = s ++ x := by rw [hF]; rfl
          have hc3 : F .hasCat x [10] = true := t_hasCat hF (by simp; omega)
          have ha3 : F .app x [10] = x ++ [10] := by rw [hF]; rfl
          have hc4 : F .hasCat lines (x ++ [10]) = true := t_hasCat hF (by simp; omega)
          have ha4 : F .app lines (x ++ [10]) = lines ++ (x ++ [10]) := by rw [hF]; rfl
          have ha5 : F .appD es' [.s (.str x)] = es' ++ [.s (.str x)] := by rw [hF]; rfl
          have hc5 : F .fits 16 (es' ++ [.s (.str x)]) = true := t_fits hF (by simp; omega)
          rw [ha1, ha2, ha3, ha4, ha5]
          refine AKt.node (fun hb6 => ?_) (fun hb6 => ?_)
          · have hk2 : k < N := by simp only [hF, f_ltI, f_leI, f_eqI, f_eqS, f_eqB, f_not, f_lenS, f_lenD, f_hasS, f_atS, f_hasC, f_subS, f_hasCat, f_app, f_wrap, f_add, f_sub, f_mul, f_appD, f_fits, f_hasV, f_subV, decide_eq_true_eq, decide_eq_false_iff_not, beq_iff_eq, beq_eq_false_iff_ne, Bool.and_eq_true, Bool.not_eq_true, Bool.not_eq_false, Bool.not_eq_eq_eq_not, Bool.not_true, Bool.not_false] at hb6; omega
            repeat' (first | with_reducible refine AKt.have ?_ | with_reducible refine AKt.tt ?_ | with_reducible refine AKt.ff ?_ | with_reducible refine AKt.yes (by assumption) ?_ | with_reducible refine AKt.no (by assumption) ?_ | with_reducible refine AKt.node (fun hb => ?_) (fun hb => ?_) | with_reducible refine AKt.need ?_ (fun hb => ?_) | with_reducible refine AKt.leaf ?_ | (with_reducible show _ = true; assumption))
            refine AKp.again _ hfr (by repeat (first | exact True.intro | refine ⟨⟨rfl, rfl⟩, ?_⟩)) (by repeat (first | exact True.intro | refine ⟨⟨rfl, rfl, rfl⟩, ?_⟩)) (hJ2 (n2 - 1) _ _ (by omega) ⟨k + 1, _, s ++ [32], by omega, inc_i hF hkv (by omega), by rw [hs, List.replicate_succ']; simp, rfl, rfl⟩)
          · have hk2 : ¬ k < N := by simp only [hF, f_ltI, f_leI, f_eqI, f_eqS, f_eqB, f_not, f_lenS, f_lenD, f_hasS, f_atS, f_hasC, f_subS, f_hasCat, f_app, f_wrap, f_add, f_sub, f_mul, f_appD, f_fits, f_hasV, f_subV, decide_eq_true_eq, decide_eq_false_iff_not, beq_iff_eq, beq_eq_false_iff_ne, Bool.and_eq_true, Bool.not_eq_true, Bool.not_eq_false, Bool.not_eq_eq_eq_not, Bool.not_true, Bool.not_false] at hb6; omega
            have hkN : k = N := by omega
            rw [hkN] at hs hsl
            repeat' (first | with_reducible refine AKt.have ?_ | with_reducible refine AKt.tt ?_ | with_reducible refine AKt.ff ?_ | with_reducible refine AKt.yes (by assumption) ?_ | with_reducible refine AKt.no (by assumption) ?_ | with_reducible refine AKt.node (fun hb => ?_) (fun hb => ?_) | with_reducible refine AKt.need ?_ (fun hb => ?_) | with_reducible refine AKt.leaf ?_ | (with_reducible show _ = true; assumption))
            refine AKp.againR [(0, 1)] _ hfr (by repeat (first | exact True.intro | refine ⟨⟨rfl, rfl⟩, ?_⟩)) (by repeat (first | exact True.intro | refine ⟨⟨Nat.le_of_ble_eq_true rfl, rfl, rfl⟩, ?_⟩)) rfl (hJ (n - 1) _ _ (by omega) ⟨i + 1, _, s ++ x, lines ++ (x ++ [10]), ws ++ [x], es' ++ [.s (.str x)], by omega, by omega, inc_i hF hiv (by omega), ?_, ?_, ?_, by simp; omega, by simp; omega, by simp; omega, by rw [hes']; simp [strDs], rfl, rfl⟩)
            · obtain ⟨q, hq⟩ : ∃ q, N = q + 1 := ⟨N - 1, by omega⟩
              rw [hs, hq]
              exact line_snoc hline q hwd
            · rw [linesOf_snoc, hlines]
            · intro w hw
              rcases List.mem_append.1 hw with h | h
              · exact hws w h
              · rw [List.mem_singleton.1 h]; exact hwd
    · have hge : ¬ i < 40 := by simp only [hF, f_ltI, f_leI, f_eqI, f_eqS, f_eqB, f_not, f_lenS, f_lenD, f_hasS, f_atS, f_hasC, f_subS, f_hasCat, f_app, f_wrap, f_add, f_sub, f_mul, f_appD, f_fits, f_hasV, f_subV, decide_eq_true_eq, decide_eq_false_iff_not, beq_iff_eq, beq_eq_false_iff_ne, Bool.and_eq_true, Bool.not_eq_true, Bool.not_eq_false, Bool.not_eq_eq_eq_not, Bool.not_true, Bool.not_false] at hb2; omega
      repeat' (first | with_reducible refine AKt.have ?_ | with_reducible refine AKt.tt ?_ | with_reducible refine AKt.ff ?_ | with_reducible refine AKt.yes (by assumption) ?_ | with_reducible refine AKt.no (by assumption) ?_ | with_reducible refine AKt.node (fun hb => ?_) (fun hb => ?_) | with_reducible refine AKt.need ?_ (fun hb => ?_) | with_reducible refine AKt.leaf ?_ | (with_reducible show _ = true; assumption))
      refine AKp.freeze 0 rfl ?_
      conv => arg 4; arg 2; cbv
      refine AK.runT hF tabOK hmix hnt hfr true _ hG ?_
      conv => arg 4; cbv
      rw [w4, e6]
      repeat' (first | with_reducible refine AKt.have ?_ | with_reducible refine AKt.tt ?_ | with_reducible refine AKt.ff ?_ | with_reducible refine AKt.yes (by assumption) ?_ | with_reducible refine AKt.no (by assumption) ?_ | with_reducible refine AKt.node (fun hb => ?_) (fun hb => ?_) | with_reducible refine AKt.need ?_ (fun hb => ?_) | with_reducible refine AKt.leaf ?_ | (with_reducible show _ = true; assumption))
      exact AKp.doneE tabOK hfr (by rfl) (by rfl)
  · have hge : ¬ i < l.length := by simp only [hF, f_ltI, f_leI, f_eqI, f_eqS, f_eqB, f_not, f_lenS, f_lenD, f_hasS, f_atS, f_hasC, f_subS, f_hasCat, f_app, f_wrap, f_add, f_sub, f_mul, f_appD, f_fits, f_hasV, f_subV, decide_eq_true_eq, decide_eq_false_iff_not, beq_iff_eq, beq_eq_false_iff_ne, Bool.and_eq_true, Bool.not_eq_true, Bool.not_eq_false, Bool.not_eq_eq_eq_not, Bool.not_true, Bool.not_false] at hb; omega
    repeat' (first | with_reducible refine AKt.have ?_ | with_reducible refine AKt.tt ?_ | with_reducible refine AKt.ff ?_ | with_reducible refine AKt.yes (by assumption) ?_ | with_reducible refine AKt.no (by assumption) ?_ | with_reducible refine AKt.node (fun hb => ?_) (fun hb => ?_) | with_reducible refine AKt.need ?_ (fun hb => ?_) | with_reducible refine AKt.leaf ?_ | (with_reducible show _ = true; assumption))
    refine AKp.freeze 0 rfl ?_
    conv => arg 4; arg 2; cbv
    refine AK.runT hF tabOK hmix hnt hfr true _ hG ?_
    conv => arg 4; cbv
    rw [w4, e6]
    repeat' (first | with_reducible refine AKt.have ?_ | with_reducible refine AKt.tt ?_ | with_reducible refine AKt.ff ?_ | with_reducible refine AKt.yes (by assumption) ?_ | with_reducible refine AKt.no (by assumption) ?_ | with_reducible refine AKt.node (fun hb => ?_) (fun hb => ?_) | with_reducible refine AKt.need ?_ (fun hb => ?_) | with_reducible refine AKt.leaf ?_ | (with_reducible show _ = true; assumption))
    exact AKp.doneE tabOK hfr (by rfl) (by rfl)
theorem typed_bytes {f : Nat} {l : List Dat} (h : typed tab (f + 2) 27 l) : ∃ zs, l = [.view 1 (intDs zs)] := by
  obtain ⟨es, rfl, hlen, hes⟩ := h
  clear hlen
  have : ∃ zs, es = intDs zs := by
    induction es with
    | nil => exact ⟨[], rfl⟩
    | cons x es ih =>
      obtain ⟨zs, rfl⟩ := ih fun x hx => hes x (List.mem_cons_of_mem _ hx)
      obtain ⟨l', rfl, s, rfl, _⟩ := hes x (by simp)
      exact ⟨s :: zs, rfl⟩
  obtain ⟨zs, rfl⟩ := this
  exact ⟨zs, rfl⟩
end Go.Proofs.YtialapjchamkfaaDoor
