/- The library of this claim and its walks, part 26, joined out of smaller texts. No statement stands in it. -/
import Derived.Test.YtflpgbkdjelaaaaDoorUaM23
import Derived.Test.YtflpgbkdjelaaaaDoorUaM25
import Derived.Laws.Bits64
import Derived.Laws.Bits64b
/- Hexadecimal digits, as the library prints them. -/
namespace Go.Proofs.YtflpgbkdjelaaaaDoor
open Go Go.Proofs Go.Ua Go.Extern
set_option linter.unusedVariables false
set_option linter.unusedSimpArgs false

section
variable {F : Fam} (hF : F = Fam.real)
include hF
end

end Go.Proofs.YtflpgbkdjelaaaaDoor

/- Sixteen digits. -/
namespace Go.Proofs.YtflpgbkdjelaaaaDoor
open Go Go.Proofs Go.Ua Go.Extern
set_option linter.unusedVariables false
set_option linter.unusedSimpArgs false

end Go.Proofs.YtflpgbkdjelaaaaDoor

/- Back from sixteen digits. -/
namespace Go.Proofs.YtflpgbkdjelaaaaDoor
open Go Go.Proofs Go.Ua Go.Extern
set_option linter.unusedVariables false
set_option linter.unusedSimpArgs false

end Go.Proofs.YtflpgbkdjelaaaaDoor

/- Digits in order: plain laws. -/
namespace Go.Proofs.YtflpgbkdjelaaaaDoor
open Go Go.Proofs Go.Ua Go.Extern
set_option linter.unusedVariables false
set_option linter.unusedSimpArgs false

def before (a b : List UInt8) : Prop := a.length < b.length ∨ (a.length = b.length ∧ a < b)

theorem dig_small {n : Nat} (h : n < 10) : Lib.decDigits n = [UInt8.ofNat (48 + n)] := by rw [Lib.decDigits, dif_pos h]
theorem dig_big {n : Nat} (h : ¬ n < 10) : Lib.decDigits n = Lib.decDigits (n / 10) ++ [UInt8.ofNat (48 + n % 10)] := by rw [Lib.decDigits, dif_neg h]
theorem dig_pos (n : Nat) : 1 ≤ (Lib.decDigits n).length := by
  by_cases h : n < 10
  · rw [dig_small h]; simp
  · rw [dig_big h]; simp
end Go.Proofs.YtflpgbkdjelaaaaDoor

/- Numbers and their digits: plain laws; the reference's numbers. -/
namespace Go.Proofs.YtflpgbkdjelaaaaDoor
open Go Go.Proofs Go.Ua Go.Extern
set_option linter.unusedVariables false
set_option linter.unusedSimpArgs false

theorem valN_snoc (p : List UInt8) (c : UInt8) : valN (p ++ [c]) = 10 * valN p + (c.toNat - 48) := by simp [valN, List.foldl_append]
theorem dig_byte {d : Nat} (h : d < 10) : (UInt8.ofNat (48 + d)).toNat = 48 + d := by rw [UInt8.toNat_ofNat']; omega
theorem dig_head : ∀ n : Nat, 1 ≤ n → ∃ c r, Lib.decDigits n = c :: r ∧ c ≠ 48
  | n, h => by
    by_cases hs : n < 10
    · refine ⟨_, _, dig_small hs, fun e => ?_⟩
      have := congrArg UInt8.toNat e
      rw [dig_byte hs] at this
      simp at this; omega
    · obtain ⟨c, r, h1, h2⟩ := dig_head (n / 10) (by omega)
      rw [dig_big hs, h1]
      exact ⟨c, r ++ [UInt8.ofNat (48 + n % 10)], rfl, h2⟩
theorem dig_val : ∀ n : Nat, valN (Lib.decDigits n) = n
  | n => by
    by_cases hs : n < 10
    · rw [dig_small hs]
      simp only [valN, List.foldl_cons, List.foldl_nil]
      rw [dig_byte hs]; omega
    · have ih := dig_val (n / 10)
      rw [dig_big hs, valN_snoc, ih, dig_byte (Nat.mod_lt _ (by decide))]
      omega
theorem dig_all : ∀ n : Nat, (Lib.decDigits n).all digB = true
  | n => by
    by_cases hs : n < 10
    · rw [dig_small hs]
      simp only [List.all_cons, List.all_nil, Bool.and_true]
      unfold digB digitN
      rw [dig_byte hs, decide_eq_true (by omega), decide_eq_true (by omega)]; rfl
    · have ih := dig_all (n / 10)
      rw [dig_big hs, List.all_append, ih]
      simp only [List.all_cons, List.all_nil, Bool.and_true, Bool.true_and]
      unfold digB digitN
      rw [dig_byte (Nat.mod_lt _ (by decide)), decide_eq_true (by omega), decide_eq_true (by omega)]; rfl
theorem dig_len : ∀ (k n : Nat), n < 10 ^ (k + 1) → (Lib.decDigits n).length ≤ k + 1
  | 0, n, h => by rw [dig_small h]; simp
  | k + 1, n, h => by
    have h : n < 10 ^ (k + 1) * 10 := h
    by_cases hs : n < 10
    · rw [dig_small hs]; simp
    · have := dig_len k (n / 10) (by omega)
      rw [dig_big hs]
      simp; omega
/-- Digits that don't begin with a needless 0 are the digits of their number. -/
theorem val_dig {w : List UInt8} (h0 : w ≠ []) (hall : w.all digB = true) (hlead : 1 < w.length → w[0]? ≠ some 48) : Lib.decDigits (valN w) = w := by
  induction hn : w.length using Nat.strongRecOn generalizing w with
  | _ k ih =>
    obtain ⟨p, c, rfl⟩ : ∃ p c, w = p ++ [c] := ⟨w.dropLast, w.getLast h0, (List.dropLast_concat_getLast h0).symm⟩
    simp only [List.all_append, List.all_cons, List.all_nil, Bool.and_true, Bool.and_eq_true] at hall
    have hd := digB_le hall.2
    rw [valN_snoc]
    have hc : UInt8.ofNat (48 + (c.toNat - 48)) = c := by
      rw [show 48 + (c.toNat - 48) = c.toNat by omega, UInt8.ofNat_toNat]
    by_cases hp : p = []
    · subst hp
      rw [show valN [] = 0 from rfl, dig_small (by omega)]
      simp only [Nat.mul_zero, Nat.zero_add, List.nil_append]
      rw [hc]
    · have hlen : 1 < (p ++ [c]).length := by
        have := List.length_pos_iff.2 hp
        simp; omega
      have hl := hlead hlen
      rw [List.getElem?_append_left (List.length_pos_iff.2 hp)] at hl
      have := ih p.length (by simp at hn; omega) (w := p) hp hall.1 (fun _ => hl) rfl
      have hpos : 1 ≤ valN p := by
        rcases Nat.eq_zero_or_pos (valN p) with e | e
        · rw [e, dig_small (by decide)] at this
          rw [← this] at hl
          exact absurd rfl hl
        · exact e
      rw [dig_big (by omega), show (10 * valN p + (c.toNat - 48)) / 10 = valN p by omega, show (10 * valN p + (c.toNat - 48)) % 10 = c.toNat - 48 by omega, this, hc]
theorem num_dig {w : List UInt8} (hall : w.all digB = true) (h9 : w.length ≤ 9) : numForm w = decide (Lib.decDigits (valN w) = w) := by
  rw [Bool.eq_iff_iff, decide_eq_true_eq]
  unfold numForm
  constructor
  · intro h
    simp only [Bool.and_eq_true, decide_eq_true_eq, Bool.not_eq_true', Bool.and_eq_false_iff, decide_eq_false_iff_not] at h
    refine val_dig (by rintro rfl; simp at h) hall fun h1 => ?_
    rcases h.1.2 with h2 | h2
    · exact absurd h1 h2
    · exact h2
  · intro h
    have hp := dig_pos (valN w)
    rw [h] at hp
    rw [decide_eq_true hp, decide_eq_true h9, hall]
    simp only [Bool.true_and, Bool.and_true, Bool.not_eq_true', Bool.and_eq_false_iff, decide_eq_false_iff_not]
    by_cases h1 : 1 < w.length
    · right
      intro h2
      have hv : 1 ≤ valN w := by
        rcases Nat.eq_zero_or_pos (valN w) with e | e
        · rw [e, dig_small (by decide)] at h
          rw [← h] at h1
          exact absurd h1 (by simp)
        · exact e
      obtain ⟨c, r, h3, h4⟩ := dig_head _ hv
      rw [← h, h3] at h2
      exact h4 (Option.some.inj h2)
    · exact .inl h1
theorem num_of_dig {n : Nat} (h : n ≤ 999999999) : numForm (Lib.decDigits n) = true := by
  rw [num_dig (dig_all n) (dig_len 8 n (by omega)), dig_val]
  exact decide_eq_true rfl
end Go.Proofs.YtflpgbkdjelaaaaDoor

/- The reference's digits and numbers. -/
namespace Go.Proofs.YtflpgbkdjelaaaaDoor
open Go Go.Proofs Go.Ua Go.Extern
set_option linter.unusedVariables false
set_option linter.unusedSimpArgs false
set_option maxRecDepth 10000

def joinP (l : List Dat) (s : List UInt8) : Bool := isStrs l && (decide (l.length ≤ 140737488355328) && decide ((Lib.join (unStr l) s).length ≤ 140737488355328))
theorem StrJoinD_spec (l : List Dat) (s : List UInt8) (h : joinP l s = true) : ESpec Tryd.prog 38 [.d (.view 1 l), .d (.s (.str s))] (fun x => x = .d (.s (.str (Lib.join (unStr l) s)))) := by
  simp only [joinP, Bool.and_eq_true, decide_eq_true_eq] at h
  have := StrJoin_spec (unStr l) s (by unfold unStr; rw [List.length_map]; exact h.2.1) h.2.2
  rwa [strDs_unStr h.1] at this
def φSJoin (p : List Dat → List UInt8 → Bool) (u : List Dat → List UInt8 → List UInt8) : List AV → Option (Bool × AV)
  | [.d (.view 1 l), .d (.s (.str s))] => some (p l s, .d (.s (.str (u l s))))
  | _ => none
theorem φSJoin_ok : SpOK Tryd.prog 38 (φSJoin (joinP) (fun l s => Lib.join (unStr l) s)) := by
  intro xs b x h hb
  unfold φSJoin at h
  split at h
  · simp only [Option.some.injEq, Prod.mk.injEq] at h
    obtain ⟨rfl, rfl⟩ := h
    exact StrJoinD_spec _ _ hb
  · cases h
end Go.Proofs.YtflpgbkdjelaaaaDoor

