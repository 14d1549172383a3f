/- The library of this claim and its walks, part 17, joined out of smaller texts. No statement stands in it. -/
import Derived.Test.YtpmpajodihpkaaaGreatDoorUaM16
import Derived.Lib.AppendIntMem
import Derived.Lib.ItoaLen
set_option linter.unusedSimpArgs false
set_option linter.unusedVariables false
namespace Go.Ua
open Go Go.Proofs
section
variable {F : Fam} (hF : F = Fam.real)
include hF
theorem l_lenS (u : List UInt8) : F .lenS u = u.length := by subst hF; rfl
theorem l_lenD (es : List Dat) : F .lenD es = es.length := by subst hF; rfl
theorem l_leI (a b : Int) : F .leI a b = decide (a ≤ b) := by rw [hF]; rfl
theorem l_not0 : F .not false = true := by rw [hF]; rfl
theorem l_not1 : F .not true = false := by rw [hF]; rfl
theorem ltI1 {a b : Int} (h : F .ltI a b = true) : a < b := by rw [hF] at h; exact of_decide_eq_true h
theorem ltI0 {a b : Int} (h : F .ltI a b = false) : ¬ a < b := by rw [hF] at h; exact of_decide_eq_false h
theorem leI1 {a b : Int} (h : F .leI a b = true) : a ≤ b := by rw [hF] at h; exact of_decide_eq_true h
theorem leI0 {a b : Int} (h : F .leI a b = false) : ¬ a ≤ b := by rw [hF] at h; exact of_decide_eq_false h
theorem eqI1 {a b : Int} (h : F .eqI a b = true) : a = b := by rw [hF] at h; exact eq_of_beq h
theorem eqI0 {a b : Int} (h : F .eqI a b = false) : a ≠ b := by
 rw [hF] at h
 intro e
 subst e
 have : (a == a) = true := by simp
 exact absurd (this.symm.trans h) (by decide)
theorem eqS1 {a b : List UInt8} (h : F .eqS a b = true) : a = b := by rw [hF] at h; exact eq_of_beq h
theorem eqS0 {a b : List UInt8} (h : F .eqS a b = false) : a ≠ b := by
 rw [hF] at h
 intro e
 subst e
 have : (a == a) = true := by simp
 exact absurd (this.symm.trans h) (by decide)
theorem l_getS {s : List UInt8} {i : Nat} {c : UInt8} {iv : Int} (h : s[i]? = some c) (hi : iv = i) : F .getS s iv = some (c.toNat : Int) := by
 subst hF; subst hi
 show (getI s (i : Int)).map _ = _
 simp [getI, h]
theorem l_getD {es : List Dat} {i : Nat} {d : Dat} {iv : Int} (h : es[i]? = some d) (hi : iv = i) : F .getD es iv = some d := by
 subst hF; subst hi
 show getI es (i : Int) = some d
 simp [getI, h]
end
theorem w_i64 {n : Int} (h0 : -9223372036854775808 ≤ n) (h : n ≤ 9223372036854775807) : IntKind.i64.wrap n = n := by
 simp only [IntKind.wrap, IntKind.bits, IntKind.signed]
 simp
 split <;> omega
theorem w_u8 {n : Int} (h0 : 0 ≤ n) (h : n < 256) : IntKind.u8.wrap n = n := by
 simp only [IntKind.wrap, IntKind.bits, IntKind.signed]
 simp
 omega
theorem inc_i {F : Fam} (hF : F = Fam.real) {iv : Int} {i : Nat} (hiv : iv = i) (hn : i < 9223372036854775807) : F .wrap .i64 (F .add iv 1) = ((i + 1 : Nat) : Int) := by
 rw [hF, hiv]
 show IntKind.i64.wrap ((i : Int) + 1) = _
 rw [w_i64 (by omega) (by omega)]
 omega
section
variable {F : Fam} (hF : F = Fam.real)
include hF
theorem l_digit {k : Nat} {v : Int} (hv : v = k) (hk : k < 10) : F .strD [.s (.int .u8 (F .wrap .u8 (F .wrap .i64 (F .add 48 v))))] = some [UInt8.ofNat (48 + k)] := by
 rw [hF, hv]
 show strOf [.s (.int .u8 (IntKind.u8.wrap (IntKind.i64.wrap (48 + (k : Int)))))] = _
 rw [w_i64 (by omega) (by omega), w_u8 (by omega) (by omega)]
 have e1 : (48 + (k : Int)).toNat = 48 + k := by omega
 have e2 : (UInt8.ofNat (48 + k)).toNat = 48 + k := by simp; omega
 simp only [strOf, e1, e2]
 rw [if_pos (by omega)]
theorem l_rem10 {k : Nat} {v : Int} (hv : v = k) : F .tmod v 10 = ((k % 10 : Nat) : Int) := by
 rw [hF, hv]; rfl
theorem l_div10 {k : Nat} {v : Int} (hv : v = k) (hk : k ≤ 9223372036854775807) : F .wrap .i64 (F .tdiv v 10) = ((k / 10 : Nat) : Int) := by
 rw [hF, hv]
 show IntKind.i64.wrap (Int.tdiv (k : Int) 10) = _
 rw [show Int.tdiv (k : Int) 10 = ((k / 10 : Nat) : Int) from rfl, w_i64 (by omega) (by omega)]
end
theorem itoa_nat (n : Nat) : Lib.itoa (n : Int) = Lib.decDigits n := by
 unfold Lib.itoa
 rw [if_neg (by omega)]
 simp
theorem decDigits_le (n : Nat) (hn : n ≤ 9223372036854775807) : (Lib.decDigits n).length ≤ 21 := by
 rw [← itoa_nat]
 exact Lib.itoa_length_le _ (by omega) (by omega)
end Go.Ua
