/- The library of this claim and its walks, part 17, joined out of smaller texts. No statement stands in it. -/
import Derived.Test.YtpmpajodihpkaaaDoorUaM16
import Derived.Lib.AppendIntMem
import Derived.Lib.ItoaLen
/- The arithmetic behind the variable 'F', as one meets it; the library's words. A library of this claim's own: no statement stands in it. -/
namespace Go.Ua
open Go Go.Proofs
set_option linter.unusedVariables false
set_option linter.unusedSimpArgs false

section
variable {F : Fam} (hF : F = Fam.real)
include hF
theorem l_lenS (u : List UInt8) : F .lenS u = u.length := by subst hF; rfl
theorem l_lenD (es : List Dat) : F .lenD es = es.length := by subst hF; rfl
theorem l_leI (a b : Int) : F .leI a b = decide (a ≤ b) := by rw [hF]; rfl
theorem l_not0 : F .not false = true := by rw [hF]; rfl
theorem l_not1 : F .not true = false := by rw [hF]; rfl
theorem ltI1 {a b : Int} (h : F .ltI a b = true) : a < b := by rw [hF] at h; exact of_decide_eq_true h
theorem ltI0 {a b : Int} (h : F .ltI a b = false) : ¬ a < b := by rw [hF] at h; exact of_decide_eq_false h
theorem leI1 {a b : Int} (h : F .leI a b = true) : a ≤ b := by rw [hF] at h; exact of_decide_eq_true h
theorem leI0 {a b : Int} (h : F .leI a b = false) : ¬ a ≤ b := by rw [hF] at h; exact of_decide_eq_false h
theorem eqI1 {a b : Int} (h : F .eqI a b = true) : a = b := by rw [hF] at h; exact eq_of_beq h
theorem eqI0 {a b : Int} (h : F .eqI a b = false) : a ≠ b := by
  rw [hF] at h
  intro e
  subst e
  have : (a == a) = true := by simp
  exact absurd (this.symm.trans h) (by decide)
theorem eqS1 {a b : List UInt8} (h : F .eqS a b = true) : a = b := by rw [hF] at h; exact eq_of_beq h
theorem eqS0 {a b : List UInt8} (h : F .eqS a b = false) : a ≠ b := by
  rw [hF] at h
  intro e
  subst e
  have : (a == a) = true := by simp
  exact absurd (this.symm.trans h) (by decide)
theorem l_getS {s : List UInt8} {i : Nat} {c : UInt8} {iv : Int} (h : s[i]? = some c) (hi : iv = i) : F .getS s iv = some (c.toNat : Int) := by
  subst hF; subst hi
  show (getI s (i : Int)).map _ = _
  simp [getI, h]
theorem l_getD {es : List Dat} {i : Nat} {d : Dat} {iv : Int} (h : es[i]? = some d) (hi : iv = i) : F .getD es iv = some d := by
  subst hF; subst hi
  show getI es (i : Int) = some d
  simp [getI, h]
end

theorem w_i64 {n : Int} (h0 : -9223372036854775808 ≤ n) (h : n ≤ 9223372036854775807) : IntKind.i64.wrap n = n := by
  simp only [IntKind.wrap, IntKind.bits, IntKind.signed]
  simp
  split <;> omega
theorem inc_i {F : Fam} (hF : F = Fam.real) {iv : Int} {i : Nat} (hiv : iv = i) (hn : i < 9223372036854775807) : F .wrap .i64 (F .add iv 1) = ((i + 1 : Nat) : Int) := by
  rw [hF, hiv]
  show IntKind.i64.wrap ((i : Int) + 1) = _
  rw [w_i64 (by omega) (by omega)]
  omega

section
variable {F : Fam} (hF : F = Fam.real)
include hF
end

end Go.Ua

