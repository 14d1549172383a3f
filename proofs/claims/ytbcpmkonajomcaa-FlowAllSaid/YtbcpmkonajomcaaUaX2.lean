/- test -/
import Derived.Test.YtbcpmkonajomcaaUaX1
namespace Go.Proofs.Ytbcpmkonajomcaa
open Go Go.Proofs Go.Ua
set_option linter.unusedVariables false

theorem fr_getS {s : List UInt8} {i : Nat} {c : UInt8} {iv cv : Int} (h : s[i]? = some c) (hi : iv = i) (hc : cv = c.toNat) : Fam.real .getS s iv = some cv := by
  subst hi; subst hc
  show (getI s i).map _ = _
  simp [getI, h]

def moreF (h : Int) (l : List UInt8) : Int := l.foldl (fun h c => IntKind.u64.wrap (Go.bits .xor .u64 h (IntKind.u64.wrap c.toNat) * 1099511628211)) h

theorem moreF_snoc (h : Int) (l : List UInt8) (c : UInt8) : moreF h (l ++ [c]) = IntKind.u64.wrap (Go.bits .xor .u64 (moreF h l) (IntKind.u64.wrap c.toNat) * 1099511628211) := by
  simp [moreF, List.foldl_append]

theorem More_spec (h : Int) (s : List UInt8) (hs : s.length < 9223372036854775808) : ASpec Try.prog 21 [.d (.s (.int .u64 h)), .d (.s (.str s))] [] 0 (fun x h' fr' => x = .d (.s (.int .u64 (moreF h s))) ∧ h' = [] ∧ fr' = 0) := by
  refine ASpec.enter Try.func21 (by kernel_rfl) rfl (Nat.le_of_ble_eq_true rfl) ?_
  intro cx hnt hfr
  obtain ⟨F, hF⟩ := real_ex
  refine AK.run hF tabOK hnt ?_
  conv => arg 4; cbv
  subst hF
  refine AKp.loop ⟨[(8, _), (7, _), (0, _), (1, _)], [], 0⟩ hfr ⟨⟨rfl, rfl⟩, ⟨rfl, rfl⟩, ⟨rfl, rfl⟩, ⟨rfl, rfl⟩, trivial⟩ trivial
    (fun n S => ∃ (i : Nat) (iv lv hv : Int), i + n = s.length ∧ iv = i ∧ lv = s.length ∧ hv = moreF h (s.take i) ∧ S = ⟨[(8, .d (.s (.int .i64 iv))), (7, .d (.s (.int .i64 lv))), (0, .d (.s (.int .u64 hv))), (1, .d (.s (.str s)))], [], 0⟩) s.length ⟨0, _, _, _, by omega, rfl, rfl, rfl, rfl⟩ ?_
  rintro n S ⟨i, iv, lv, hv, hi, hiv, hlv, hhv, rfl⟩
  obtain ⟨F, hF⟩ := real_ex
  refine AK.run hF tabOK hnt ?_
  conv => arg 4; cbv
  cases hb : F .ltI iv lv
  · have hlt : ¬ iv < lv := by rw [hF] at hb; exact of_decide_eq_false hb
    conv => arg 4; cbv
    refine AKp.done tabOK rfl rfl hfr ⟨?_, rfl, rfl⟩
    rw [hhv, List.take_of_length_le (by omega)]
  · have hlt : iv < lv := by rw [hF] at hb; exact of_decide_eq_true hb
    have hil : i < s.length := by omega
    obtain ⟨cv, hcv⟩ : ∃ cv : Int, cv = s[i].toNat := ⟨_, rfl⟩
    have hg : F .getS s iv = some cv := by rw [hF]; exact fr_getS (List.getElem?_eq_getElem hil) hiv hcv
    conv => arg 4; cbv
    rw [hg]
    conv => arg 4; cbv
    subst hF
    refine AKp.again ⟨[(8, _), (7, _), (0, _), (1, _)], [], 0⟩ hfr ⟨⟨rfl, rfl⟩, ⟨rfl, rfl⟩, ⟨rfl, rfl⟩, ⟨rfl, rfl⟩, trivial⟩ trivial ⟨n - 1, by omega, i + 1, _, _, _, by omega, ?_, hlv, ?_, rfl⟩
    · show IntKind.i64.wrap (iv + 1) = _
      rw [wrap_i64 (by omega) (by omega)]
      show iv + 1 = ((i + 1 : Nat) : Int)
      omega
    · show IntKind.u64.wrap (Go.bits .xor .u64 hv (IntKind.u64.wrap cv) * 1099511628211) = _
      rw [List.take_succ_eq_append_getElem hil, moreF_snoc, hhv, hcv]
end Go.Proofs.Ytbcpmkonajomcaa
