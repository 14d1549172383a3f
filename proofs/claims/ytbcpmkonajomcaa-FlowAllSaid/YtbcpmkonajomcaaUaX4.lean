/- test -/
import Derived.Test.YtbcpmkonajomcaaUaX3
namespace Go.Proofs.Ytbcpmkonajomcaa
open Go Go.Proofs Go.Ua
set_option linter.unusedVariables false

def strs (l : List (List UInt8)) : List Dat := l.map fun s => .s (.str s)

theorem fr_getD {es : List Dat} {i : Nat} {c : Dat} {iv : Int} (h : es[i]? = some c) (hi : iv = i) : Fam.real .getD es iv = some c := by
  subst hi
  show getI es i = _
  simp [getI, h]
theorem fr_lenD (es : List Dat) : Fam.real .lenD es = es.length := rfl
theorem fr_eqS (a b : List UInt8) : Fam.real .eqS a b = (a == b) := rfl

def idx {α : Type} (p : α → Bool) (l : List α) : Int := match l.findIdx? p with
  | some i => i
  | none => -1

theorem idx_some {α : Type} {p : α → Bool} {l : List α} {i : Nat} (hi : i < l.length) (hp : p l[i] = true) (h : ∀ j (hj : j < l.length), j < i → p l[j] = false) : idx p l = i := by
  have : l.findIdx? p = some i := List.findIdx?_eq_some_iff_getElem.2 ⟨hi, hp, fun j hj => by simp [h j (by omega) hj]⟩
  simp [idx, this]

theorem idx_none {α : Type} {p : α → Bool} {l : List α} (h : ∀ j (hj : j < l.length), p l[j] = false) : idx p l = -1 := by
  have : l.findIdx? p = none := List.findIdx?_eq_none_iff.2 fun x hx => by
    obtain ⟨j, hj, rfl⟩ := List.mem_iff_getElem.1 hx
    exact h j hj
  simp [idx, this]

theorem idx_any {α : Type} (p : α → Bool) (l : List α) : decide (0 ≤ idx p l) = l.any p := by
  cases h : l.findIdx? p with
  | none =>
    have h1 : l.any p = false := by
      rw [List.any_eq_false]
      intro x hx
      simp [List.findIdx?_eq_none_iff.1 h x hx]
    rw [h1]
    simp [idx, h]
  | some i =>
    obtain ⟨hi, hp, _⟩ := List.findIdx?_eq_some_iff_getElem.1 h
    have h1 : l.any p = true := List.any_eq_true.2 ⟨l[i], List.getElem_mem hi, hp⟩
    rw [h1]
    simp [idx, h]

theorem Index_spec (l : List (List UInt8)) (w : List UInt8) (es : List Dat) (he : es = strs l) (hs : l.length < 9223372036854775808) :
    ASpec Try.prog 33 [.d (.view 1 es), .d (.s (.str w))] [] 0 (fun x h' fr' => x = .d (.s (.int .i64 (idx (fun s => w == s) l))) ∧ h' = [] ∧ fr' = 0) := by
  refine ASpec.enter Try.func33 (by kernel_rfl) rfl (Nat.le_of_ble_eq_true rfl) ?_
  intro cx hnt hfr
  obtain ⟨F, hF⟩ := real_ex
  refine AK.run hF tabOK hnt ?_
  conv => arg 4; cbv
  subst hF
  refine AKp.loop ⟨[(8, _), (7, _), (0, _), (1, _)], [], 0⟩ hfr ⟨⟨rfl, rfl⟩, ⟨rfl, rfl⟩, ⟨rfl, rfl⟩, ⟨rfl, rfl⟩, trivial⟩ trivial
    (fun n S => ∃ (i : Nat) (iv lv : Int), i + n = l.length ∧ iv = i ∧ lv = l.length ∧ (∀ j (hj : j < l.length), j < i → (w == l[j]) = false) ∧ S = ⟨[(8, .d (.s (.int .i64 iv))), (7, .d (.s (.int .i64 lv))), (0, .d (.view 1 es)), (1, .d (.s (.str w)))], [], 0⟩)
    l.length ⟨0, _, _, by omega, rfl, ?_, fun j _ hj => absurd hj (by omega), rfl⟩ ?_
  · show ((es.length : Nat) : Int) = _
    rw [he]; simp [strs]
  rintro n S ⟨i, iv, lv, hi, hiv, hlv, hno, rfl⟩
  obtain ⟨F, hF⟩ := real_ex
  refine AK.run hF tabOK hnt ?_
  conv => arg 4; cbv
  cases hb : F .ltI iv lv
  · have hlt := ltI_f hF hb
    conv => arg 4; cbv
    refine AKp.done tabOK rfl rfl hfr ⟨?_, rfl, rfl⟩
    rw [idx_none fun j hj => hno j hj (by omega)]
  · have hlt := ltI_t hF hb
    have hil : i < l.length := by omega
    obtain ⟨x, hx⟩ : ∃ x, x = l[i] := ⟨_, rfl⟩
    have hg : F .getD es iv = some (.s (.str x)) := by rw [hF]; exact fr_getD (by rw [he]; simp [strs, hx, hil]) hiv
    conv => arg 4; cbv
    rw [hg]
    conv => arg 4; cbv
    cases hc : F .eqS w x
    · have hc' : (w == l[i]) = false := by rw [hF] at hc; rw [← hx]; exact hc
      conv => arg 4; cbv
      subst hF
      refine AKp.again ⟨[(8, _), (7, _), (0, _), (1, _)], [], 0⟩ hfr ⟨⟨rfl, rfl⟩, ⟨rfl, rfl⟩, ⟨rfl, rfl⟩, ⟨rfl, rfl⟩, trivial⟩ trivial ⟨n - 1, by omega, i + 1, _, _, by omega, ?_, hlv, ?_, rfl⟩
      · show IntKind.i64.wrap (iv + 1) = _
        rw [wrap_i64 (by omega) (by omega)]
        show iv + 1 = ((i + 1 : Nat) : Int)
        omega
      · intro j hj hji
        rcases Nat.lt_or_ge j i with h | h
        · exact hno j hj h
        · obtain rfl : j = i := by omega
          exact hc'
    · have hc' : (w == l[i]) = true := by rw [hF] at hc; rw [← hx]; exact hc
      conv => arg 4; cbv
      refine AKp.done tabOK rfl rfl hfr ⟨?_, rfl, rfl⟩
      rw [hiv, idx_some hil hc' fun j hj hji => hno j hj hji]
end Go.Proofs.Ytbcpmkonajomcaa
