/- test -/
import Derived.Test.YtbcpmkonajomcaaUaX11
namespace Go.Proofs.Ytbcpmkonajomcaa
open Go Go.Proofs Go.Ua
set_option linter.unusedVariables false

theorem f_lenS {F : Fam} (hF : F = Fam.real) (u : List UInt8) : F .lenS u = u.length := by subst hF; rfl
theorem f_lenD {F : Fam} (hF : F = Fam.real) (u : List Dat) : F .lenD u = u.length := by subst hF; rfl

def ReqF.small (q : ReqF) : Prop := q.user.length ≤ 1000 ∧ q.verb.length ≤ 1000 ∧ q.resource.length ≤ 1000 ∧ q.space.length ≤ 1000 ∧ q.groups.length ≤ 40 ∧ ∀ g, g ∈ q.groups → g.length ≤ 1000

theorem reqSmall_spec (q : ReqF) : ∃ b : Bool, (b = true ↔ q.small) ∧ ASpec Try.prog 9 [.d q.dat] [] 0 (fun x h' fr' => x = .d (.s (.bool b)) ∧ h' = [] ∧ fr' = 0) := by
  refine ⟨@decide q.small (Classical.propDecidable _), @decide_eq_true_iff _ (Classical.propDecidable _), ?_⟩
  generalize hz : @decide q.small (Classical.propDecidable _) = z
  have hzf : ¬ q.small → z = false := fun h => by rw [← hz]; exact @decide_eq_false _ (Classical.propDecidable _) h
  have hzt : q.small → z = true := fun h => by rw [← hz]; exact @decide_eq_true _ (Classical.propDecidable _) h
  clear hz
  obtain ⟨u, gs, v, re, ss, ob⟩ := q
  unfold ReqF.dat reqD
  unfold ReqF.small at hzf hzt
  simp only at hzf hzt ⊢
  obtain ⟨eg, heg⟩ : ∃ e, e = strs gs := ⟨_, rfl⟩
  rw [← heg]
  have hegl : eg.length = gs.length := by rw [heg]; simp [strs]
  refine ASpec.enter Try.func9 (by kernel_rfl) rfl (Nat.le_of_ble_eq_true rfl) ?_
  intro cx hnt hfr
  obtain ⟨F, hF⟩ := real_ex
  refine AK.run hF tabOK hnt ?_
  conv => arg 4; cbv
  cases b0 : F .ltI 1000 (F .lenS u)
  rotate_left
  · have c0 := ltI_t hF b0
    rw [f_lenS hF] at c0
    conv => arg 4; cbv
    exact AKp.done tabOK rfl rfl hfr ⟨by rw [hzf (fun h => by have := h.1; have := h.2.1; have := h.2.2.1; have := h.2.2.2.1; have := h.2.2.2.2.1; omega)], rfl, rfl⟩
  have c0 := ltI_f hF b0
  rw [f_lenS hF] at c0
  conv => arg 4; cbv
  cases b1 : F .ltI 1000 (F .lenS v)
  rotate_left
  · have c1 := ltI_t hF b1
    rw [f_lenS hF] at c1
    conv => arg 4; cbv
    exact AKp.done tabOK rfl rfl hfr ⟨by rw [hzf (fun h => by have := h.1; have := h.2.1; have := h.2.2.1; have := h.2.2.2.1; have := h.2.2.2.2.1; omega)], rfl, rfl⟩
  have c1 := ltI_f hF b1
  rw [f_lenS hF] at c1
  conv => arg 4; cbv
  cases b2 : F .ltI 1000 (F .lenS re)
  rotate_left
  · have c2 := ltI_t hF b2
    rw [f_lenS hF] at c2
    conv => arg 4; cbv
    exact AKp.done tabOK rfl rfl hfr ⟨by rw [hzf (fun h => by have := h.1; have := h.2.1; have := h.2.2.1; have := h.2.2.2.1; have := h.2.2.2.2.1; omega)], rfl, rfl⟩
  have c2 := ltI_f hF b2
  rw [f_lenS hF] at c2
  conv => arg 4; cbv
  cases b3 : F .ltI 1000 (F .lenS ss)
  rotate_left
  · have c3 := ltI_t hF b3
    rw [f_lenS hF] at c3
    conv => arg 4; cbv
    exact AKp.done tabOK rfl rfl hfr ⟨by rw [hzf (fun h => by have := h.1; have := h.2.1; have := h.2.2.1; have := h.2.2.2.1; have := h.2.2.2.2.1; omega)], rfl, rfl⟩
  have c3 := ltI_f hF b3
  rw [f_lenS hF] at c3
  conv => arg 4; cbv
  cases b4 : F .ltI 40 (F .lenD eg)
  rotate_left
  · have c4 := ltI_t hF b4
    rw [f_lenD hF] at c4
    conv => arg 4; cbv
    exact AKp.done tabOK rfl rfl hfr ⟨by rw [hzf (fun h => by have := h.1; have := h.2.1; have := h.2.2.1; have := h.2.2.2.1; have := h.2.2.2.2.1; omega)], rfl, rfl⟩
  have c4 := ltI_f hF b4
  rw [f_lenD hF] at c4
  conv => arg 4; cbv
  subst hF
  refine AKp.loop ⟨[(3, _), (1, _)], [(0, _)], 1⟩ hfr ⟨⟨rfl, rfl⟩, ⟨rfl, rfl⟩, trivial⟩ ⟨⟨rfl, rfl, rfl⟩, trivial⟩
    (fun n S => ∃ (i : Nat) (iv : Int), i + n = gs.length ∧ iv = i ∧ (∀ j (hj : j < gs.length), j < i → gs[j].length ≤ 1000) ∧
      S = ⟨[(3, .d (.s (.int .i64 iv))), (1, .ptr 0 0 0 6)], [(0, .cs 25 [.d (.s (.str u)), .d (.view 1 eg), .d (.s (.str v)), .d (.s (.str re)), .d (.s (.str ss)), .d (.s (.int .i64 ob))])], 1⟩)
    gs.length ⟨0, _, by omega, rfl, fun j _ hj => absurd hj (by omega), rfl⟩ ?_
  rintro n S ⟨i, iv, hi, hiv, hno, rfl⟩
  obtain ⟨F, hF⟩ := real_ex
  refine AK.run hF tabOK hnt ?_
  conv => arg 4; cbv
  cases hb : F .ltI iv (F .lenD eg)
  · have hlt := ltI_f hF hb
    rw [f_lenD hF] at hlt
    conv => arg 4; cbv
    refine AKp.done tabOK rfl rfl hfr ⟨?_, rfl, rfl⟩
    rw [hzt ⟨by omega, by omega, by omega, by omega, by omega, fun g hg => by
      obtain ⟨j, hj, rfl⟩ := List.mem_iff_getElem.1 hg
      exact hno j hj (by omega)⟩]
  · have hlt := ltI_t hF hb
    rw [f_lenD hF] at hlt
    have hil : i < gs.length := by omega
    obtain ⟨y, hy⟩ : ∃ y, y = gs[i] := ⟨_, rfl⟩
    have hg : F .getD eg iv = some (.s (.str y)) := by rw [hF]; exact fr_getD (by rw [heg]; simp [strs, hy, hil]) hiv
    conv => arg 4; cbv
    rw [hg]
    conv => arg 4; cbv
    cases hc : F .ltI 1000 (F .lenS y)
    · have hc' := ltI_f hF hc
      rw [f_lenS hF] at hc'
      conv => arg 4; cbv
      subst hF
      refine AKp.again ⟨[(3, _), (1, _)], [(0, _)], 1⟩ hfr ⟨⟨rfl, rfl⟩, ⟨rfl, rfl⟩, trivial⟩ ⟨⟨rfl, rfl, rfl⟩, trivial⟩ ⟨n - 1, by omega, i + 1, _, by omega, ?_, ?_, rfl⟩
      · show IntKind.i64.wrap (iv + 1) = _
        rw [wrap_i64 (by omega) (by omega)]
        show iv + 1 = ((i + 1 : Nat) : Int)
        omega
      · intro j hj hji
        rcases Nat.lt_or_ge j i with h | h
        · exact hno j hj h
        · obtain rfl : j = i := by omega
          rw [← hy]
          omega
    · have hc' := ltI_t hF hc
      rw [f_lenS hF] at hc'
      conv => arg 4; cbv
      refine AKp.done tabOK rfl rfl hfr ⟨?_, rfl, rfl⟩
      rw [hzf fun h => by
        have := h.2.2.2.2.2 gs[i] (List.getElem_mem hil)
        rw [← hy] at this
        omega]
end Go.Proofs.Ytbcpmkonajomcaa

