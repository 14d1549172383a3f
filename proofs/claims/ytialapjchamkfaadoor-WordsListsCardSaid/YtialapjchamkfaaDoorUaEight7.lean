/- slices.Contains; lines. -/
import Derived.Test.YtialapjchamkfaaDoorUaEight6
namespace Go.Proofs.YtialapjchamkfaaDoor
open Go Go.Proofs Go.Ua Go.Extern
set_option linter.unusedVariables false
set_option linter.unusedSimpArgs false

theorem strDs_get {zs : List (List UInt8)} {i : Nat} {s : List UInt8} (h : zs[i]? = some s) : (strDs zs)[i]? = some (.s (.str s)) := by simp [strDs, h]

theorem l_cutD0 {F : Fam} (hF : F = Fam.real) {es : List Dat} {i : Nat} {iv : Int} (hi : iv = i) (h : i ≤ es.length) : F .cutD es 0 iv = some (es.take i) := by
  subst hF; subst hi
  show cutI es 0 (i : Int) = _
  unfold cutI
  rw [if_pos ⟨by omega, by omega, by omega⟩]
  simp

/-- What a list of strings is in memory. -/
theorem view_strs {R : Rd} {zs : List (List UInt8)} {v : Value} (h : RepD R (.view 1 (strDs zs)) v) :
    (zs = [] ∧ ∃ a cap, v = .slice a 0 cap) ∨ (∃ b off cap, v = .slice (some ⟨b, off, none⟩) zs.length cap ∧ zs.length ≤ cap ∧ zs.length ≤ maxLen ∧ ∀ (j : Nat) (s : List UInt8), zs[j]? = some s → R b (off + j) (.string ⟨s.toArray⟩)) := by
  generalize hx : Dat.view 1 (strDs zs) = x at h
  cases h with
  | nil k =>
    injection hx with _ hz
    have : zs = [] := by simpa [strDs] using hz
    exact .inl ⟨this, _, _, rfl⟩
  | view k es a cap f hc hm hsp hk hr h =>
    cases hx
    by_cases h0 : zs = []
    · subst h0
      exact .inl ⟨rfl, _, _, rfl⟩
    · have hs := hsp (by simpa [strDs] using h0)
      have hl : (strDs zs).length = zs.length := by simp [strDs]
      rw [hl] at hc
      refine .inr ⟨a.block, a.off, cap, ?_, hc, Nat.le_trans hc hm, fun j s hj => ?_⟩
      · rw [hl]
        obtain ⟨b, o, sp⟩ := a
        simp only at hs
        subst hs
        rfl
      · have h1 := hr j _ 0 _ (strDs_get hj) rfl
        have h2 := (h j _ 0 _ (strDs_get hj) rfl).sc
        rw [Nat.mul_one, Nat.add_zero, h2] at h1
        exact h1
  | _ => cases hx

theorem Contains_spec (zs : List (List UInt8)) (x : List UInt8) : ESpec Tryd.prog 50 [.d (.view 1 (strDs zs)), .d (.s (.str x))] (fun y => y = .d (.s (.bool (zs.contains x)))) := by
  have hm : maxLen = 9223372036854775807 := by decide
  refine ESpec.grown (enters_of Tryd.func50 (by kernel_rfl) rfl) trivial fun R ι vs w hR hG hl hr => ?_
  obtain ⟨v0, v1, rfl⟩ : ∃ v0 v1, vs = [v0, v1] := by
    match vs, hl with
    | [v0, v1], _ => exact ⟨v0, v1, rfl⟩
  obtain rfl := rep_s (hr 1 _ _ rfl rfl)
  have h0 := rep_d (hr 0 _ _ rfl rfl)
  rcases view_strs h0 with ⟨rfl, a, cap, rfl⟩ | ⟨b, off, cap, rfl, hcap, hmx, hcell⟩
  · refine (Tryd.slices_Contains_string_empty a cap ⟨x.toArray⟩ w).mono ?_
    rintro e w' ⟨rfl, rfl⟩
    exact ⟨rfl, RowKit.Below.refl _ _⟩
  · obtain ⟨L, hL⟩ : ∃ L : List ByteArray, L = zs.map fun s => ⟨s.toArray⟩ := ⟨_, rfl⟩
    have hLl : L.length = zs.length := by rw [hL]; simp
    refine (Tryd.slices_Contains_string b off zs.length cap L ⟨x.toArray⟩ w (by omega) (by omega) (fun j hj => ?_)).mono ?_
    · obtain ⟨s, hs⟩ : ∃ s, zs[j]? = some s := ⟨_, List.getElem?_eq_getElem (by omega)⟩
      rw [hR _ _ _ (hcell j s hs)]
      simp [hL, hs]
    · rintro e w' ⟨rfl, rfl⟩
      refine ⟨?_, RowKit.Below.refl _ _⟩
      have : Lib.containsS (L.take zs.length) ⟨x.toArray⟩ = zs.contains x := by
        rw [← hLl, List.take_length]
        apply Bool.eq_iff_iff.2
        rw [Lib.containsS_iff, hL, List.contains_iff_mem]
        constructor
        · intro h
          obtain ⟨s, hs, e⟩ := List.mem_map.1 h
          have : s = x := by simpa using e
          exact this ▸ hs
        · intro h
          exact List.mem_map.2 ⟨x, h, rfl⟩
      rw [this]
      rfl

/-- A text's lines. -/
def linesF (s : List UInt8) : List (List UInt8) := if (cutF 10 s).getLastD [] = [] then (cutF 10 s).dropLast else cutF 10 s

theorem Lines_spec (s : List UInt8) (hs : s.length < 4294967281) : ESpec Tryd.prog 13 [.d (.s (.str s))] (fun x => x = .d (.view 1 (strDs (linesF s)))) := by
  have sp := ESpec.ofRow (Split_spec s 10 hs)
  have hl1 := cutF_len 10 s
  have hcl := List.count_le_length (a := (10 : UInt8)) (l := s)
  obtain ⟨c10, hc10⟩ : ∃ c : List UInt8, c = [10] := ⟨_, rfl⟩
  rw [← hc10] at sp
  obtain ⟨es, hes⟩ : ∃ z, z = strDs (cutF 10 s) := ⟨_, rfl⟩
  rw [← hes] at sp
  obtain ⟨z, hz⟩ : ∃ z, z = strDs (linesF s) := ⟨_, rfl⟩
  rw [← hz]
  refine ESpec.enter Tryd.func13 (by kernel_rfl) rfl (Nat.le_of_ble_eq_true rfl) fun hok cx hnt hfr => ?_
  obtain ⟨F, hF⟩ := real_ex
  refine AK.run hF tabOK hnt ?_
  conv => arg 4; cbv
  rw [hc10] at sp
  have hne : es ≠ [] := by rw [hes]; simpa [strDs] using cutF_ne 10 s
  have hel : es.length = (cutF 10 s).length := by rw [hes]; simp [strDs]
  have h1 : 1 ≤ es.length := by
    cases es with
    | nil => exact absurd rfl hne
    | cons _ _ => simp
  obtain ⟨iv, hiv⟩ : ∃ z, z = F .wrap .i64 (F .sub (F .lenD es) 1) := ⟨_, rfl⟩
  have hiv' : iv = ((es.length - 1 : Nat) : Int) := by
    rw [hiv, hF]
    show IntKind.i64.wrap ((es.length : Int) - 1) = _
    rw [w_i64 (by omega) (by omega)]
    omega
  obtain ⟨p, hp⟩ : ∃ p, (cutF 10 s)[es.length - 1]? = some p := ⟨_, List.getElem?_eq_getElem (by omega)⟩
  have hlast : (cutF 10 s).getLastD [] = p := by
    rw [List.getLastD_eq_getLast?, List.getLast?_eq_getElem?, ← hel, hp]; rfl
  have hg : F .getD es iv = some (.s (.str p)) := l_getD hF (i := es.length - 1) (by rw [hes]; rw [hes] at hp; exact strDs_get hp) hiv'
  refine AKp.call hF tabOK hnt sp rfl rfl rfl rfl rfl rfl rfl (by repeat' first | exact .refl _ | constructor) ?_
  rintro _ rfl
  conv => arg 4; cbv
  rw [← hiv, hg]
  conv => arg 4; cbv
  cases hb : F .eqS p []
  case' true =>
    have hb' := eqS1 hF hb
    have hzz : z = es.take (es.length - 1) := by
      rw [hz, linesF, if_pos (by rw [hlast, hb'])]
      rw [List.dropLast_eq_take, hes]
      simp [strDs]
    conv => arg 4; cbv
    rw [← hiv, l_cutD0 hF hiv' (by omega), ← hzz]
    conv => arg 4; cbv
    exact AKp.doneE tabOK hfr (by rfl) (by rfl)
  case' false =>
    have hb' := eqS0 hF hb
    conv => arg 4; cbv
    rw [show es = z by rw [hz, linesF, if_neg (by rw [hlast]; exact hb'), hes]]
    exact AKp.doneE tabOK hfr (by rfl) (by rfl)
end Go.Proofs.YtialapjchamkfaaDoor
