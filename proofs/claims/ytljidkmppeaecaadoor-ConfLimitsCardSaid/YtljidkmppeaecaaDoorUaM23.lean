/- The library of this claim and its walks, part 23, joined out of smaller texts. No statement stands in it. -/
import Derived.Test.YtljidkmppeaecaaDoorUaM22
import Derived.Lib.FieldsP
/- The words of a line. -/
namespace Go.Proofs.YtljidkmppeaecaaDoor
open Go Go.Proofs Go.Ua Go.Extern
set_option linter.unusedVariables false
set_option linter.unusedSimpArgs false

def isBlank (x : Nat) : Bool := (x : Int) == 32
def fieldsF (s : List UInt8) : List (List UInt8) := (Lib.goFieldsP isBlank ⟨s.toArray⟩).map (·.data.toList)

theorem FieldsFunc_spec (s : List UInt8) (hs : s.length ≤ 4294967296) (hlen : ∀ p, p ∈ fieldsF s → p.length ≤ maxLen) :
    ASpec Tryd.prog 29 [.d (.s (.str s)), .d (.s (.fn 30))] [] 0 (fun x h' fr' => x = .row 0 1 ∧ h' = [(0, .ds 9 1 (strDs (fieldsF s)))] ∧ fr' = 1) := by
  refine ASpec.rowStrs (enters_of Tryd.func29 (by kernel_rfl) rfl) hlen fun R ι vs w hR hG hl hr => ?_
  obtain ⟨v0, v1, rfl⟩ : ∃ v0 v1, vs = [v0, v1] := by
    match vs, hl with
    | [v0, v1], _ => exact ⟨v0, v1, rfl⟩
  obtain rfl := rep_s (hr 0 _ _ rfl rfl)
  obtain rfl := rep_s (hr 1 _ _ rfl rfl)
  have hp : PredGrows Tryd.prog 30 #[] isBlank w := by
    intro W x hx hb
    refine (ASpec.callsE (space_spec (x : Int)) (w := W) (vs := [.int .i32 x]) rfl (fun b p hg => ?_) fun i y v hy hv => ?_).mono fun e W' h => ?_
    · obtain ⟨cs, t, fz, h1, h2⟩ := hG b p hg
      exact ⟨cs, t, fz, h1, by rw [hb.block b (Array.getElem?_eq_some_iff.1 h2).1]; exact h2⟩
    · match i, hy, hv with
      | 0, hy, hv =>
        cases hy; cases hv
        exact .d _ _ (.s (.int .i32 x) ⟨by show (-2147483648 : Int) ≤ _; omega, by show _ ≤ (2147483647 : Int); omega⟩)
      | i + 1, hy, hv => cases hy
    · exact h
  refine (Tryd.strings_FieldsFunc_grows 30 #[] (fun args w => enters_of Tryd.func30 (by kernel_rfl) rfl args w) isBlank ⟨s.toArray⟩ w (by rw [str_size]; exact hs) hp).mono ?_
  rintro e w' ⟨A, rfl, hA, hown, hb⟩
  refine ⟨_, rfl, ?_, hb⟩
  have e1 : (fieldsF s).map (fun p => Value.string ⟨p.toArray⟩) = (Lib.goFieldsP isBlank ⟨s.toArray⟩).map Value.string := by
    unfold fieldsF
    rw [List.map_map]
    exact List.map_congr_left fun b _ => by simp
  have e2 : (fieldsF s).length = (Lib.goFieldsP isBlank ⟨s.toArray⟩).length := by unfold fieldsF; simp
  rw [e1, e2]
  exact hown

theorem WordsV_spec (s : List UInt8) (hs : s.length ≤ 4294967296) (hlen : ∀ p, p ∈ fieldsF s → p.length ≤ maxLen) : ESpec Tryd.prog 19 [.d (.s (.str s))] (fun x => x = .d (.view 1 (strDs (fieldsF s)))) := by
  have sp := ESpec.ofRow (FieldsFunc_spec s hs hlen)
  obtain ⟨es, hes⟩ : ∃ z, z = strDs (fieldsF s) := ⟨_, rfl⟩
  rw [← hes] at sp ⊢
  refine ESpec.enter Tryd.func19 (by kernel_rfl) rfl (Nat.le_of_ble_eq_true rfl) fun _ cx hnt hfr => ?_
  obtain ⟨F, hF⟩ := real_ex
  refine AK.run hF tabOK hnt ?_
  conv => arg 4; cbv
  refine AKp.call hF tabOK hnt sp rfl rfl rfl rfl rfl rfl rfl (by repeat' first | exact .refl _ | constructor) ?_
  rintro _ rfl
  conv => arg 4; cbv
  exact AKp.doneE tabOK hfr (by rfl) (by rfl)
end Go.Proofs.YtljidkmppeaecaaDoor

/- Powers of two. -/
namespace Go.Proofs.YtljidkmppeaecaaDoor
open Go Go.Proofs Go.Ua Go.Extern
set_option linter.unusedVariables false
set_option linter.unusedSimpArgs false

end Go.Proofs.YtljidkmppeaecaaDoor

/- A piece of an array that nobody writes from now on; formatBits at base 16. -/
namespace Go.Proofs.YtljidkmppeaecaaDoor
open Go Go.Proofs Go.Ua Go.Extern
set_option linter.unusedVariables false
set_option linter.unusedSimpArgs false

end Go.Proofs.YtljidkmppeaecaaDoor

/- The fixed answers; digits. -/
namespace Go.Proofs.YtljidkmppeaecaaDoor
open Go Go.Proofs Go.Ua Go.Extern
set_option linter.unusedVariables false
set_option linter.unusedSimpArgs false

end Go.Proofs.YtljidkmppeaecaaDoor

/- Names are words, words are lists: plain laws. -/
namespace Go.Proofs.YtljidkmppeaecaaDoor
open Go Go.Proofs Go.Ua Go.Extern
set_option linter.unusedVariables false
set_option linter.unusedSimpArgs false

end Go.Proofs.YtljidkmppeaecaaDoor

