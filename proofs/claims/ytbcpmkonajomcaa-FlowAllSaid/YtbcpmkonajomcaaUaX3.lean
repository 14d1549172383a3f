/- test -/
import Derived.Test.YtbcpmkonajomcaaUaX2
import Derived.Test.YtbcpmkonajomcaaUaY
namespace Go.Proofs.Ytbcpmkonajomcaa
open Go Go.Proofs Go.Ua
set_option linter.unusedVariables false

theorem eqI_t {F : Fam} (hF : F = Fam.real) {a b : Int} (h : F .eqI a b = true) : a = b := by
  subst hF; exact eq_of_beq h
theorem eqI_f {F : Fam} (hF : F = Fam.real) {a b : Int} (h : F .eqI a b = false) : ¬ a = b := by
  subst hF; exact ne_of_beq_false h
theorem ltI_t {F : Fam} (hF : F = Fam.real) {a b : Int} (h : F .ltI a b = true) : a < b := by
  subst hF; exact of_decide_eq_true h
theorem ltI_f {F : Fam} (hF : F = Fam.real) {a b : Int} (h : F .ltI a b = false) : ¬ a < b := by
  subst hF; exact of_decide_eq_false h

def reqD (u : List UInt8) (gs : List Dat) (v r sp : List UInt8) (ob : Int) : Dat := .agg [.s (.str u), .view 1 gs, .s (.str v), .s (.str r), .s (.str sp), .s (.int .i64 ob)]

def keyF (b : Int) (u sp : List UInt8) : List UInt8 := if b = 1 then u else if b = 2 then sp else []

theorem Key_spec (b : Int) (u : List UInt8) (gs : List Dat) (v r sp : List UInt8) (ob : Int) :
    ASpec Try.prog 13 [.d (.s (.int .i64 b)), .d (reqD u gs v r sp ob)] [] 0 (fun x h' fr' => x = .d (.s (.str (keyF b u sp))) ∧ h' = [] ∧ fr' = 0) := by
  refine ASpec.enter Try.func13 (by kernel_rfl) rfl (Nat.le_of_ble_eq_true rfl) ?_
  intro cx hnt hfr
  obtain ⟨F, hF⟩ := real_ex
  refine AK.run hF tabOK hnt ?_
  conv => arg 4; cbv
  cases hb : F .eqI b 1
  · conv => arg 4; cbv
    cases hb2 : F .eqI b 2
    · conv => arg 4; cbv
      exact AKp.done tabOK rfl rfl hfr ⟨by rw [keyF, if_neg (eqI_f hF hb), if_neg (eqI_f hF hb2)], rfl, rfl⟩
    · conv => arg 4; cbv
      exact AKp.done tabOK rfl rfl hfr ⟨by rw [keyF, if_neg (eqI_f hF hb), if_pos (eqI_t hF hb2)], rfl, rfl⟩
  · conv => arg 4; cbv
    exact AKp.done tabOK rfl rfl hfr ⟨by rw [keyF, if_pos (eqI_t hF hb)], rfl, rfl⟩

theorem refKey_spec (b : Int) (u : List UInt8) (gs : List Dat) (v r sp : List UInt8) (ob : Int) :
    ASpec Try.prog 14 [.d (.s (.int .i64 b)), .d (reqD u gs v r sp ob)] [] 0 (fun x h' fr' => x = .d (.s (.str (keyF b u sp))) ∧ h' = [] ∧ fr' = 0) := by
  refine ASpec.enter Try.func14 (by kernel_rfl) rfl (Nat.le_of_ble_eq_true rfl) ?_
  intro cx hnt hfr
  obtain ⟨F, hF⟩ := real_ex
  refine AK.run hF tabOK hnt ?_
  conv => arg 4; cbv
  cases hb : F .eqI b 1
  · conv => arg 4; cbv
    cases hb2 : F .eqI b 2
    · conv => arg 4; cbv
      exact AKp.done tabOK rfl rfl hfr ⟨by rw [keyF, if_neg (eqI_f hF hb), if_neg (eqI_f hF hb2)], rfl, rfl⟩
    · conv => arg 4; cbv
      exact AKp.done tabOK rfl rfl hfr ⟨by rw [keyF, if_neg (eqI_f hF hb), if_pos (eqI_t hF hb2)], rfl, rfl⟩
  · conv => arg 4; cbv
    exact AKp.done tabOK rfl rfl hfr ⟨by rw [keyF, if_pos (eqI_t hF hb)], rfl, rfl⟩

theorem Sum_spec (s : List UInt8) (hs : s.length < 9223372036854775808) : ASpec Try.prog 22 [.d (.s (.str s))] [] 0 (fun x h' fr' => x = .d (.s (.int .u64 (moreF 14695981039346656037 s))) ∧ h' = [] ∧ fr' = 0) := by
  refine ASpec.enter Try.func22 (by kernel_rfl) rfl (Nat.le_of_ble_eq_true rfl) ?_
  intro cx hnt hfr
  obtain ⟨F, hF⟩ := real_ex
  refine AK.run hF tabOK hnt ?_
  conv => arg 4; cbv
  have sp := More_spec 14695981039346656037 s hs
  generalize hy : moreF 14695981039346656037 s = y at sp ⊢
  refine AK.call0 sp rfl rfl rfl (fun d hd => ?_) rfl rfl rfl ?_
  · cases hd; rw [hnt]; exact Nat.le_of_ble_eq_true rfl
  · rintro x h' fr' ⟨rfl, rfl, rfl⟩
    refine AK.run hF tabOK hnt ?_
    conv => arg 4; cbv
    exact AKp.done tabOK rfl rfl hfr ⟨rfl, rfl, rfl⟩

theorem fFlow_spec (s k : List UInt8) (hs : s.length < 9223372036854775808) (hk : k.length < 9223372036854775808) :
    ASpec Try.prog 15 [.d (.s (.str s)), .d (.s (.str k))] [] 0 (fun x h' fr' => x = .d (.s (.int .u64 (moreF (moreF (moreF 14695981039346656037 s) [0]) k))) ∧ h' = [] ∧ fr' = 0) := by
  refine ASpec.enter Try.func15 (by kernel_rfl) rfl (Nat.le_of_ble_eq_true rfl) ?_
  intro cx hnt hfr
  obtain ⟨F, hF⟩ := real_ex
  refine AK.run hF tabOK hnt ?_
  conv => arg 4; cbv
  refine AKp.drawn ?_
  refine DK.runV hF tabOK hnt hfr 0 ?_
  conv => arg 8; cbv
  have sp1 := Sum_spec s hs
  generalize hy1 : moreF 14695981039346656037 s = y1 at sp1 ⊢
  refine DK.call0 sp1 (.d (.s (.int .u64 y1))) rfl rfl rfl (fun d hd => ?_) rfl rfl rfl (fun x h' fr' => ?_) ?_
  · cases hd; rw [hnt]; exact Nat.le_of_ble_eq_true rfl
  · rintro ⟨rfl, rfl, rfl⟩; exact ⟨rfl, rfl, rfl⟩
  refine DK.runV hF tabOK hnt hfr 2 ?_
  conv => arg 8; cbv
  have hg : F .strD [.s (.int .u8 0)] = some [0] := by rw [hF]; rfl
  rw [hg]
  conv => arg 8; cbv
  have sp2 := More_spec y1 [0] (by decide)
  generalize hy2 : moreF y1 [0] = y2 at sp2 ⊢
  refine DK.call0 sp2 (.d (.s (.int .u64 y2))) rfl rfl rfl (fun d hd => ?_) rfl rfl rfl (fun x h' fr' => ?_) ?_
  · cases hd; rw [hnt]; exact Nat.le_of_ble_eq_true rfl
  · rintro ⟨rfl, rfl, rfl⟩; exact ⟨rfl, rfl, rfl⟩
  refine DK.runV hF tabOK hnt hfr 5 ?_
  conv => arg 8; cbv
  have sp3 := More_spec y2 k hk
  generalize hy3 : moreF y2 k = y3 at sp3 ⊢
  refine DK.call0 sp3 (.d (.s (.int .u64 y3))) rfl rfl rfl (fun d hd => ?_) rfl rfl rfl (fun x h' fr' => ?_) ?_
  · cases hd; rw [hnt]; exact Nat.le_of_ble_eq_true rfl
  · rintro ⟨rfl, rfl, rfl⟩; exact ⟨rfl, rfl, rfl⟩
  refine DK.fin (by kernel_rfl) (by decide) ?_
  refine AK.run hF tabOK hnt ?_
  conv => arg 4; cbv
  exact AKp.done tabOK rfl rfl hfr ⟨rfl, rfl, rfl⟩
end Go.Proofs.Ytbcpmkonajomcaa
