/- The words of an error. -/
import Derived.Test.YtfblglnfplpagaaDoorUaNine13
namespace Go.Proofs.YtfblglnfplpagaaDoor
open Go Go.Proofs Go.Ua Go.Extern
set_option linter.unusedVariables false
set_option linter.unusedSimpArgs false

def I64 (n : Int) : Prop := -9223372036854775808 ≤ n ∧ n ≤ 9223372036854775807

theorem lineF_ok : ∀ e : ErrF, Dok e.dat → I64 (lineF e)
  | .nil, _ => ⟨by show (_ : Int) ≤ _; simp [lineF, codeF, ErrF.num?], by show (_ : Int) ≤ _; simp [lineF, codeF, ErrF.num?]⟩
  | .num _, _ => ⟨by show (_ : Int) ≤ _; simp [lineF, codeF, ErrF.num?], by show (_ : Int) ≤ _; simp [lineF, codeF, ErrF.num?]⟩
  | .other _, _ => ⟨by show (_ : Int) ≤ _; simp [lineF, codeF, ErrF.num?], by show (_ : Int) ≤ _; simp [lineF, codeF, ErrF.num?]⟩
  | .flt l w e, h => by
    simp only [lineF]
    split
    · exact h.1
    · exact lineF_ok e h.2.2.1
theorem codeF_ok (e : ErrF) (h : Dok e.dat) : I64 (codeF e) := by
  have key : ∀ e : ErrF, Dok e.dat → I64 (e.num?.getD 1) := by
    intro e
    induction e with
    | nil => intro _; exact ⟨by show (_ : Int) ≤ _; simp [lineF, codeF, ErrF.num?], by show (_ : Int) ≤ _; simp [lineF, codeF, ErrF.num?]⟩
    | num n => intro h; exact h
    | other m => intro _; exact ⟨by show (_ : Int) ≤ _; simp [lineF, codeF, ErrF.num?], by show (_ : Int) ≤ _; simp [lineF, codeF, ErrF.num?]⟩
    | flt l w e ih => intro h; exact ih h.2.2.1
  cases e with
  | nil => exact ⟨by show (_ : Int) ≤ _; simp [lineF, codeF, ErrF.num?], by show (_ : Int) ≤ _; simp [lineF, codeF, ErrF.num?]⟩
  | num n => exact key _ h
  | other m => exact key _ h
  | flt l w e => exact key _ h

def errorT : List UInt8 := [101, 114, 114, 111, 114, 32]
def lineT : List UInt8 := [108, 105, 110, 101, 32]
def textOf (n : Int) (w : List UInt8) (c : Int) : List UInt8 :=
  (if 0 < n then (lineT ++ Lib.itoa n) ++ [58, 32] else []) ++ ((if w ≠ [] then w ++ [58, 32] else []) ++ (errorT ++ Lib.itoa c))

theorem itoa_ok {n : Int} (h : I64 n) : (Lib.itoa n).length ≤ 21 := Lib.itoa_length_le n h.1 h.2

theorem ErrnoError_spec (n : Int) : ESpec Tryd.prog 26 [.d (.s (.int .i64 n))] (fun x => x = .d (.s (.str (errorT ++ Lib.itoa n)))) := by
  have s1 := Itoa_spec n
  obtain ⟨I, hI⟩ : ∃ z, z = Lib.itoa n := ⟨_, rfl⟩
  obtain ⟨T, hT⟩ : ∃ z, z = errorT ++ Lib.itoa n := ⟨_, rfl⟩
  rw [← hT]
  rw [← hI] at s1 hT
  refine ESpec.enter Tryd.func26 (by kernel_rfl) rfl (Nat.le_of_ble_eq_true rfl) fun hok cx hnt hfr => ?_
  have hl : I.length ≤ 21 := by rw [hI]; exact itoa_ok hok.1
  obtain ⟨F, hF⟩ := real_ex
  refine AK.run hF tabOK hnt ?_
  conv => arg 4; cbv
  refine AKp.call hF tabOK hnt s1 rfl rfl rfl rfl rfl rfl rfl (by repeat' first | exact .refl _ | constructor) ?_
  rintro _ rfl
  conv => arg 4; cbv
  rw [f_cat hF (a := [101, 114, 114, 111, 114, 32]) (b := I) (Nat.le_trans (by simp; omega) (show 27 ≤ maxLen by decide)), show [101, 114, 114, 111, 114, 32] ++ I = T from hT.symm]
  conv => arg 4; cbv
  exact AKp.doneE tabOK hfr (by rfl) (by rfl)

theorem Error_spec (l : Int) (w0 : List UInt8) (e : ErrF) (hw : (whatF (.flt l w0 e)).length ≤ 4611686018427387904) :
    ESpec Tryd.prog 21 [.d (.agg [.s (.int .i64 l), .s (.str w0), e.dat])] (fun x => x = .d (.s (.str (textOf (lineF (.flt l w0 e)) (whatF (.flt l w0 e)) (codeF (.flt l w0 e)))))) := by
  have s1 := ESpec.up (Line_spec (.flt l w0 e))
  have s2 := ESpec.up (What_spec (.flt l w0 e))
  have s3 := ESpec.up (Code_spec (.flt l w0 e))
  have s4 := Itoa_spec (lineF (.flt l w0 e))
  have s5 := ErrnoError_spec (codeF (.flt l w0 e))
  have r1 := lineF_ok (.flt l w0 e)
  have r2 := codeF_ok (.flt l w0 e)
  simp only [ErrF.dat] at s1 s2 s3 r1 r2
  obtain ⟨ed, hed⟩ : ∃ z, z = e.dat := ⟨_, rfl⟩
  rw [← hed] at s1 s2 s3 r1 r2 ⊢
  generalize lineF (.flt l w0 e) = n at *
  generalize whatF (.flt l w0 e) = w at *
  generalize codeF (.flt l w0 e) = c at *
  obtain ⟨T, hT⟩ : ∃ z, z = textOf n w c := ⟨_, rfl⟩
  rw [← hT]
  unfold textOf at hT
  obtain ⟨I, hI⟩ : ∃ z, z = Lib.itoa n := ⟨_, rfl⟩
  obtain ⟨C, hC⟩ : ∃ z, z = errorT ++ Lib.itoa c := ⟨_, rfl⟩
  rw [← hI] at s4 hT
  rw [← hC] at s5 hT
  refine ESpec.enter Tryd.func21 (by kernel_rfl) rfl (Nat.le_of_ble_eq_true rfl) fun hok cx hnt hfr => ?_
  have hIl : I.length ≤ 21 := by rw [hI]; exact itoa_ok (r1 hok.1)
  have hCl : C.length ≤ 27 := by rw [hC]; have := itoa_ok (r2 hok.1); simp [errorT]; omega
  have hm : maxLen = 9223372036854775807 := by decide
  obtain ⟨F, hF⟩ := real_ex
  refine AK.run hF tabOK hnt ?_
  conv => arg 4; cbv
  refine AKp.call hF tabOK hnt s1 rfl rfl rfl rfl rfl rfl rfl (by repeat' first | exact .refl _ | constructor) ?_
  rintro _ rfl
  conv => arg 4; cbv
  cases hb : F .ltI 0 n
  case' true =>
    have hlt := ltI_t hF hb
    rw [if_pos hlt] at hT
    conv => arg 4; cbv
    refine AKp.call hF tabOK hnt s4 rfl rfl rfl rfl rfl rfl rfl (by repeat' first | exact .refl _ | constructor) ?_
    rintro _ rfl
    conv => arg 4; cbv
    rw [f_cat hF (a := [108, 105, 110, 101, 32]) (b := I) (by simp; omega)]
    obtain ⟨a1, ha1⟩ : ∃ z, z = [108, 105, 110, 101, 32] ++ I := ⟨_, rfl⟩
    rw [← ha1]
    have hl1 : a1.length ≤ 26 := by rw [ha1]; simp; omega
    conv => arg 4; cbv
    rw [f_cat hF (a := a1) (b := [58, 32]) (by simp; omega)]
    obtain ⟨a2, ha2⟩ : ∃ z, z = a1 ++ [58, 32] := ⟨_, rfl⟩
    rw [← ha2]
    have hl2 : a2.length ≤ 28 := by rw [ha2]; simp; omega
    rw [show (lineT ++ I) ++ [58, 32] = a2 by rw [ha2, ha1]; rfl] at hT
  case' false =>
    have hlt := ltI_f hF hb
    rw [if_neg hlt] at hT
    obtain ⟨a2, ha2⟩ : ∃ z : List UInt8, z = [] := ⟨_, rfl⟩
    have hl2 : a2.length ≤ 28 := by rw [ha2]; simp
    have hT : T = a2 ++ ((if w ≠ [] then w ++ [58, 32] else []) ++ C) := by rw [ha2]; exact hT
  all_goals
    conv => arg 4; cbv
    refine AKp.call hF tabOK hnt s2 rfl rfl rfl rfl rfl rfl rfl (by repeat' first | exact .refl _ | constructor) ?_
    rintro _ rfl
    conv => arg 4; cbv
    cases hb2 : F .eqS w []
    case' false =>
      have he := eqS_f hF hb2
      rw [if_pos he] at hT
      rw [f_not0 hF]
      conv => arg 4; cbv
      rw [f_cat hF (a := w) (b := [58, 32]) (by simp; omega)]
      obtain ⟨a3, ha3⟩ : ∃ z, z = w ++ [58, 32] := ⟨_, rfl⟩
      rw [← ha3]
      have hl3 : a3.length ≤ 4611686018427387906 := by rw [ha3]; simp; omega
      conv => arg 4; cbv
      first
        | rw [f_cat hF (a := a2) (b := a3) (by omega)]
        | rw [f_cat hF (a := []) (b := a3) (by simp; omega), show [] ++ a3 = a2 ++ a3 by rw [ha2]]
      obtain ⟨a4, ha4⟩ : ∃ z, z = a2 ++ a3 := ⟨_, rfl⟩
      rw [← ha4]
      have hl4 : a4.length ≤ 4611686018427387936 := by rw [ha4]; simp; omega
      rw [← ha3, ← List.append_assoc, ← ha4] at hT
    case' true =>
      have he := eqS_t hF hb2
      rw [if_neg (by simpa using he), List.nil_append] at hT
      rw [f_not1 hF]
      obtain ⟨a4, ha4⟩ : ∃ z, z = a2 := ⟨_, rfl⟩
      have hl4 : a4.length ≤ 4611686018427387936 := by rw [ha4]; omega
      rw [← ha4] at hT
    all_goals
      conv => arg 4; cbv
      refine AKp.call hF tabOK hnt s3 rfl rfl rfl rfl rfl rfl rfl (by repeat' first | exact .refl _ | constructor) ?_
      rintro _ rfl
      conv => arg 4; cbv
      refine AKp.call hF tabOK hnt s5 rfl rfl rfl rfl rfl rfl rfl (by repeat' first | exact .refl _ | constructor) ?_
      rintro _ rfl
      conv => arg 4; cbv
      first
        | rw [f_cat hF (a := a4) (b := C) (by omega), ← hT]
        | rw [f_cat hF (a := a2) (b := C) (by omega), show a2 ++ C = T by rw [hT, ha4]]
        | rw [f_cat hF (a := []) (b := C) (by simp; omega), show [] ++ C = T by rw [hT, ha4, ha2]]
      conv => arg 4; cbv
      exact AKp.doneE tabOK hfr (by rfl) (by rfl)
end Go.Proofs.YtfblglnfplpagaaDoor
