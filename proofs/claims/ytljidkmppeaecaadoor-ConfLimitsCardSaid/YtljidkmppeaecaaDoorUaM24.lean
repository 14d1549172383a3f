/- The library of this claim and its walks, part 24, joined out of smaller texts. No statement stands in it. -/
import Derived.Test.YtljidkmppeaecaaDoorUaM19
import Derived.Test.YtljidkmppeaecaaDoorUaM23
import Derived.Lib.Join
/- Lists, joined. -/
namespace Go.Proofs.YtljidkmppeaecaaDoor
open Go Go.Proofs Go.Ua Go.Extern
set_option linter.unusedVariables false
set_option linter.unusedSimpArgs false

end Go.Proofs.YtljidkmppeaecaaDoor

/- Lists are read as they were joined, joined as they were read: plain laws. -/
namespace Go.Proofs.YtljidkmppeaecaaDoor
open Go Go.Proofs Go.Ua Go.Extern
set_option linter.unusedVariables false
set_option linter.unusedSimpArgs false

end Go.Proofs.YtljidkmppeaecaaDoor

/- The reference's cut. -/
namespace Go.Proofs.YtljidkmppeaecaaDoor
open Go Go.Proofs Go.Ua Go.Extern
set_option linter.unusedVariables false
set_option linter.unusedSimpArgs false

end Go.Proofs.YtljidkmppeaecaaDoor

/- The reference's lines. -/
namespace Go.Proofs.YtljidkmppeaecaaDoor
open Go Go.Proofs Go.Ua Go.Extern
set_option linter.unusedVariables false
set_option linter.unusedSimpArgs false

end Go.Proofs.YtljidkmppeaecaaDoor

/- The reference's words. -/
namespace Go.Proofs.YtljidkmppeaecaaDoor
open Go Go.Proofs Go.Ua Go.Extern
set_option linter.unusedVariables false
set_option linter.unusedSimpArgs false

def wordsF (s : List UInt8) : List (List UInt8) := (cutF 32 s).filter fun p => !(p == [])

end Go.Proofs.YtljidkmppeaecaaDoor

/- words.Digits at any int. -/
namespace Go.Proofs.YtljidkmppeaecaaDoor
open Go Go.Proofs Go.Ua Go.Extern
set_option linter.unusedVariables false

end Go.Proofs.YtljidkmppeaecaaDoor

/- Are two lists the same? -/
namespace Go.Proofs.YtljidkmppeaecaaDoor
open Go Go.Proofs Go.Ua Go.Extern
set_option linter.unusedVariables false
set_option linter.unusedSimpArgs false

end Go.Proofs.YtljidkmppeaecaaDoor

/- What is told of the functions walked so far, for trees of calls. -/
namespace Go.Proofs.YtljidkmppeaecaaDoor
open Go Go.Proofs Go.Ua Go.Extern
set_option linter.unusedVariables false
set_option linter.unusedSimpArgs false
theorem hmix : Tryd.prog.follows .mixedOrders = true := by kernel_rfl
def φName (u : List UInt8 → Bool) : List AV → Option (Bool × AV)
  | [.d (.s (.str w))] => some (true, .d (.s (.bool (u w))))
  | _ => none
theorem φName_ok : SpOK Tryd.prog 63 (φName (nameF)) := by
  intro xs b x h hb
  unfold φName at h
  split at h
  · simp only [Option.some.injEq, Prod.mk.injEq] at h
    obtain ⟨rfl, rfl⟩ := h
    exact Name_spec _
  · cases h
def listV (w : List UInt8) : List Dat := strDs ((listF w).getD [])
def listB (w : List UInt8) : Bool := (listF w).isSome
theorem ListT_spec (w : List UInt8) : ESpec Tryd.prog 64 [.d (.s (.str w))] (fun x => x = .tup [.d (.view 1 (listV w)), .d (.s (.bool (listB w)))]) := by
  have := List_spec w
  unfold listV listB
  cases h : listF w <;> (rw [h] at this; exact this)
def numV (w : List UInt8) (a b : Int) : Int := (numberF w a b).getD 0
def numB (w : List UInt8) (a b : Int) : Bool := (numberF w a b).isSome
theorem NumberT_spec (w : List UInt8) (a b : Int) : ESpec Tryd.prog 48 [.d (.s (.str w)), .d (.s (.int .i64 a)), .d (.s (.int .i64 b))] (fun x => x = .tup [.d (.s (.int .i64 (numV w a b))), .d (.s (.bool (numB w a b)))]) := by
  have := Number_spec w a b
  unfold numV numB
  cases h : numberF w a b <;> (rw [h] at this; exact this)
def le32 (w : List UInt8) : Bool := decide (w.length < 4294967281)
def φList (u : List UInt8 → List Dat) (v : List UInt8 → Bool) : List AV → Option (Bool × AV)
  | [.d (.s (.str w))] => some (true, .tup [.d (.view 1 (u w)), .d (.s (.bool (v w)))])
  | _ => none
theorem φList_ok : SpOK Tryd.prog 64 (φList (listV) (listB)) := by
  intro xs b x h hb
  unfold φList at h
  split at h
  · simp only [Option.some.injEq, Prod.mk.injEq] at h
    obtain ⟨rfl, rfl⟩ := h
    exact ListT_spec _
  · cases h
def φNumber (u : List UInt8 → Int → Int → Int) (v : List UInt8 → Int → Int → Bool) : List AV → Option (Bool × AV)
  | [.d (.s (.str w)), .d (.s (.int .i64 a)), .d (.s (.int .i64 b))] => some (true, .tup [.d (.s (.int .i64 (u w a b))), .d (.s (.bool (v w a b)))])
  | _ => none
theorem φNumber_ok : SpOK Tryd.prog 48 (φNumber (numV) (numB)) := by
  intro xs b x h hb
  unfold φNumber at h
  split at h
  · simp only [Option.some.injEq, Prod.mk.injEq] at h
    obtain ⟨rfl, rfl⟩ := h
    exact NumberT_spec _ _ _
  · cases h
def φLines (p : List UInt8 → Bool) (u : List UInt8 → List Dat) : List AV → Option (Bool × AV)
  | [.d (.s (.str w))] => some (p w, .d (.view 1 (u w)))
  | _ => none
theorem φLines_ok : SpOK Tryd.prog 18 (φLines (le32) (fun w => strDs (linesF w))) := by
  intro xs b x h hb
  unfold φLines at h
  split at h
  · simp only [Option.some.injEq, Prod.mk.injEq] at h
    obtain ⟨rfl, rfl⟩ := h
    exact Lines_spec _ (of_decide_eq_true hb)
  · cases h
end Go.Proofs.YtljidkmppeaecaaDoor

/- The reference's names and words. -/
namespace Go.Proofs.YtljidkmppeaecaaDoor
open Go Go.Proofs Go.Ua Go.Extern
set_option linter.unusedVariables false
set_option linter.unusedSimpArgs false
set_option maxRecDepth 10000

end Go.Proofs.YtljidkmppeaecaaDoor

/- The reference's lists. -/
namespace Go.Proofs.YtljidkmppeaecaaDoor
open Go Go.Proofs Go.Ua Go.Extern
set_option linter.unusedVariables false
set_option linter.unusedSimpArgs false
set_option maxRecDepth 10000

end Go.Proofs.YtljidkmppeaecaaDoor

