/- What a row's reading of data of these types says. -/
import Derived.Test.YtfblglnfplpagaaDoorUaNine6
import Derived.Test.YtfblglnfplpagaaDoorUaQ
namespace Go.Proofs.YtfblglnfplpagaaDoor
open Go Go.Proofs Go.Ua
set_option linter.unusedVariables false

theorem typed_str {f : Nat} {l : List Dat} (h : typed tab (f + 1) 9 l) : ∃ s, l = [.s (.str s)] := by
  obtain ⟨s, rfl, _⟩ := h
  exact ⟨s, rfl⟩

structure WrapF where
  kind : Int
  line : Int
  what : List UInt8

def WrapF.dat (w : WrapF) : Dat := .agg [.s (.int .i64 w.kind), .s (.int .i64 w.line), .s (.str w.what)]
def wrapDs (l : List WrapF) : List Dat := l.map WrapF.dat

theorem len3 {α : Type} {l : List α} (h : l.length = 3) : ∃ a b c, l = [a, b, c] := by
  match l, h with
  | [a, b, c], _ => exact ⟨a, b, c, rfl⟩

theorem wraps_of {f : Nat} {es : List Dat} (h : ∀ x, x ∈ es → ∃ l', x = oneD (aggAt tab 48) l' ∧ typed tab (f + 2) 48 l') : ∃ gs, es = wrapDs gs := by
  induction es with
  | nil => exact ⟨[], rfl⟩
  | cons x es ih =>
    obtain ⟨gs, rfl⟩ := ih fun x hx => h x (List.mem_cons_of_mem _ hx)
    obtain ⟨l', rfl, ls, hlen, rfl, hall⟩ := h x (by simp)
    obtain ⟨a, b, c, rfl⟩ := len3 hlen
    obtain ⟨n0, rfl, _⟩ := hall 0 (0, 3) a rfl rfl
    obtain ⟨n1, rfl, _⟩ := hall 1 (1, 3) b rfl rfl
    obtain ⟨s2, rfl, _⟩ := hall 2 (2, 9) c rfl rfl
    exact ⟨⟨n0, n1, s2⟩ :: gs, rfl⟩

theorem typed_wraps {f : Nat} {l : List Dat} (h : typed tab (f + 3) 22 l) : ∃ gs, l = [.view 3 (wrapDs gs)] := by
  obtain ⟨es, rfl, _, hes⟩ := h
  obtain ⟨gs, rfl⟩ := wraps_of hes
  exact ⟨gs, rfl⟩

theorem FaultEmptyW (line : Int) (what : List UInt8) (l : List WrapF) : ESpec Tryd.prog 3 [.d (.s (.int .i64 line)), .d (.s (.str what)), .d (.view 3 (wrapDs l))] (fun x => x = .d (.s (.bool true))) := FaultEmpty_spec line what _
end Go.Proofs.YtfblglnfplpagaaDoor
