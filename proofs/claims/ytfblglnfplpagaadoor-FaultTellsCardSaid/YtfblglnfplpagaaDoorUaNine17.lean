/- FaultTells, with the bounds that a row's reading gives. -/
import Derived.Test.YtfblglnfplpagaaDoorUaNine16
import Derived.Lib.LaidTab
namespace Go.Proofs.YtfblglnfplpagaaDoor
open Go Go.Proofs Go.Ua
set_option linter.unusedVariables false

theorem sz_wraps {N : Nat} {gs : List WrapF} (h : ∀ x, x ∈ [Dat.view 3 (wrapDs gs)] → x.sz N) : ∀ w, w ∈ gs → w.what.length ≤ N := by
  intro w hw
  have h1 : Dat.szs N (wrapDs gs) := h (Dat.view 3 (wrapDs gs)) (by simp)
  have h2 := of_szs h1 w.dat (List.mem_map.2 ⟨w, hw, rfl⟩)
  exact h2.2.2.1

theorem FaultTellsW (code : Int) (ws : List WrapF) (line : Int) (what : List UInt8) (hws : ∀ w, w ∈ ws → w.what.length ≤ reachBytes) (hwh : what.length ≤ reachBytes) :
    ESpec Tryd.prog 7 [.d (.s (.int .i64 code)), .d (.view 3 (wrapDs ws)), .d (.s (.int .i64 line)), .d (.s (.str what))] (fun x => x = .d (.s (.bool true))) :=
  FaultTells_spec code ws line what (fun w hw => Nat.le_trans (hws w hw) (by decide)) (Nat.le_trans hwh (by decide))
end Go.Proofs.YtfblglnfplpagaaDoor
