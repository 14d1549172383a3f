/- strconv.Itoa, Digits. -/
import Derived.Test.YtfblglnfplpagaaDoorUaNine11
import Derived.Test.YtfblglnfplpagaaDoorUaNineShelf
import Derived.Lib.AppendIntMem
import Derived.Lib.ItoaLen
namespace Go.Proofs.YtfblglnfplpagaaDoor
open Go Go.Proofs Go.Ua Go.Extern
set_option linter.unusedVariables false

def pow10Cs : List Value := Lib.pow10Tab.map fun z => Value.int .u64 z
/-- This law's tables are laid, too. -/
instance globs2 : Globs Tryd.prog := ⟨fun b cs => (b = 0 ∧ cs = [.iface 78 (.agg #[.pointer (some ⟨4, 25, none⟩)])]) ∨ (b = 1 ∧ cs = pow10Cs)⟩

theorem ESpec.up {f : FuncId} {args : List AV} {post : AV → Prop} (H : @ESpec Tryd.prog instGlobsProg f args post) : ESpec Tryd.prog f args post := by
  refine ESpec.globs ?_ H
  intro b cs h
  exact Or.inl h

theorem pow10Named : Tryd.prog.globalNamed "internal/strconv.uint64pow10" = some 1 := by kernel_rfl

theorem i64_of_ok {n : Int} (h : (Sc.int .i64 n).ok) : -9223372036854775808 ≤ n ∧ n ≤ 9223372036854775807 := ⟨h.1, h.2⟩

theorem Itoa_spec (n : Int) : ESpec Tryd.prog 25 [.d (.s (.int .i64 n))] (fun x => x = .d (.s (.str (Lib.itoa n)))) := by
  have base : (Sc.int .i64 n).ok → ESpec Tryd.prog 25 [.d (.s (.int .i64 n))] (fun x => x = .d (.s (.str (Lib.itoa n)))) := by
    intro hok
    obtain ⟨h0, h1⟩ := i64_of_ok hok
    refine ESpec.grown (enters_of Tryd.func25 (by kernel_rfl) rfl) (Nat.le_trans (Lib.itoa_length_le n h0 h1) (by decide)) fun R ι vs w hG hl hr => ?_
    obtain ⟨v, rfl, hv⟩ : ∃ v, vs = [v] ∧ RepV R ι (.d (.s (.int .i64 n))) v := by
      match vs, hl with
      | [v], _ => exact ⟨v, rfl, hr 0 _ _ rfl rfl⟩
    obtain rfl := rep_s hv
    have htab : Lib.TabIs Tryd.prog w "internal/strconv.uint64pow10" .u64 Lib.pow10Tab := var_of_block pow10Named (hG 1 pow10Cs (Or.inr ⟨rfl, rfl⟩))
    refine (Tryd.strconv_Itoa n h0 h1 w htab).mono ?_
    rintro e w' ⟨rfl, k, os, rfl⟩
    exact ⟨rfl, Lib.below_grow _ _ (Nat.le_refl _) _ _⟩
  refine ⟨enters_of Tryd.func25 (by kernel_rfl) rfl, fun X L w ι vs h1 hg h2 h3 => (base ?_).2 X L w ι vs h1 hg h2 h3⟩
  match vs, h2 with
  | [v], _ => exact rep_ok (h3 0 _ _ rfl rfl)
end Go.Proofs.YtfblglnfplpagaaDoor
