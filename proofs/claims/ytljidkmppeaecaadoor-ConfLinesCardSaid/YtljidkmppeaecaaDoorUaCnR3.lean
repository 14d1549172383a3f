/- ConfLines: the function returns true, whatever it is called with; so the row holds, and the card. -/
import Derived.Test.YtljidkmppeaecaaDoorRows
import Derived.Test.YtljidkmppeaecaaDoorTie
import Derived.Test.YtljidkmppeaecaaDoorCards
import Derived.Test.YtljidkmppeaecaaDoorUaM47
import Derived.HandedShaped
import Derived.WalkKit
import Derived.ProofKit
import Derived.OpenShut
import Derived.ShutString
import Derived.ChangeOld
import Derived.Below
import Derived.SizedLaws
import Derived.Carry
import Derived.LaidLaws
import Derived.LaidHandle
import Derived.Handed
import Derived.SevenTiedAt
namespace Go.Proofs.YtljidkmppeaecaaDoor.confLines
open Go Go.Proofs Go.Ua Go.ChangeShapes Go.WideShapes Go.ChangeAt Go.RowKit
set_option linter.unusedVariables false
theorem own : ownKnob Tryd.prog.godebug = none := by kernel_rfl
theorem laidOut : laidOutB Tryd.prog = true := by kernel_rfl
theorem et : Tryd.prog.globalNamed "errors.errorType" = some 0 := by kernel_rfl
theorem rt : (Tryd.prog.cutTypes.find? (·.1 == "internal/reflectlite.rtype")).map (·.2) = some 112 := by kernel_rfl
theorem oneRow : ((List.range 170).filter fun t => Tryd.prog.rowNamed t [101, 114, 114, 111, 114]) = [28] := by kernel_rfl
theorem size : Tryd.prog.types.size = 170 := by kernel_rfl
theorem handle_of_laid {W : World} (h : laidMetH Tryd.prog [("unicode/utf8.acceptRanges", Rows.laid_unicode_utf8_acceptRanges), ("errors.errorType", Rows.laid_errors_errorType), ("unicode/utf8.first", Rows.laid_unicode_utf8_first)] W) : ∃ t fz, W.heap[0]? = some (.cells #[.iface 112 (.agg #[.pointer (some ⟨4, 28, none⟩)])] t fz) := by
  have h' : laidMet Tryd.prog [("unicode/utf8.acceptRanges", Rows.laid_unicode_utf8_acceptRanges), ("unicode/utf8.first", Rows.laid_unicode_utf8_first)] W ∧ handlesMet Tryd.prog [("errors.errorType", Rows.laid_errors_errorType)] W := h
  obtain ⟨name, u, ty, e1, e2, e3, e4, e5⟩ := h'.2 _ (List.mem_singleton.2 rfl)
  have en : name = [101, 114, 114, 111, 114] := (Option.some.inj e1).symm
  subst en
  obtain rfl := Option.some.inj (rt.symm.trans e2)
  have hm : ty ∈ (List.range 170).filter fun t => Tryd.prog.rowNamed t [101, 114, 114, 111, 114] := List.mem_filter.2 ⟨List.mem_range.2 (by rw [← size]; exact e3), e4⟩
  rw [oneRow] at hm
  obtain rfl := List.mem_singleton.1 hm
  have hh : typeHandle Tryd.prog 28 = .pointer (some ⟨4, 28, none⟩) := by kernel_rfl
  rw [hh] at e5
  exact block_of_var et e5
def put (cs : Array Value) : Obj → Obj
  | .cells _ t frozen => .cells cs t frozen
  | o => o
def litsOf : DataW Unit → Array Value
  | .agg l => (l.map fun | .lit x => [x.value] | .agg ys => ys.map (fun | .lit y => y.value | _ => undef) | _ => [undef]).flatten.toArray
  | _ => #[]
noncomputable def laidWorld (os : Os) : World :=
  let w0 := World.holding Tryd.prog os ⟨#[], #[], []⟩
  { w0 with heap := (((w0.heap.modify 3 (put (litsOf Rows.laid_unicode_utf8_acceptRanges))).modify 0 (put #[.iface 112 (.agg #[.pointer (some ⟨4, 28, none⟩)])])).modify 2 (put (litsOf Rows.laid_unicode_utf8_first))) }
theorem laidWorld_met (os : Os) (args : Array Value) : laidMetH Tryd.prog [("unicode/utf8.acceptRanges", Rows.laid_unicode_utf8_acceptRanges), ("errors.errorType", Rows.laid_errors_errorType), ("unicode/utf8.first", Rows.laid_unicode_utf8_first)] ((laidWorld os).forCall (fun _ _ => 0) ⟨#[], args, []⟩).memory :=
  laidMetH_of_parts (laidMet_of_run' 8 (by kernel_rfl) (by kernel_rfl)) (by kernel_rfl)
set_option maxRecDepth 100000 in
theorem lifted (os : Os) (started : os.Started) (H : Type) (enc : TypeId × Value → H) :
    ReturnsInHanded {} Tryd.checked os 5 .any (fun w args => (Rows.confLinesSpec.pre enc Tryd.prog Tryd.f5 [] false w args ∧ laidMetH Tryd.prog [("unicode/utf8.acceptRanges", Rows.laid_unicode_utf8_acceptRanges), ("errors.errorType", Rows.laid_errors_errorType), ("unicode/utf8.first", Rows.laid_unicode_utf8_first)] w) ∧ sizedMet enc Tryd.prog Tryd.f5 (OpenSpec.ofChange Rows.confLinesSpec) false w args)
      (Rows.confLinesSpec.post enc Tryd.prog Tryd.f5 false true false false) := by
  refine ret_and_shaped (C := Tryd.checked) (X := fun w _ => laidMetH Tryd.prog [("unicode/utf8.acceptRanges", Rows.laid_unicode_utf8_acceptRanges), ("errors.errorType", Rows.laid_errors_errorType), ("unicode/utf8.first", Rows.laid_unicode_utf8_first)] w) (fun _ _ _ hh h => h.of_heap hh) own started (by kernel_rfl) Tryd.func5
    (ChangeSpec.witness_at (enc := enc) (C := Tryd.checked) (os := os) (X := fun w _ => laidMetH Tryd.prog [("unicode/utf8.acceptRanges", Rows.laid_unicode_utf8_acceptRanges), ("errors.errorType", Rows.laid_errors_errorType), ("unicode/utf8.first", Rows.laid_unicode_utf8_first)] w) false (laidWorld os) #[.string ByteArray.empty, .slice none 0 0] 8 rfl (by kernel_rfl) (by kernel_rfl) (by kernel_rfl) (by kernel_rfl) (by kernel_rfl) (laidWorld_met os _)) ?_
  intro W base args ds gs before hval0 hW hsz hL hsh
  have hval : ∀ (j : Nat) t v, Tryd.f5.params[j]? = some t → args[j]? = some v → Value.okWide Tryd.prog W .any base t v := hval0
  have hW' := hW
  obtain ⟨p, q, hA0, hV, rfl, hfz, hnd⟩ := hW
  have hA : DataW.TrodAll enc Tryd.prog W 0 (fun _ => true) true Tryd.f5.params.toList args.toList ds p := hA0
  rw [Tryd.params5] at hA hval
  obtain ⟨v0, vs0, d0, ds0, p0, q0, hargs, rfl, rfl, h0, r0⟩ := trodAll_cons hA
  obtain ⟨v1, vs1, d1, ds1, p1, q1, rfl, rfl, rfl, h1, r1⟩ := trodAll_cons r0
  obtain ⟨rfl, rfl, rfl⟩ := trodAll_nil r1
  obtain rfl : args = #[v0, v1] := by cases args; simp_all
  obtain ⟨rfl, rfl⟩ := trodVars_none hV
  obtain ⟨s0, rfl⟩ := okWide_string Tryd.underlying9 (hval 0 9 v0 rfl rfl)
  have k0 := h0
  have lt0 : ∀ x ∈ p0, x.block < W.heap.size := by obtain ⟨m, hm⟩ := k0; exact DataW.trod_lt m _ _ _ hm
  obtain ⟨fuel0, hf0⟩ := h0
  have hc0 := trod_cells tabOK 1 9 fuel0 _ d0 p0 (by kernel_rfl) (by kernel_rfl) hf0
  obtain ⟨x0, hx0⟩ := typed_str (trod_typed tabOK 1 9 fuel0 _ d0 p0 (by kernel_rfl) hf0)
  rw [hx0] at hc0
  obtain ⟨ad1, len1, cap1, rfl⟩ := okWide_slice Tryd.underlying48 (hval 1 48 v1 rfl rfl)
  have k1 := h1
  have lt1 : ∀ x ∈ p1, x.block < W.heap.size := by obtain ⟨m, hm⟩ := k1; exact DataW.trod_lt m _ _ _ hm
  obtain ⟨fuel1, hf1⟩ := h1
  have hc1 := trod_cells tabOK 4 48 fuel1 _ d1 p1 (by kernel_rfl) (by kernel_rfl) hf1
  obtain ⟨x1, hx1⟩ := typed_bytes (trod_typed tabOK 4 48 fuel1 _ d1 p1 (by kernel_rfl) hf1)
  rw [hx1] at hc1
  have hG : ∀ b p, Globs.G Tryd.prog b p → ∃ cs t fz, p cs ∧ W.heap[b]? = some (.cells cs.toArray t fz) := by
    rintro b p (⟨rfl, rfl⟩ | ⟨rfl, rfl⟩)
    · obtain ⟨m, hm⟩ := cell_of_shapedOpen_int (P := Tryd.prog) (g := 1) (t := 3) (zero := #[.int .i64 0]) hsh (of_decide_eq_true (by kernel_rfl)) (by kernel_rfl) rfl (by kernel_rfl) (by kernel_rfl) Tryd.underlying3; exact block_of_cell hm
    · obtain ⟨t, fz, h⟩ := handle_of_laid hL; exact ⟨_, t, fz, rfl, h⟩
  refine (ASpec.callsE (confLines_spec x0 x1) (w := W) (vs := [.string s0, .slice ad1 len1 cap1]) rfl hG fun i x v hx hv => ?_).mono fun e W' ⟨he, bel⟩ => ?_
  · match i, hx, hv with
    | 0, hx, hv =>
      cases hx; cases hv
      exact .d _ _ (hc0.2.2 0 _ _ rfl rfl)
    | 1, hx, hv =>
      cases hx; cases hv
      exact .d _ _ (hc1.2.2 0 _ _ rfl rfl)
    | i + 2, hx, hv => cases hx
  · subst he
    exact ⟨_, rfl, _, _, _, [], _, [], hW', trodAll_mk1 (shut_bool Tryd.underlying4 _), (trodAll_cons_mk (Below.trod laidOut (by kernel_rfl) (of_decide_eq_true (by kernel_rfl)) k0 bel lt0) (trodAll_cons_mk (Below.trod laidOut (by kernel_rfl) (of_decide_eq_true (by kernel_rfl)) k1 bel lt1) trodAll_mk0)), rfl, bel.frame _, fun h => by cases h⟩

theorem over : Rows.confLinesRow.holds Tryd.pinned (OpenSpec.ofChange Rows.confLinesSpec) :=
  OpenClaim.holds_of_wide 5 Tryd.f5 rfl rfl rfl rfl rfl rfl rfl ⟨rfl, rfl, rfl, rfl, rfl⟩ rfl rfl rfl rfl rfl (by kernel_rfl) Tryd.func5 (by kernel_rfl)
    (of_decide_eq_true (by kernel_rfl)) (by unfold Func.isWrapper; first | (rw [if_pos (by decide +kernel)]; kernel_rfl) | (rw [if_neg (by decide +kernel)]; exact ⟨rfl, rfl⟩))
    (fun os started H enc _ => lifted os started H enc)
theorem proved : Rows.ConfLinesCardSaid :=
  Claim7.holds_tied_plain_at .later [] [.data, .handle, .pinned] true (true, "a865ed08c93abe7f81e27133fb670a6a59efa0a4213b4ceddfd2b78efd9998c3") true
    over (fun _ h => by cases h) (by kernel_rfl) (fun _ h => by cases h) confLines_row_tie rfl ⟨rfl, rfl⟩ (by kernel_rfl) rfl
    (fun f fn hf hfn => by
      obtain rfl : f = 5 := Option.some.inj ((show Tryd.prog.funcNamed "usher/usherlaw10.ConfLines" = some 5 by kernel_rfl).symm.trans hf) |>.symm
      obtain rfl : fn = Tryd.f5 := (Option.some.inj (Tryd.func5.symm.trans hfn)).symm
      exact ⟨by kernel_rfl, fun j t ht => by
        rw [Tryd.params5] at ht
        match j, ht with
        | 0, ht => obtain rfl := Option.some.inj ht; exact (show Tryd.prog.wantsStandIn 9 = false by kernel_rfl)
        | 1, ht => obtain rfl := Option.some.inj ht; exact (show Tryd.prog.wantsStandIn 48 = false by kernel_rfl)
        | j + 2, ht => cases ht⟩)
    (by kernel_rfl)
#print axioms proved
end Go.Proofs.YtljidkmppeaecaaDoor.confLines
