/- test -/
import Derived.Test.YtbcpmkonajomcaaRows
import Derived.Test.YtbcpmkonajomcaaUaX11
import Derived.Test.YtbcpmkonajomcaaUaQ
import Derived.WalkKit
import Derived.ProofKit
import Derived.OpenShut
import Derived.ShutString
import Derived.ChangeOld
import Derived.Below
import Derived.SizedLaws
import Derived.Carry
namespace Go.Proofs.Ytbcpmkonajomcaa.flowKey
open Go Go.Proofs Go.Ua Go.ChangeShapes Go.WideShapes Go.ChangeAt Go.RowKit
set_option linter.unusedVariables false
theorem strs_of {es : List Dat} (h : ∀ x, x ∈ es → ∃ l', x = oneD (aggAt tab 9) l' ∧ typed tab 2 9 l') : ∃ gs, es = strs gs := by
  induction es with
  | nil => exact ⟨[], rfl⟩
  | cons x es ih =>
    obtain ⟨gs, rfl⟩ := ih fun x hx => h x (List.mem_cons_of_mem _ hx)
    obtain ⟨l', rfl, s, rfl, _⟩ := h x (by simp)
    exact ⟨s :: gs, rfl⟩

theorem len6 {α : Type} {l : List α} (h : l.length = 6) : ∃ a b c d e f, l = [a, b, c, d, e, f] := by
  match l, h with
  | [a, b, c, d, e, f], _ => exact ⟨a, b, c, d, e, f, rfl⟩

theorem typed_req {l : List Dat} (h : typed tab 4 25 l) : ∃ q : ReqF, l = reqCells q := by
  obtain ⟨ls, hlen, rfl, hall⟩ := h
  obtain ⟨a, b, c, d, e, f, rfl⟩ := len6 hlen
  obtain ⟨s0, rfl, _⟩ := hall 0 (0, 9) a rfl rfl
  obtain ⟨es, rfl, _, hes⟩ := hall 1 (1, 23) b rfl rfl
  obtain ⟨s2, rfl, _⟩ := hall 2 (2, 9) c rfl rfl
  obtain ⟨s3, rfl, _⟩ := hall 3 (3, 9) d rfl rfl
  obtain ⟨s4, rfl, _⟩ := hall 4 (4, 9) e rfl rfl
  obtain ⟨n, rfl, _⟩ := hall 5 (5, 3) f rfl rfl
  obtain ⟨gs, rfl⟩ := strs_of hes
  exact ⟨⟨s0, gs, s2, s3, s4, n⟩, rfl⟩

theorem own : ownKnob Try.prog.godebug = none := by kernel_rfl
theorem laidOut : laidOutB Try.prog = true := by kernel_rfl
set_option maxRecDepth 100000 in
theorem lifted (os : Os) (started : os.Started) (H : Type) (enc : TypeId × Value → H) :
    ReturnsInHanded {} Try.checked os 6 .any (Rows.flowKeySpec.pre6 enc Try.prog Try.f6 Rows.flowKeyRow.domain false) (Rows.flowKeySpec.post enc Try.prog Try.f6 false true false false) := by
  refine returnsInHanded_of_change_sized (C := Try.checked) own started (by kernel_rfl) Try.func6
    (ChangeSpec.witness6 (enc := enc) (C := Try.checked) false ⟨#[], #[.int .i64 0, .agg #[.string ByteArray.empty, .slice none 0 0, .string ByteArray.empty, .string ByteArray.empty, .string ByteArray.empty, .int .i64 0]], []⟩ 8 (by kernel_rfl) (by kernel_rfl) (by kernel_rfl) (by kernel_rfl)) ?_
  intro W base args ds gs before hval0 hW hcnd hsz0 _
  have hval : ∀ (j : Nat) t v, Try.f6.params[j]? = some t → args[j]? = some v → Value.okWide Try.prog W .any base t v := hval0
  have hW' := hW
  obtain ⟨p, q, hA0, hV, rfl, hfz, hnd⟩ := hW
  have hA : DataW.TrodAll enc Try.prog W 0 (fun _ => true) true Try.f6.params.toList args.toList ds p := hA0
  rw [Try.params6] at hA hval
  obtain ⟨v0, vs0, d0, ds0, p0, q0, hargs, rfl, rfl, h0, r0⟩ := trodAll_cons hA
  obtain ⟨v1, vs1, d1, ds1, p1, q1, rfl, rfl, rfl, h1, r1⟩ := trodAll_cons r0
  obtain ⟨rfl, rfl, rfl⟩ := trodAll_nil r1
  obtain rfl : args = #[v0, v1] := by cases args; simp_all
  obtain ⟨rfl, rfl⟩ := trodVars_none hV
  obtain ⟨a0, rfl, rfl, rfl, w0⟩ := open_int Try.underlying3 (hval 0 3 v0 rfl rfl) h0
  obtain ⟨cs, rfl, hcs⟩ := okWide_struct Try.underlying25 (hval 1 25 v1 rfl rfl)
  have k1 := h1
  have lt1 : ∀ x ∈ p1, x.block < W.heap.size := by obtain ⟨m, hm⟩ := k1; exact DataW.trod_lt m _ _ _ hm
  obtain ⟨fuel, hf⟩ := h1
  have hcells := trod_cells tabOK 4 25 fuel _ d1 p1 (by kernel_rfl) (by simp [Value.cells, hcs]) hf
  obtain ⟨rq, hrq⟩ := typed_req (trod_typed tabOK 4 25 fuel _ d1 p1 (by kernel_rfl) hf)
  rw [hrq] at hcells
  refine (ASpec.calls (FlowKey_spec a0 rq) (w := W) (vs := [.int .i64 a0, .agg cs]) rfl fun i x v hx hv => ?_).mono fun e W' ⟨he, bel⟩ => ?_
  · match i, hx, hv with
    | 0, hx, hv =>
      cases hx; cases hv
      exact .d _ _ (.s (.int .i64 a0))
    | 1, hx, hv =>
      cases hx; cases hv
      have := RepD.agg (R := rd0 W) (reqCells rq) cs.toList hcells.1 hcells.2.1 hcells.2.2
      exact .d _ _ this
    | i + 2, hx, hv => cases hx
  · subst he
    exact ⟨_, rfl, _, _, _, [], _, [], hW', trodAll_mk1 (shut_bool Try.underlying4 _), (trodAll_cons_mk (shut_int Try.underlying3 w0) (trodAll_cons_mk (Below.trod laidOut (by kernel_rfl) (of_decide_eq_true (by kernel_rfl)) k1 bel lt1) trodAll_mk0)), rfl, bel.frame _, fun h => by cases h⟩

theorem over : Rows.flowKeyRow.holds Try.pinned (OpenSpec.ofChange Rows.flowKeySpec) :=
  OpenClaim.holds_of_wide 6 Try.f6 rfl rfl rfl rfl rfl rfl rfl ⟨rfl, rfl, rfl, rfl, rfl⟩ rfl rfl rfl rfl rfl (by kernel_rfl) Try.func6 (by kernel_rfl)
    (of_decide_eq_true (by kernel_rfl)) (by unfold Func.isWrapper; first | (rw [if_pos (by decide +kernel)]; kernel_rfl) | (rw [if_neg (by decide +kernel)]; exact ⟨rfl, rfl⟩))
    (fun os started H enc _ => lifted os started H enc)
theorem proved : Rows.FlowKeySaid := over
#print axioms proved
end Go.Proofs.Ytbcpmkonajomcaa.flowKey
