/- test -/
import Derived.Test.YtbcpmkonajomcaaUaX13
import Derived.Test.YtbcpmkonajomcaaUaW
namespace Go.Proofs.Ytbcpmkonajomcaa
open Go Go.Proofs Go.Ua
set_option linter.unusedVariables false

theorem lt63 {n : Nat} (h : n ≤ maxLen) : n < 9223372036854775808 := by simp only [maxLen] at h; omega

theorem strs_ok {l : List (List UInt8)} {k : Nat} (h : Dok (.view k (strs l))) : short l ∧ ∀ s, s ∈ l → s.length < 9223372036854775808 := by
  obtain ⟨h1, h2⟩ := h
  refine ⟨lt63 (by simpa [strs] using h1), fun s hs => lt63 ?_⟩
  exact Doks_iff.1 h2 (.s (.str s)) (by simp only [strs, List.mem_map]; exact ⟨s, hs, rfl⟩)

theorem RuleF.ok_of {r : RuleF} (h : Dok (ruleD r)) : r.ok := by
  obtain ⟨h1, h2, h3, h4, h5, _⟩ := h
  exact ⟨(strs_ok h1).1, (strs_ok h2).1, (strs_ok h3).1, (strs_ok h4).1, (strs_ok h5).1⟩

theorem SchemaF.ok_of {s : SchemaF} (h : Dok s.dat) : s.ok := by
  obtain ⟨h1, h2, h3, h4, ⟨h5, h6⟩, _⟩ := h
  refine ⟨lt63 h1, lt63 (by simpa [ruleDs] using h5), fun r hr => RuleF.ok_of (Doks_iff.1 h6 _ ?_)⟩
  simp only [ruleDs, List.mem_map]
  exact ⟨r, hr, rfl⟩

theorem schemas_ok {l : List SchemaF} {k : Nat} (h : Dok (.view k (schemaDs l))) : short l ∧ ∀ s, s ∈ l → s.ok := by
  obtain ⟨h1, h2⟩ := h
  refine ⟨lt63 (by simpa [schemaDs] using h1), fun s hs => SchemaF.ok_of (Doks_iff.1 h2 _ ?_)⟩
  simp only [schemaDs, List.mem_map]
  exact ⟨s, hs, rfl⟩

theorem ESpec.of_ok {P : Program} {f : FuncId} {args : List AV} {post : AV → Prop} (he : Enters P f) (H : AVoks args → ESpec P f args post) : ESpec P f args post :=
  ⟨he, fun X L w ι vs h1 h2 h3 => (H (avoks_of h2 h3)).2 X L w ι vs h1 h2 h3⟩

theorem ClassifyE (l : List SchemaF) (q : ReqF) (a1 a2 a3 a4 dg : Int) (lv : List Dat) :
    ESpec Try.prog 10 [.d (.agg [.s (.int .i64 a1), .s (.int .i64 a2), .s (.int .i64 a3), .s (.int .i64 a4), .view 10 lv, .view 5 (schemaDs l), .s (.int .u64 dg)]), .d q.dat]
      (fun x => x = .tup [.d (classF l q).1, .d (.s (.int .i64 (classF l q).2))]) := by
  refine ESpec.of_ok (enters_of Try.func10 (by kernel_rfl) rfl) fun h => ?_
  obtain ⟨⟨_, _, _, _, _, h6, _⟩, ⟨g1, g2, g3, g4, g5, _⟩, _⟩ := h
  exact Classify_spec l q a1 a2 a3 a4 dg lv _ rfl (schemas_ok h6).1 (schemas_ok h6).2 (strs_ok g2).1 (lt63 g1) (lt63 g5)

theorem confSmallE (c : ConfF) : ESpec Try.prog 8 [.d (.agg (confCells c))] (fun x => ∃ b, x = .d (.s (.bool b)) ∧ (b = true → c.small)) := by
  refine ESpec.of_ok (enters_of Try.func8 (by kernel_rfl) rfl) fun h => ?_
  obtain ⟨⟨_, _, _, _, ⟨h5, _⟩, h6, _⟩, _⟩ := h
  refine ASpec.mono (confSmall_spec c (lt63 (by simpa [levelDs] using h5)) (schemas_ok h6).1) ?_
  rintro x h' fr' ⟨b, h1, h2, h3, h4⟩
  exact ⟨⟨b, h1, h2⟩, h3, h4⟩

theorem reqSmallE (q : ReqF) : ESpec Try.prog 9 [.d q.dat] (fun x => ∃ b, x = .d (.s (.bool b)) ∧ (b = true ↔ q.small)) := by
  obtain ⟨b, hb, h⟩ := reqSmall_spec q
  refine ASpec.mono h ?_
  rintro x h' fr' ⟨h1, h3, h4⟩
  exact ⟨⟨b, h1, hb⟩, h3, h4⟩

theorem SchemaE (s : SchemaF) (q : ReqF) : ESpec Try.prog 12 [.d s.dat, .d q.dat] (fun x => x = .d (.s (.bool (schemaF s q)))) := by
  refine ESpec.of_ok (enters_of Try.func12 (by kernel_rfl) rfl) fun h => ?_
  obtain ⟨h1, ⟨g1, g2, _⟩, _⟩ := h
  exact Schema_spec s q (SchemaF.ok_of h1) (strs_ok g2).1

theorem awakeE : ESpec Try.prog 7 [] (fun x => x = .d (.s (.bool true))) := awake_spec
end Go.Proofs.Ytbcpmkonajomcaa
