/- test -/
import Derived.Test.YtbcpmkonajomcaaUaX7
namespace Go.Proofs.Ytbcpmkonajomcaa
open Go Go.Proofs Go.Ua
set_option linter.unusedVariables false

def reqCells (q : ReqF) : List Dat := [.s (.str q.user), .view 1 (strs q.groups), .s (.str q.verb), .s (.str q.resource), .s (.str q.space), .s (.int .i64 q.objects)]

theorem RuleC_spec (r : RuleF) (q : ReqF) (hr : r.ok) (hq : short q.groups) :
    ASpec Try.prog 19 [.d (ruleD r), .d (.vref (reqCells q))] [] 0 (fun x h' fr' => x = .d (.s (.bool (ruleF r q))) ∧ h' = [] ∧ fr' = 0) := by
  have sp := Rule_spec r q hr hq
  generalize ruleF r q = z at sp ⊢
  unfold ReqF.dat reqD at sp
  unfold ruleD at sp ⊢
  unfold reqCells
  generalize strs r.users = e1 at sp ⊢
  generalize strs r.groups = e2 at sp ⊢
  generalize strs r.verbs = e3 at sp ⊢
  generalize strs r.resources = e4 at sp ⊢
  generalize strs r.spaces = e5 at sp ⊢
  generalize strs q.groups = eg at sp ⊢
  generalize q.user = u at sp ⊢
  generalize q.verb = v at sp ⊢
  generalize q.resource = re at sp ⊢
  generalize q.space = ss at sp ⊢
  generalize q.objects = ob at sp ⊢
  refine ASpec.enter Try.func19 (by kernel_rfl) rfl (Nat.le_of_ble_eq_true rfl) ?_
  intro cx hnt hfr
  obtain ⟨F, hF⟩ := real_ex
  refine AK.run hF tabOK hnt ?_
  conv => arg 4; cbv
  refine AK.call0 sp rfl rfl rfl (fun d hd => ?_) rfl rfl rfl ?_
  · cases hd; rw [hnt]; exact Nat.le_of_ble_eq_true rfl
  rintro x h' fr' ⟨rfl, rfl, rfl⟩
  refine AK.run hF tabOK hnt ?_
  conv => arg 4; cbv
  exact AKp.done tabOK rfl rfl hfr ⟨rfl, rfl, rfl⟩

structure SchemaF where
  name : List UInt8
  level : List UInt8
  rank : Int
  by_ : Int
  rules : List RuleF

def SchemaF.dat (s : SchemaF) : Dat := .agg [.s (.str s.name), .s (.str s.level), .s (.int .i64 s.rank), .s (.int .i64 s.by_), .view 5 (ruleDs s.rules)]
def SchemaF.ok (s : SchemaF) : Prop := s.name.length < 9223372036854775808 ∧ short s.rules ∧ ∀ r, r ∈ s.rules → r.ok
def schemaF (s : SchemaF) (q : ReqF) : Bool := s.rules.any fun r => ruleF r q

theorem Schema_spec (s : SchemaF) (q : ReqF) (hs : s.ok) (hq : short q.groups) :
    ASpec Try.prog 12 [.d s.dat, .d q.dat] [] 0 (fun x h' fr' => x = .d (.s (.bool (schemaF s q))) ∧ h' = [] ∧ fr' = 0) := by
  obtain ⟨er, her⟩ : ∃ e, e = ruleDs s.rules := ⟨_, rfl⟩
  have sp := ContainsFuncR s.rules (fun r => ruleF r q) er 19 (.vref (reqCells q)) her hs.2.1 (fun r hr => RuleC_spec r q (hs.2.2 r hr) hq)
  unfold schemaF
  generalize (s.rules.any fun r => ruleF r q) = z at sp ⊢
  unfold ReqF.dat reqD SchemaF.dat
  unfold reqCells at sp
  rw [← her]
  generalize s.name = nm
  generalize s.level = lv
  generalize s.rank = rk
  generalize s.by_ = b
  generalize strs q.groups = eg at sp ⊢
  generalize q.user = u at sp ⊢
  generalize q.verb = v at sp ⊢
  generalize q.resource = re at sp ⊢
  generalize q.space = ss at sp ⊢
  generalize q.objects = ob at sp ⊢
  refine ASpec.enter Try.func12 (by kernel_rfl) rfl (Nat.le_of_ble_eq_true rfl) ?_
  intro cx hnt hfr
  obtain ⟨F, hF⟩ := real_ex
  refine AK.run hF tabOK hnt ?_
  conv => arg 4; cbv
  refine AKp.freezeBox 1 rfl rfl ?_
  refine AK.call0 sp rfl rfl rfl (fun d hd => ?_) rfl rfl rfl ?_
  · cases hd; rw [hnt]; exact Nat.le_of_ble_eq_true rfl
  rintro x h' fr' ⟨rfl, rfl, rfl⟩
  refine AK.run hF tabOK hnt ?_
  conv => arg 4; cbv
  exact AKp.done tabOK rfl rfl hfr ⟨rfl, rfl, rfl⟩
end Go.Proofs.Ytbcpmkonajomcaa
