/-
  No cell of these rows narrows 'for every input' (looked for: loops, veiled, ifaces, maps, wideKeys, modest, calm, conditions, laid).
  DERIVED. THE GIVEN ROWS OF THIS SEAT. 4 by the template 'for every input the law returns true; each argument reads behind the call as it read before'; 0 by the template 'total and deterministic' (their statements: YtbcpmkonajomcaaTotals.lean).
  GIVEN WITH THE SEED: the statements are not yours to turn. If you find one false, say at which input.
  Laid BY PROGRAM, IN A SANDBOX (cutbox-rows.mjs): the forced cells as the released guide's own fill.sh prints them over the translation fbc59e793cd18c92… (all of the seat's roots in one cut). By AI agents, Wed Nov 11 2026. No macro, syntax, notation, axiom, sorry.
-/
import Derived.Test.YtbcpmkonajomcaaChecked
import GoSem.Claim
import GoSem.ClaimJoined
import GoSem.ClaimMapViews
import Derived.JoinedTies
import Derived.KernelRfl
namespace Go.Proofs.Ytbcpmkonajomcaa
/- THE CELL 'sum', in the pinned program and in every row, IS THE sha256 OF THE DUMP (.gsa) THAT YtbcpmkonajomcaaProg.lean LOADS. Nothing in Lean hashes anything: it is a label: what it is worth is what the hold of that sum in a sandbox is worth. -/
noncomputable def Try.pinned : Pinned := { name := "ytbcpmkonajomcaa", sum := "fbc59e793cd18c921d1dba4583f6a105aeb1d3a9598606807eb18297a2a91f02", checked := Try.checked }
namespace Rows
def none {H : Type} : Left H := { results := [], args := [] }

/-- 'usherlaw16.FlowAll': WHATEVER THE INPUT: true; the input reads as it did. -/
def flowAllSpec : ChangeSpec := { name := "flowAll", fn := fun _ => fun
  | [d1, d2] => { results := [.lit (.bool true)], args := [d1, d2] }
  | _ => none }
def flowAllRow : OpenClaim := { program := "ytbcpmkonajomcaa", sum := "fbc59e793cd18c921d1dba4583f6a105aeb1d3a9598606807eb18297a2a91f02", func := "usher/usherlaw16.FlowAll", spec := "flowAll", unfollowed := true, recurses := true, apart := false }
def FlowAllSaid : Prop := flowAllRow.holds Try.pinned (OpenSpec.ofChange flowAllSpec)

/-- ITS FALSE NEIGHBOUR: 'it returns false'. Refute it at one input. -/
def flowAllWrong : ChangeSpec := { name := "flowAll", fn := fun _ => fun
  | [d1, d2] => { results := [.lit (.bool false)], args := [d1, d2] }
  | _ => none }
def FlowAllWrongFalsely : Prop := flowAllRow.holds Try.pinned (OpenSpec.ofChange flowAllWrong)

/-- 'usherlaw16.FlowFirst': WHATEVER THE INPUT: true; the input reads as it did. -/
def flowFirstSpec : ChangeSpec := { name := "flowFirst", fn := fun _ => fun
  | [d1, d2, d3] => { results := [.lit (.bool true)], args := [d1, d2, d3] }
  | _ => none }
def flowFirstRow : OpenClaim := { program := "ytbcpmkonajomcaa", sum := "fbc59e793cd18c921d1dba4583f6a105aeb1d3a9598606807eb18297a2a91f02", func := "usher/usherlaw16.FlowFirst", spec := "flowFirst", unfollowed := true, recurses := true, apart := false }
def FlowFirstSaid : Prop := flowFirstRow.holds Try.pinned (OpenSpec.ofChange flowFirstSpec)

/-- ITS FALSE NEIGHBOUR: 'it returns false'. Refute it at one input. -/
def flowFirstWrong : ChangeSpec := { name := "flowFirst", fn := fun _ => fun
  | [d1, d2, d3] => { results := [.lit (.bool false)], args := [d1, d2, d3] }
  | _ => none }
def FlowFirstWrongFalsely : Prop := flowFirstRow.holds Try.pinned (OpenSpec.ofChange flowFirstWrong)

/-- 'usherlaw16.FlowKeys': WHATEVER THE INPUT: true; the input reads as it did. -/
def flowKeysSpec : ChangeSpec := { name := "flowKeys", fn := fun _ => fun
  | [d1, d2, d3] => { results := [.lit (.bool true)], args := [d1, d2, d3] }
  | _ => none }
def flowKeysRow : OpenClaim := { program := "ytbcpmkonajomcaa", sum := "fbc59e793cd18c921d1dba4583f6a105aeb1d3a9598606807eb18297a2a91f02", func := "usher/usherlaw16.FlowKeys", spec := "flowKeys", unfollowed := true, recurses := true, apart := false }
def FlowKeysSaid : Prop := flowKeysRow.holds Try.pinned (OpenSpec.ofChange flowKeysSpec)

/-- ITS FALSE NEIGHBOUR: 'it returns false'. Refute it at one input. -/
def flowKeysWrong : ChangeSpec := { name := "flowKeys", fn := fun _ => fun
  | [d1, d2, d3] => { results := [.lit (.bool false)], args := [d1, d2, d3] }
  | _ => none }
def FlowKeysWrongFalsely : Prop := flowKeysRow.holds Try.pinned (OpenSpec.ofChange flowKeysWrong)

/-- 'usherlaw16.FlowKey': WHATEVER THE INPUT: true; the input reads as it did. -/
def flowKeySpec : ChangeSpec := { name := "flowKey", fn := fun _ => fun
  | [d1, d2] => { results := [.lit (.bool true)], args := [d1, d2] }
  | _ => none }
def flowKeyRow : OpenClaim := { program := "ytbcpmkonajomcaa", sum := "fbc59e793cd18c921d1dba4583f6a105aeb1d3a9598606807eb18297a2a91f02", func := "usher/usherlaw16.FlowKey", spec := "flowKey", unfollowed := true, recurses := true, apart := false }
def FlowKeySaid : Prop := flowKeyRow.holds Try.pinned (OpenSpec.ofChange flowKeySpec)

/-- ITS FALSE NEIGHBOUR: 'it returns false'. Refute it at one input. -/
def flowKeyWrong : ChangeSpec := { name := "flowKey", fn := fun _ => fun
  | [d1, d2] => { results := [.lit (.bool false)], args := [d1, d2] }
  | _ => none }
def FlowKeyWrongFalsely : Prop := flowKeyRow.holds Try.pinned (OpenSpec.ofChange flowKeyWrong)

/- THE SECOND FORM. 'bulk': how many values and letters a reading holds, each counted each time it is reached (what is shared counts as often as it is met; a slice's spare places count too). A statement '..UptoSaid' is the law's where the arguments, and the package variables that the reading takes, are together of bulk at most 1048576: NARROWER than '..Said'. Prove '..Said' where nothing that the law and all that it calls make is longer than what came in: it says more and counts as full. Else prove '..UptoSaid'. A law counts once. -/
mutual
def uptoBulk {H : Type} : DataW H → Nat
  | .lit (.string bytes) => bytes.length + 1
  | .lit _ => 1
  | .nil => 1
  | .ptr d => uptoBulk d + 1
  | .slice elems spare => uptoBulkAll elems + uptoBulkAll spare + 1
  | .agg parts => uptoBulkAll parts + 1
  | .iface _ d => uptoBulk d + 1
  | .map entries => uptoBulkEntries entries + 1
  | .held _ => 1
def uptoBulkAll {H : Type} : List (DataW H) → Nat
  | [] => 0
  | d :: r => uptoBulk d + uptoBulkAll r
def uptoBulkEntries {H : Type} : List (Lit × DataW H) → Nat
  | [] => 0
  | x :: r => uptoBulkEntry x + uptoBulkEntries r
def uptoBulkEntry {H : Type} : Lit × DataW H → Nat
  | (.string bytes, d) => bytes.length + uptoBulk d + 1
  | (_, d) => uptoBulk d + 1
 end
def uptoSmall : (H : Type) → List (DataW H) → Bool := fun _ ds => decide (uptoBulkAll ds ≤ 1048576)
def OpenSpec.upto (s : _root_.Go.ChangeSpec) : _root_.Go.OpenSpec := { _root_.Go.OpenSpec.ofChange s with cond := some uptoSmall }

/-- 'usherlaw16.FlowAll', WHERE WHAT IT READS IS OF BULK AT MOST 1048576: true; the input reads as it did. -/
def flowAllUptoRow : OpenClaim := { program := "ytbcpmkonajomcaa", sum := "fbc59e793cd18c921d1dba4583f6a105aeb1d3a9598606807eb18297a2a91f02", func := "usher/usherlaw16.FlowAll", spec := "flowAll", unfollowed := true, recurses := true, apart := false, narrowed := true }
def FlowAllUptoSaid : Prop := flowAllUptoRow.holds Try.pinned (OpenSpec.upto flowAllSpec)

/-- 'usherlaw16.FlowFirst', WHERE WHAT IT READS IS OF BULK AT MOST 1048576: true; the input reads as it did. -/
def flowFirstUptoRow : OpenClaim := { program := "ytbcpmkonajomcaa", sum := "fbc59e793cd18c921d1dba4583f6a105aeb1d3a9598606807eb18297a2a91f02", func := "usher/usherlaw16.FlowFirst", spec := "flowFirst", unfollowed := true, recurses := true, apart := false, narrowed := true }
def FlowFirstUptoSaid : Prop := flowFirstUptoRow.holds Try.pinned (OpenSpec.upto flowFirstSpec)

/-- 'usherlaw16.FlowKeys', WHERE WHAT IT READS IS OF BULK AT MOST 1048576: true; the input reads as it did. -/
def flowKeysUptoRow : OpenClaim := { program := "ytbcpmkonajomcaa", sum := "fbc59e793cd18c921d1dba4583f6a105aeb1d3a9598606807eb18297a2a91f02", func := "usher/usherlaw16.FlowKeys", spec := "flowKeys", unfollowed := true, recurses := true, apart := false, narrowed := true }
def FlowKeysUptoSaid : Prop := flowKeysUptoRow.holds Try.pinned (OpenSpec.upto flowKeysSpec)

/-- 'usherlaw16.FlowKey', WHERE WHAT IT READS IS OF BULK AT MOST 1048576: true; the input reads as it did. -/
def flowKeyUptoRow : OpenClaim := { program := "ytbcpmkonajomcaa", sum := "fbc59e793cd18c921d1dba4583f6a105aeb1d3a9598606807eb18297a2a91f02", func := "usher/usherlaw16.FlowKey", spec := "flowKey", unfollowed := true, recurses := true, apart := false, narrowed := true }
def FlowKeyUptoSaid : Prop := flowKeyUptoRow.holds Try.pinned (OpenSpec.upto flowKeySpec)

end Rows
end Go.Proofs.Ytbcpmkonajomcaa
