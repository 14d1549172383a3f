/-
  DERIVED. GIVEN WITH THE SEED: THE CARDS: each row of YtfblglnfplpagaaDoorRows.lean that lists a variable, with what it lists TIED to the program's text (the seventh form; the later family's looks); each row that meets fmt, with fmt's text TOLD by the authors' own Lean function (tested against real Go, not proved from fmt's source: count such statements apart). THE CARD IS WHAT COUNTS. Prove the row's statement (the work); the ties are given (YtfblglnfplpagaaDoorTie.lean); close each card by the builder's one call (the guide's Derived/Test/ToyasCard.lean, 'card_holds'). Laid BY PROGRAM, IN A SANDBOX (cutbox-door.mjs). By AI agents, Wed Nov 11 2026. No macro, syntax, notation, axiom, sorry.
-/
import Derived.Test.YtfblglnfplpagaaDoorRows
import GoSem.ClaimSeven
namespace Go.Proofs.YtfblglnfplpagaaDoor
namespace Rows

/-- THE TIED CARD OF 'usherlaw09.FaultEmpty'. -/
def faultEmptyCard : Claim7 := { stood := { row := faultEmptyRow, standIns := [], harness := (true, "ae7fbb15eb883ac67f173027ddeb2cf08c611cd365352050fbb79752992de2dd"), looks := true }, kinds := [], alts := [], laidByText := true, laidKinds := [.handle], laidTests := true, laidLooks := .later }
def FaultEmptyCardSaid : Prop := Claim7.holds Tryd.pinned (.plain (OpenSpec.ofChange faultEmptySpec)) faultEmptyCard

/-- THE TIED CARD OF 'usherlaw09.FaultChains'. -/
def faultChainsCard : Claim7 := { stood := { row := faultChainsRow, standIns := [], harness := (true, "ae7fbb15eb883ac67f173027ddeb2cf08c611cd365352050fbb79752992de2dd"), looks := true }, kinds := [], alts := [], laidByText := true, laidKinds := [.handle], laidTests := true, laidLooks := .later }
def FaultChainsCardSaid : Prop := Claim7.holds Tryd.pinned (.plain (OpenSpec.ofChange faultChainsSpec)) faultChainsCard

/-- THE TIED CARD OF 'usherlaw09.FaultNil'. -/
def faultNilCard : Claim7 := { stood := { row := faultNilRow, standIns := [], harness := (true, "ae7fbb15eb883ac67f173027ddeb2cf08c611cd365352050fbb79752992de2dd"), looks := true }, kinds := [], alts := [], laidByText := true, laidKinds := [.handle], laidTests := true, laidLooks := .later }
def FaultNilCardSaid : Prop := Claim7.holds Tryd.pinned (.plain (OpenSpec.ofChange faultNilSpec)) faultNilCard

/-- THE TIED CARD OF 'usherlaw09.FaultIs'. -/
def faultIsCard : Claim7 := { stood := { row := faultIsRow, standIns := [], harness := (true, "ae7fbb15eb883ac67f173027ddeb2cf08c611cd365352050fbb79752992de2dd"), looks := true }, kinds := [], alts := [], laidByText := true, laidKinds := [.handle], laidTests := true, laidLooks := .later }
def FaultIsCardSaid : Prop := Claim7.holds Tryd.pinned (.plain (OpenSpec.ofChange faultIsSpec)) faultIsCard

/-- THE TIED CARD OF 'usherlaw09.FaultTells'. -/
def faultTellsCard : Claim7 := { stood := { row := faultTellsRow, standIns := [], harness := (true, "ae7fbb15eb883ac67f173027ddeb2cf08c611cd365352050fbb79752992de2dd"), looks := true }, kinds := [], alts := [], laidByText := true, laidKinds := [.data, .data, .data, .handle], laidTests := true, laidLooks := .later }
def FaultTellsCardSaid : Prop := Claim7.holds Tryd.pinned (.plain (OpenSpec.ofChange faultTellsSpec)) faultTellsCard

/-- THE SECOND FORM's CARD OF 'usherlaw09.FaultEmpty'. -/
def faultEmptyUptoCard : Claim7 := { stood := { row := faultEmptyUptoRow, standIns := [], harness := (true, "ae7fbb15eb883ac67f173027ddeb2cf08c611cd365352050fbb79752992de2dd"), looks := true }, kinds := [], alts := [], laidByText := true, laidKinds := [.handle], laidTests := true, laidLooks := .later }
def FaultEmptyUptoCardSaid : Prop := Claim7.holds Tryd.pinned (.plain (OpenSpec.upto faultEmptySpec)) faultEmptyUptoCard

/-- THE SECOND FORM's CARD OF 'usherlaw09.FaultChains'. -/
def faultChainsUptoCard : Claim7 := { stood := { row := faultChainsUptoRow, standIns := [], harness := (true, "ae7fbb15eb883ac67f173027ddeb2cf08c611cd365352050fbb79752992de2dd"), looks := true }, kinds := [], alts := [], laidByText := true, laidKinds := [.handle], laidTests := true, laidLooks := .later }
def FaultChainsUptoCardSaid : Prop := Claim7.holds Tryd.pinned (.plain (OpenSpec.upto faultChainsSpec)) faultChainsUptoCard

/-- THE SECOND FORM's CARD OF 'usherlaw09.FaultNil'. -/
def faultNilUptoCard : Claim7 := { stood := { row := faultNilUptoRow, standIns := [], harness := (true, "ae7fbb15eb883ac67f173027ddeb2cf08c611cd365352050fbb79752992de2dd"), looks := true }, kinds := [], alts := [], laidByText := true, laidKinds := [.handle], laidTests := true, laidLooks := .later }
def FaultNilUptoCardSaid : Prop := Claim7.holds Tryd.pinned (.plain (OpenSpec.upto faultNilSpec)) faultNilUptoCard

/-- THE SECOND FORM's CARD OF 'usherlaw09.FaultIs'. -/
def faultIsUptoCard : Claim7 := { stood := { row := faultIsUptoRow, standIns := [], harness := (true, "ae7fbb15eb883ac67f173027ddeb2cf08c611cd365352050fbb79752992de2dd"), looks := true }, kinds := [], alts := [], laidByText := true, laidKinds := [.handle], laidTests := true, laidLooks := .later }
def FaultIsUptoCardSaid : Prop := Claim7.holds Tryd.pinned (.plain (OpenSpec.upto faultIsSpec)) faultIsUptoCard

/-- THE SECOND FORM's CARD OF 'usherlaw09.FaultTells'. -/
def faultTellsUptoCard : Claim7 := { stood := { row := faultTellsUptoRow, standIns := [], harness := (true, "ae7fbb15eb883ac67f173027ddeb2cf08c611cd365352050fbb79752992de2dd"), looks := true }, kinds := [], alts := [], laidByText := true, laidKinds := [.data, .data, .data, .handle], laidTests := true, laidLooks := .later }
def FaultTellsUptoCardSaid : Prop := Claim7.holds Tryd.pinned (.plain (OpenSpec.upto faultTellsSpec)) faultTellsUptoCard
end Rows
end Go.Proofs.YtfblglnfplpagaaDoor
