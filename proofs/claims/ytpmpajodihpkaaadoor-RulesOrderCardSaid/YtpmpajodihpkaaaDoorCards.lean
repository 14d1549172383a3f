/-
  DERIVED. GIVEN WITH THE SEED: THE CARDS: each row of YtpmpajodihpkaaaDoorRows.lean that lists a variable, with what it lists TIED to the program's text (the seventh form; the later family's looks); each row that meets fmt, with fmt's text TOLD by the authors' own Lean function (tested against real Go, not proved from fmt's source: count such statements apart). THE CARD IS WHAT COUNTS. Prove the row's statement (the work); the ties are given (YtpmpajodihpkaaaDoorTie.lean); close each card by the builder's one call (the guide's Derived/Test/ToyasCard.lean, 'card_holds'). Laid BY PROGRAM, IN A SANDBOX (cutbox-door.mjs). By AI agents, Wed Nov 11 2026. No macro, syntax, notation, axiom, sorry.
-/
import Derived.Test.YtpmpajodihpkaaaDoorRows
import GoSem.ClaimSeven
namespace Go.Proofs.YtpmpajodihpkaaaDoor
namespace Rows

/-- THE TIED CARD OF 'usherlaw13.RulesSound'. -/
def rulesSoundCard : Claim7 := { stood := { row := rulesSoundRow, standIns := [], harness := (true, "71e59ef0ebcbfb322bf9507d8f31863895165eeecf4e85bfa0ec39c1e9771321"), looks := true }, kinds := [], alts := [], laidByText := true, laidKinds := [.handle], laidTests := true, laidLooks := .later }
def RulesSoundCardSaid : Prop := Claim7.holds Tryd.pinned (.plain (OpenSpec.ofChange rulesSoundSpec)) rulesSoundCard

/-- THE TIED CARD OF 'usherlaw13.RulesOrder'. -/
def rulesOrderCard : Claim7 := { stood := { row := rulesOrderRow, standIns := [], harness := (true, "71e59ef0ebcbfb322bf9507d8f31863895165eeecf4e85bfa0ec39c1e9771321"), looks := true }, kinds := [], alts := [], laidByText := true, laidKinds := [.handle], laidTests := true, laidLooks := .later }
def RulesOrderCardSaid : Prop := Claim7.holds Tryd.pinned (.plain (OpenSpec.ofChange rulesOrderSpec)) rulesOrderCard

/-- THE SECOND FORM's CARD OF 'usherlaw13.RulesSound'. -/
def rulesSoundUptoCard : Claim7 := { stood := { row := rulesSoundUptoRow, standIns := [], harness := (true, "71e59ef0ebcbfb322bf9507d8f31863895165eeecf4e85bfa0ec39c1e9771321"), looks := true }, kinds := [], alts := [], laidByText := true, laidKinds := [.handle], laidTests := true, laidLooks := .later }
def RulesSoundUptoCardSaid : Prop := Claim7.holds Tryd.pinned (.plain (OpenSpec.upto rulesSoundSpec)) rulesSoundUptoCard

/-- THE SECOND FORM's CARD OF 'usherlaw13.RulesOrder'. -/
def rulesOrderUptoCard : Claim7 := { stood := { row := rulesOrderUptoRow, standIns := [], harness := (true, "71e59ef0ebcbfb322bf9507d8f31863895165eeecf4e85bfa0ec39c1e9771321"), looks := true }, kinds := [], alts := [], laidByText := true, laidKinds := [.handle], laidTests := true, laidLooks := .later }
def RulesOrderUptoCardSaid : Prop := Claim7.holds Tryd.pinned (.plain (OpenSpec.upto rulesOrderSpec)) rulesOrderUptoCard
end Rows
end Go.Proofs.YtpmpajodihpkaaaDoor
