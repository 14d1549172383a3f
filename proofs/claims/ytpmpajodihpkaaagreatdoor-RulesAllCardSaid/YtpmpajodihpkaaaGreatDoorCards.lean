/-
  DERIVED. GIVEN WITH THE SEED: THE CARDS: each row of YtpmpajodihpkaaaGreatDoorRows.lean that lists a variable, with what it lists TIED to the program's text (the seventh form; the later family's looks); each row that meets fmt, with fmt's text TOLD by the authors' own Lean function (tested against real Go, not proved from fmt's source: count such statements apart). THE CARD IS WHAT COUNTS. Prove the row's statement (the work); the ties are given (YtpmpajodihpkaaaGreatDoorTie.lean); close each card by the builder's one call (the guide's Derived/Test/ToyasCard.lean, 'card_holds'). Laid BY PROGRAM, IN A SANDBOX (cutbox-door.mjs). By AI agents, Wed Nov 11 2026. No macro, syntax, notation, axiom, sorry.
-/
import Derived.Test.YtpmpajodihpkaaaGreatDoorRows
import GoSem.ClaimSeven
namespace Go.Proofs.YtpmpajodihpkaaaGreatDoor
namespace Rows

/-- THE TIED CARD OF 'usherlaw13.RulesAll'. -/
def rulesAllCard : Claim7 := { stood := { row := rulesAllRow, standIns := [], harness := (true, "a9e416b1b34c0f05af361455ec0be95bc4c7a48bd4989e1cb6a3108f4e441143"), looks := true }, kinds := [], alts := [], laidByText := true, laidKinds := [.handle], laidTests := true, laidLooks := .later }
def RulesAllCardSaid : Prop := Claim7.holds Tryz.pinned (.plain (OpenSpec.ofChange rulesAllSpec)) rulesAllCard

/-- THE SECOND FORM's CARD OF 'usherlaw13.RulesAll'. -/
def rulesAllUptoCard : Claim7 := { stood := { row := rulesAllUptoRow, standIns := [], harness := (true, "a9e416b1b34c0f05af361455ec0be95bc4c7a48bd4989e1cb6a3108f4e441143"), looks := true }, kinds := [], alts := [], laidByText := true, laidKinds := [.handle], laidTests := true, laidLooks := .later }
def RulesAllUptoCardSaid : Prop := Claim7.holds Tryz.pinned (.plain (OpenSpec.upto rulesAllSpec)) rulesAllUptoCard
end Rows
end Go.Proofs.YtpmpajodihpkaaaGreatDoor
