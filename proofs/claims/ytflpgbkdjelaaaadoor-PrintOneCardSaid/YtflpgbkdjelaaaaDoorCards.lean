/-
  DERIVED. GIVEN WITH THE SEED: THE CARDS: each row of YtflpgbkdjelaaaaDoorRows.lean that lists a variable, with what it lists TIED to the program's text (the seventh form; the later family's looks); each row that meets fmt, with fmt's text TOLD by the authors' own Lean function (tested against real Go, not proved from fmt's source: count such statements apart). THE CARD IS WHAT COUNTS. Prove the row's statement (the work); the ties are given (YtflpgbkdjelaaaaDoorTie.lean); close each card by the builder's one call (the guide's Derived/Test/ToyasCard.lean, 'card_holds'). Laid BY PROGRAM, IN A SANDBOX (cutbox-door.mjs). By AI agents, Wed Nov 11 2026. No macro, syntax, notation, axiom, sorry.
-/
import Derived.Test.YtflpgbkdjelaaaaDoorRows
import GoSem.ClaimSeven
namespace Go.Proofs.YtflpgbkdjelaaaaDoor
namespace Rows

/-- THE TIED CARD OF 'usherlaw11.PrintAll'. -/
def printAllCard : Claim7 := { stood := { row := printAllRow, standIns := [], harness := (true, "b63d46d2012ef1e1c71c108c9b0fe91e70b245c1a050e831c960994e3d54798c"), looks := false }, kinds := [], alts := [], laidByText := true, laidKinds := [.data, .data, .data], laidTests := true, laidLooks := .later }
def PrintAllCardSaid : Prop := Claim7.holds Tryd.pinned (.plain (OpenSpec.ofChange printAllSpec)) printAllCard

/-- THE TIED CARD OF 'usherlaw11.PrintPart'. -/
def printPartCard : Claim7 := { stood := { row := printPartRow, standIns := [], harness := (true, "b63d46d2012ef1e1c71c108c9b0fe91e70b245c1a050e831c960994e3d54798c"), looks := false }, kinds := [], alts := [], laidByText := true, laidKinds := [.data, .data, .data], laidTests := true, laidLooks := .later }
def PrintPartCardSaid : Prop := Claim7.holds Tryd.pinned (.plain (OpenSpec.ofChange printPartSpec)) printPartCard

/-- THE TIED CARD OF 'usherlaw11.PrintBack'. -/
def printBackCard : Claim7 := { stood := { row := printBackRow, standIns := [], harness := (true, "b63d46d2012ef1e1c71c108c9b0fe91e70b245c1a050e831c960994e3d54798c"), looks := false }, kinds := [], alts := [], laidByText := true, laidKinds := [.data, .data, .data, .data, .pinned], laidTests := true, laidLooks := .later }
def PrintBackCardSaid : Prop := Claim7.holds Tryd.pinned (.plain (OpenSpec.ofChange printBackSpec)) printBackCard

/-- THE TIED CARD OF 'usherlaw11.PrintOne'. -/
def printOneCard : Claim7 := { stood := { row := printOneRow, standIns := [], harness := (true, "b63d46d2012ef1e1c71c108c9b0fe91e70b245c1a050e831c960994e3d54798c"), looks := false }, kinds := [], alts := [], laidByText := true, laidKinds := [.data, .data, .data, .data, .pinned], laidTests := true, laidLooks := .later }
def PrintOneCardSaid : Prop := Claim7.holds Tryd.pinned (.plain (OpenSpec.ofChange printOneSpec)) printOneCard

/-- THE SECOND FORM's CARD OF 'usherlaw11.PrintAll'. -/
def printAllUptoCard : Claim7 := { stood := { row := printAllUptoRow, standIns := [], harness := (true, "b63d46d2012ef1e1c71c108c9b0fe91e70b245c1a050e831c960994e3d54798c"), looks := false }, kinds := [], alts := [], laidByText := true, laidKinds := [.data, .data, .data], laidTests := true, laidLooks := .later }
def PrintAllUptoCardSaid : Prop := Claim7.holds Tryd.pinned (.plain (OpenSpec.upto printAllSpec)) printAllUptoCard

/-- THE SECOND FORM's CARD OF 'usherlaw11.PrintPart'. -/
def printPartUptoCard : Claim7 := { stood := { row := printPartUptoRow, standIns := [], harness := (true, "b63d46d2012ef1e1c71c108c9b0fe91e70b245c1a050e831c960994e3d54798c"), looks := false }, kinds := [], alts := [], laidByText := true, laidKinds := [.data, .data, .data], laidTests := true, laidLooks := .later }
def PrintPartUptoCardSaid : Prop := Claim7.holds Tryd.pinned (.plain (OpenSpec.upto printPartSpec)) printPartUptoCard

/-- THE SECOND FORM's CARD OF 'usherlaw11.PrintBack'. -/
def printBackUptoCard : Claim7 := { stood := { row := printBackUptoRow, standIns := [], harness := (true, "b63d46d2012ef1e1c71c108c9b0fe91e70b245c1a050e831c960994e3d54798c"), looks := false }, kinds := [], alts := [], laidByText := true, laidKinds := [.data, .data, .data, .data, .pinned], laidTests := true, laidLooks := .later }
def PrintBackUptoCardSaid : Prop := Claim7.holds Tryd.pinned (.plain (OpenSpec.upto printBackSpec)) printBackUptoCard

/-- THE SECOND FORM's CARD OF 'usherlaw11.PrintOne'. -/
def printOneUptoCard : Claim7 := { stood := { row := printOneUptoRow, standIns := [], harness := (true, "b63d46d2012ef1e1c71c108c9b0fe91e70b245c1a050e831c960994e3d54798c"), looks := false }, kinds := [], alts := [], laidByText := true, laidKinds := [.data, .data, .data, .data, .pinned], laidTests := true, laidLooks := .later }
def PrintOneUptoCardSaid : Prop := Claim7.holds Tryd.pinned (.plain (OpenSpec.upto printOneSpec)) printOneUptoCard
end Rows
end Go.Proofs.YtflpgbkdjelaaaaDoor
