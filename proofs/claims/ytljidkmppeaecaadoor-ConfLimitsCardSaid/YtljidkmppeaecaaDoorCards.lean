/-
  DERIVED. GIVEN WITH THE SEED: THE CARDS: each row of YtljidkmppeaecaaDoorRows.lean that lists a variable, with what it lists TIED to the program's text (the seventh form; the later family's looks); each row that meets fmt, with fmt's text TOLD by the authors' own Lean function (tested against real Go, not proved from fmt's source: count such statements apart). THE CARD IS WHAT COUNTS. Prove the row's statement (the work); the ties are given (YtljidkmppeaecaaDoorTie.lean); close each card by the builder's one call (the guide's Derived/Test/ToyasCard.lean, 'card_holds'). Laid BY PROGRAM, IN A SANDBOX (cutbox-door.mjs). By AI agents, Wed Nov 11 2026. No macro, syntax, notation, axiom, sorry.
-/
import Derived.Test.YtljidkmppeaecaaDoorRows
import GoSem.ClaimSeven
namespace Go.Proofs.YtljidkmppeaecaaDoor
namespace Rows

/-- THE TIED CARD OF 'usherlaw10.ConfApart'. -/
def confApartCard : Claim7 := { stood := { row := confApartRow, standIns := [], harness := (true, "a865ed08c93abe7f81e27133fb670a6a59efa0a4213b4ceddfd2b78efd9998c3"), looks := true }, kinds := [], alts := [], laidByText := true, laidKinds := [.data, .pinned], laidTests := true, laidLooks := .later }
def ConfApartCardSaid : Prop := Claim7.holds Tryd.pinned (.plain (OpenSpec.ofChange confApartSpec)) confApartCard

/-- THE TIED CARD OF 'usherlaw10.ConfReads'. -/
def confReadsCard : Claim7 := { stood := { row := confReadsRow, standIns := [], harness := (true, "a865ed08c93abe7f81e27133fb670a6a59efa0a4213b4ceddfd2b78efd9998c3"), looks := true }, kinds := [], alts := [], laidByText := true, laidKinds := [.data, .handle, .pinned], laidTests := true, laidLooks := .later }
def ConfReadsCardSaid : Prop := Claim7.holds Tryd.pinned (.plain (OpenSpec.ofChange confReadsSpec)) confReadsCard

/-- THE TIED CARD OF 'usherlaw10.ConfLines'. -/
def confLinesCard : Claim7 := { stood := { row := confLinesRow, standIns := [], harness := (true, "a865ed08c93abe7f81e27133fb670a6a59efa0a4213b4ceddfd2b78efd9998c3"), looks := true }, kinds := [], alts := [], laidByText := true, laidKinds := [.data, .handle, .pinned], laidTests := true, laidLooks := .later }
def ConfLinesCardSaid : Prop := Claim7.holds Tryd.pinned (.plain (OpenSpec.ofChange confLinesSpec)) confLinesCard

/-- THE TIED CARD OF 'usherlaw10.ConfCut'. -/
def confCutCard : Claim7 := { stood := { row := confCutRow, standIns := [], harness := (true, "a865ed08c93abe7f81e27133fb670a6a59efa0a4213b4ceddfd2b78efd9998c3"), looks := true }, kinds := [], alts := [], laidByText := true, laidKinds := [.data, .handle, .pinned], laidTests := true, laidLooks := .later }
def ConfCutCardSaid : Prop := Claim7.holds Tryd.pinned (.plain (OpenSpec.ofChange confCutSpec)) confCutCard

/-- THE TIED CARD OF 'usherlaw10.ConfLimits'. -/
def confLimitsCard : Claim7 := { stood := { row := confLimitsRow, standIns := [], harness := (true, "a865ed08c93abe7f81e27133fb670a6a59efa0a4213b4ceddfd2b78efd9998c3"), looks := true }, kinds := [], alts := [], laidByText := true, laidKinds := [.data, .handle, .pinned], laidTests := true, laidLooks := .later }
def ConfLimitsCardSaid : Prop := Claim7.holds Tryd.pinned (.plain (OpenSpec.ofChange confLimitsSpec)) confLimitsCard

/-- THE SECOND FORM's CARD OF 'usherlaw10.ConfApart'. -/
def confApartUptoCard : Claim7 := { stood := { row := confApartUptoRow, standIns := [], harness := (true, "a865ed08c93abe7f81e27133fb670a6a59efa0a4213b4ceddfd2b78efd9998c3"), looks := true }, kinds := [], alts := [], laidByText := true, laidKinds := [.data, .pinned], laidTests := true, laidLooks := .later }
def ConfApartUptoCardSaid : Prop := Claim7.holds Tryd.pinned (.plain (OpenSpec.upto confApartSpec)) confApartUptoCard

/-- THE SECOND FORM's CARD OF 'usherlaw10.ConfReads'. -/
def confReadsUptoCard : Claim7 := { stood := { row := confReadsUptoRow, standIns := [], harness := (true, "a865ed08c93abe7f81e27133fb670a6a59efa0a4213b4ceddfd2b78efd9998c3"), looks := true }, kinds := [], alts := [], laidByText := true, laidKinds := [.data, .handle, .pinned], laidTests := true, laidLooks := .later }
def ConfReadsUptoCardSaid : Prop := Claim7.holds Tryd.pinned (.plain (OpenSpec.upto confReadsSpec)) confReadsUptoCard

/-- THE SECOND FORM's CARD OF 'usherlaw10.ConfLines'. -/
def confLinesUptoCard : Claim7 := { stood := { row := confLinesUptoRow, standIns := [], harness := (true, "a865ed08c93abe7f81e27133fb670a6a59efa0a4213b4ceddfd2b78efd9998c3"), looks := true }, kinds := [], alts := [], laidByText := true, laidKinds := [.data, .handle, .pinned], laidTests := true, laidLooks := .later }
def ConfLinesUptoCardSaid : Prop := Claim7.holds Tryd.pinned (.plain (OpenSpec.upto confLinesSpec)) confLinesUptoCard

/-- THE SECOND FORM's CARD OF 'usherlaw10.ConfCut'. -/
def confCutUptoCard : Claim7 := { stood := { row := confCutUptoRow, standIns := [], harness := (true, "a865ed08c93abe7f81e27133fb670a6a59efa0a4213b4ceddfd2b78efd9998c3"), looks := true }, kinds := [], alts := [], laidByText := true, laidKinds := [.data, .handle, .pinned], laidTests := true, laidLooks := .later }
def ConfCutUptoCardSaid : Prop := Claim7.holds Tryd.pinned (.plain (OpenSpec.upto confCutSpec)) confCutUptoCard

/-- THE SECOND FORM's CARD OF 'usherlaw10.ConfLimits'. -/
def confLimitsUptoCard : Claim7 := { stood := { row := confLimitsUptoRow, standIns := [], harness := (true, "a865ed08c93abe7f81e27133fb670a6a59efa0a4213b4ceddfd2b78efd9998c3"), looks := true }, kinds := [], alts := [], laidByText := true, laidKinds := [.data, .handle, .pinned], laidTests := true, laidLooks := .later }
def ConfLimitsUptoCardSaid : Prop := Claim7.holds Tryd.pinned (.plain (OpenSpec.upto confLimitsSpec)) confLimitsUptoCard
end Rows
end Go.Proofs.YtljidkmppeaecaaDoor
