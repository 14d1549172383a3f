/-
  DERIVED. GIVEN WITH THE SEED: THE CARDS: each row of YtmhkmoeailamlaaDoorRows.lean that lists a variable, with what it lists TIED to the program's text (the seventh form; the later family's looks); each row that meets fmt, with fmt's text TOLD by the authors' own Lean function (tested against real Go, not proved from fmt's source: count such statements apart). THE CARD IS WHAT COUNTS. Prove the row's statement (the work); the ties are given (YtmhkmoeailamlaaDoorTie.lean); close each card by the builder's one call (the guide's Derived/Test/ToyasCard.lean, 'card_holds'). Laid BY PROGRAM, IN A SANDBOX (cutbox-door.mjs). By AI agents, Wed Nov 11 2026. No macro, syntax, notation, axiom, sorry.
-/
import Derived.Test.YtmhkmoeailamlaaDoorRows
import GoSem.ClaimSeven
namespace Go.Proofs.YtmhkmoeailamlaaDoor
namespace Rows

/-- THE TIED CARD OF 'usherlaw26.EventReads'. -/
def eventReadsCard : Claim7 := { stood := { row := eventReadsRow, standIns := [], harness := (true, "ef883ef06b67267133d3fa545d289824d6d73bd3f3e7bf6ac23e0f630816a8b1"), looks := false }, kinds := [], alts := [], laidByText := true, laidKinds := [.data, .data, .data, .data, .pinned], laidTests := true, laidLooks := .later }
def EventReadsCardSaid : Prop := Claim7.holds Tryd.pinned (.plain (OpenSpec.ofChange eventReadsSpec)) eventReadsCard

/-- THE TIED CARD OF 'usherlaw26.EventWrites'. -/
def eventWritesCard : Claim7 := { stood := { row := eventWritesRow, standIns := [], harness := (true, "ef883ef06b67267133d3fa545d289824d6d73bd3f3e7bf6ac23e0f630816a8b1"), looks := false }, kinds := [], alts := [], laidByText := true, laidKinds := [.data, .data, .data, .data, .pinned], laidTests := true, laidLooks := .later }
def EventWritesCardSaid : Prop := Claim7.holds Tryd.pinned (.plain (OpenSpec.ofChange eventWritesSpec)) eventWritesCard

/-- THE TIED CARD OF 'usherlaw26.EventBack'. -/
def eventBackCard : Claim7 := { stood := { row := eventBackRow, standIns := [], harness := (true, "ef883ef06b67267133d3fa545d289824d6d73bd3f3e7bf6ac23e0f630816a8b1"), looks := false }, kinds := [], alts := [], laidByText := true, laidKinds := [.data, .data, .data, .data, .pinned], laidTests := true, laidLooks := .later }
def EventBackCardSaid : Prop := Claim7.holds Tryd.pinned (.plain (OpenSpec.ofChange eventBackSpec)) eventBackCard

/-- THE TIED CARD OF 'usherlaw26.EventOne'. -/
def eventOneCard : Claim7 := { stood := { row := eventOneRow, standIns := [], harness := (true, "ef883ef06b67267133d3fa545d289824d6d73bd3f3e7bf6ac23e0f630816a8b1"), looks := false }, kinds := [], alts := [], laidByText := true, laidKinds := [.data, .data, .data, .data, .pinned], laidTests := true, laidLooks := .later }
def EventOneCardSaid : Prop := Claim7.holds Tryd.pinned (.plain (OpenSpec.ofChange eventOneSpec)) eventOneCard

/-- THE TIED CARD OF 'usherlaw26.EventBlanks'. -/
def eventBlanksCard : Claim7 := { stood := { row := eventBlanksRow, standIns := [], harness := (true, "ef883ef06b67267133d3fa545d289824d6d73bd3f3e7bf6ac23e0f630816a8b1"), looks := false }, kinds := [], alts := [], laidByText := true, laidKinds := [.data, .data, .data, .data, .pinned], laidTests := true, laidLooks := .later }
def EventBlanksCardSaid : Prop := Claim7.holds Tryd.pinned (.plain (OpenSpec.ofChange eventBlanksSpec)) eventBlanksCard

/-- THE SECOND FORM's CARD OF 'usherlaw26.EventReads'. -/
def eventReadsUptoCard : Claim7 := { stood := { row := eventReadsUptoRow, standIns := [], harness := (true, "ef883ef06b67267133d3fa545d289824d6d73bd3f3e7bf6ac23e0f630816a8b1"), looks := false }, kinds := [], alts := [], laidByText := true, laidKinds := [.data, .data, .data, .data, .pinned], laidTests := true, laidLooks := .later }
def EventReadsUptoCardSaid : Prop := Claim7.holds Tryd.pinned (.plain (OpenSpec.upto eventReadsSpec)) eventReadsUptoCard

/-- THE SECOND FORM's CARD OF 'usherlaw26.EventWrites'. -/
def eventWritesUptoCard : Claim7 := { stood := { row := eventWritesUptoRow, standIns := [], harness := (true, "ef883ef06b67267133d3fa545d289824d6d73bd3f3e7bf6ac23e0f630816a8b1"), looks := false }, kinds := [], alts := [], laidByText := true, laidKinds := [.data, .data, .data, .data, .pinned], laidTests := true, laidLooks := .later }
def EventWritesUptoCardSaid : Prop := Claim7.holds Tryd.pinned (.plain (OpenSpec.upto eventWritesSpec)) eventWritesUptoCard

/-- THE SECOND FORM's CARD OF 'usherlaw26.EventBack'. -/
def eventBackUptoCard : Claim7 := { stood := { row := eventBackUptoRow, standIns := [], harness := (true, "ef883ef06b67267133d3fa545d289824d6d73bd3f3e7bf6ac23e0f630816a8b1"), looks := false }, kinds := [], alts := [], laidByText := true, laidKinds := [.data, .data, .data, .data, .pinned], laidTests := true, laidLooks := .later }
def EventBackUptoCardSaid : Prop := Claim7.holds Tryd.pinned (.plain (OpenSpec.upto eventBackSpec)) eventBackUptoCard

/-- THE SECOND FORM's CARD OF 'usherlaw26.EventOne'. -/
def eventOneUptoCard : Claim7 := { stood := { row := eventOneUptoRow, standIns := [], harness := (true, "ef883ef06b67267133d3fa545d289824d6d73bd3f3e7bf6ac23e0f630816a8b1"), looks := false }, kinds := [], alts := [], laidByText := true, laidKinds := [.data, .data, .data, .data, .pinned], laidTests := true, laidLooks := .later }
def EventOneUptoCardSaid : Prop := Claim7.holds Tryd.pinned (.plain (OpenSpec.upto eventOneSpec)) eventOneUptoCard

/-- THE SECOND FORM's CARD OF 'usherlaw26.EventBlanks'. -/
def eventBlanksUptoCard : Claim7 := { stood := { row := eventBlanksUptoRow, standIns := [], harness := (true, "ef883ef06b67267133d3fa545d289824d6d73bd3f3e7bf6ac23e0f630816a8b1"), looks := false }, kinds := [], alts := [], laidByText := true, laidKinds := [.data, .data, .data, .data, .pinned], laidTests := true, laidLooks := .later }
def EventBlanksUptoCardSaid : Prop := Claim7.holds Tryd.pinned (.plain (OpenSpec.upto eventBlanksSpec)) eventBlanksUptoCard
end Rows
end Go.Proofs.YtmhkmoeailamlaaDoor
