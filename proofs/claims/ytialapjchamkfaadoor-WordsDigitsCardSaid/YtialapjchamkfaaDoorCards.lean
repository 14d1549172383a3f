/-
  DERIVED. GIVEN WITH THE SEED: THE CARDS: each row of YtialapjchamkfaaDoorRows.lean that lists a variable, with what it lists TIED to the program's text (the seventh form; the later family's looks); each row that meets fmt, with fmt's text TOLD by the authors' own Lean function (tested against real Go, not proved from fmt's source: count such statements apart). THE CARD IS WHAT COUNTS. Prove the row's statement (the work); the ties are given (YtialapjchamkfaaDoorTie.lean); close each card by the builder's one call (the guide's Derived/Test/ToyasCard.lean, 'card_holds'). Laid BY PROGRAM, IN A SANDBOX (cutbox-door.mjs). By AI agents, Wed Nov 11 2026. No macro, syntax, notation, axiom, sorry.
-/
import Derived.Test.YtialapjchamkfaaDoorRows
import GoSem.ClaimSeven
namespace Go.Proofs.YtialapjchamkfaaDoor
namespace Rows

/-- THE TIED CARD OF 'usherlaw08.WordsCuts'. -/
def wordsCutsCard : Claim7 := { stood := { row := wordsCutsRow, standIns := [], harness := (true, "043dfb765f5d8c3e8005692a4d1883a36580cffbbba943ff99881a364d754fe9"), looks := false }, kinds := [], alts := [], laidByText := true, laidKinds := [.data, .data, .data, .data, .pinned], laidTests := true, laidLooks := .later }
def WordsCutsCardSaid : Prop := Claim7.holds Tryd.pinned (.plain (OpenSpec.ofChange wordsCutsSpec)) wordsCutsCard

/-- THE TIED CARD OF 'usherlaw08.WordsBack'. -/
def wordsBackCard : Claim7 := { stood := { row := wordsBackRow, standIns := [], harness := (true, "043dfb765f5d8c3e8005692a4d1883a36580cffbbba943ff99881a364d754fe9"), looks := false }, kinds := [], alts := [], laidByText := true, laidKinds := [.data, .data, .data, .data, .pinned], laidTests := true, laidLooks := .later }
def WordsBackCardSaid : Prop := Claim7.holds Tryd.pinned (.plain (OpenSpec.ofChange wordsBackSpec)) wordsBackCard

/-- THE TIED CARD OF 'usherlaw08.WordsNames'. -/
def wordsNamesCard : Claim7 := { stood := { row := wordsNamesRow, standIns := [], harness := (true, "043dfb765f5d8c3e8005692a4d1883a36580cffbbba943ff99881a364d754fe9"), looks := false }, kinds := [], alts := [], laidByText := true, laidKinds := [.data, .data, .data, .data, .pinned], laidTests := true, laidLooks := .later }
def WordsNamesCardSaid : Prop := Claim7.holds Tryd.pinned (.plain (OpenSpec.ofChange wordsNamesSpec)) wordsNamesCard

/-- THE TIED CARD OF 'usherlaw08.WordsCompare'. -/
def wordsCompareCard : Claim7 := { stood := { row := wordsCompareRow, standIns := [], harness := (true, "043dfb765f5d8c3e8005692a4d1883a36580cffbbba943ff99881a364d754fe9"), looks := false }, kinds := [], alts := [], laidByText := true, laidKinds := [.data, .data, .data, .data, .pinned], laidTests := true, laidLooks := .later }
def WordsCompareCardSaid : Prop := Claim7.holds Tryd.pinned (.plain (OpenSpec.ofChange wordsCompareSpec)) wordsCompareCard

/-- THE TIED CARD OF 'usherlaw08.WordsKinds'. -/
def wordsKindsCard : Claim7 := { stood := { row := wordsKindsRow, standIns := [], harness := (true, "043dfb765f5d8c3e8005692a4d1883a36580cffbbba943ff99881a364d754fe9"), looks := false }, kinds := [], alts := [], laidByText := true, laidKinds := [.data, .data, .data, .data, .pinned], laidTests := true, laidLooks := .later }
def WordsKindsCardSaid : Prop := Claim7.holds Tryd.pinned (.plain (OpenSpec.ofChange wordsKindsSpec)) wordsKindsCard

/-- THE TIED CARD OF 'usherlaw08.WordsLists'. -/
def wordsListsCard : Claim7 := { stood := { row := wordsListsRow, standIns := [], harness := (true, "043dfb765f5d8c3e8005692a4d1883a36580cffbbba943ff99881a364d754fe9"), looks := false }, kinds := [], alts := [], laidByText := true, laidKinds := [.data, .data, .data, .data, .pinned], laidTests := true, laidLooks := .later }
def WordsListsCardSaid : Prop := Claim7.holds Tryd.pinned (.plain (OpenSpec.ofChange wordsListsSpec)) wordsListsCard

/-- THE TIED CARD OF 'usherlaw08.WordsNumbers'. -/
def wordsNumbersCard : Claim7 := { stood := { row := wordsNumbersRow, standIns := [], harness := (true, "043dfb765f5d8c3e8005692a4d1883a36580cffbbba943ff99881a364d754fe9"), looks := false }, kinds := [], alts := [], laidByText := true, laidKinds := [.data, .data, .data, .data, .pinned], laidTests := true, laidLooks := .later }
def WordsNumbersCardSaid : Prop := Claim7.holds Tryd.pinned (.plain (OpenSpec.ofChange wordsNumbersSpec)) wordsNumbersCard

/-- THE TIED CARD OF 'usherlaw08.WordsDigits'. -/
def wordsDigitsCard : Claim7 := { stood := { row := wordsDigitsRow, standIns := [], harness := (true, "043dfb765f5d8c3e8005692a4d1883a36580cffbbba943ff99881a364d754fe9"), looks := false }, kinds := [], alts := [], laidByText := true, laidKinds := [.data, .data, .data, .data, .pinned], laidTests := true, laidLooks := .later }
def WordsDigitsCardSaid : Prop := Claim7.holds Tryd.pinned (.plain (OpenSpec.ofChange wordsDigitsSpec)) wordsDigitsCard

/-- THE SECOND FORM's CARD OF 'usherlaw08.WordsCuts'. -/
def wordsCutsUptoCard : Claim7 := { stood := { row := wordsCutsUptoRow, standIns := [], harness := (true, "043dfb765f5d8c3e8005692a4d1883a36580cffbbba943ff99881a364d754fe9"), looks := false }, kinds := [], alts := [], laidByText := true, laidKinds := [.data, .data, .data, .data, .pinned], laidTests := true, laidLooks := .later }
def WordsCutsUptoCardSaid : Prop := Claim7.holds Tryd.pinned (.plain (OpenSpec.upto wordsCutsSpec)) wordsCutsUptoCard

/-- THE SECOND FORM's CARD OF 'usherlaw08.WordsBack'. -/
def wordsBackUptoCard : Claim7 := { stood := { row := wordsBackUptoRow, standIns := [], harness := (true, "043dfb765f5d8c3e8005692a4d1883a36580cffbbba943ff99881a364d754fe9"), looks := false }, kinds := [], alts := [], laidByText := true, laidKinds := [.data, .data, .data, .data, .pinned], laidTests := true, laidLooks := .later }
def WordsBackUptoCardSaid : Prop := Claim7.holds Tryd.pinned (.plain (OpenSpec.upto wordsBackSpec)) wordsBackUptoCard

/-- THE SECOND FORM's CARD OF 'usherlaw08.WordsNames'. -/
def wordsNamesUptoCard : Claim7 := { stood := { row := wordsNamesUptoRow, standIns := [], harness := (true, "043dfb765f5d8c3e8005692a4d1883a36580cffbbba943ff99881a364d754fe9"), looks := false }, kinds := [], alts := [], laidByText := true, laidKinds := [.data, .data, .data, .data, .pinned], laidTests := true, laidLooks := .later }
def WordsNamesUptoCardSaid : Prop := Claim7.holds Tryd.pinned (.plain (OpenSpec.upto wordsNamesSpec)) wordsNamesUptoCard

/-- THE SECOND FORM's CARD OF 'usherlaw08.WordsCompare'. -/
def wordsCompareUptoCard : Claim7 := { stood := { row := wordsCompareUptoRow, standIns := [], harness := (true, "043dfb765f5d8c3e8005692a4d1883a36580cffbbba943ff99881a364d754fe9"), looks := false }, kinds := [], alts := [], laidByText := true, laidKinds := [.data, .data, .data, .data, .pinned], laidTests := true, laidLooks := .later }
def WordsCompareUptoCardSaid : Prop := Claim7.holds Tryd.pinned (.plain (OpenSpec.upto wordsCompareSpec)) wordsCompareUptoCard

/-- THE SECOND FORM's CARD OF 'usherlaw08.WordsKinds'. -/
def wordsKindsUptoCard : Claim7 := { stood := { row := wordsKindsUptoRow, standIns := [], harness := (true, "043dfb765f5d8c3e8005692a4d1883a36580cffbbba943ff99881a364d754fe9"), looks := false }, kinds := [], alts := [], laidByText := true, laidKinds := [.data, .data, .data, .data, .pinned], laidTests := true, laidLooks := .later }
def WordsKindsUptoCardSaid : Prop := Claim7.holds Tryd.pinned (.plain (OpenSpec.upto wordsKindsSpec)) wordsKindsUptoCard

/-- THE SECOND FORM's CARD OF 'usherlaw08.WordsLists'. -/
def wordsListsUptoCard : Claim7 := { stood := { row := wordsListsUptoRow, standIns := [], harness := (true, "043dfb765f5d8c3e8005692a4d1883a36580cffbbba943ff99881a364d754fe9"), looks := false }, kinds := [], alts := [], laidByText := true, laidKinds := [.data, .data, .data, .data, .pinned], laidTests := true, laidLooks := .later }
def WordsListsUptoCardSaid : Prop := Claim7.holds Tryd.pinned (.plain (OpenSpec.upto wordsListsSpec)) wordsListsUptoCard

/-- THE SECOND FORM's CARD OF 'usherlaw08.WordsNumbers'. -/
def wordsNumbersUptoCard : Claim7 := { stood := { row := wordsNumbersUptoRow, standIns := [], harness := (true, "043dfb765f5d8c3e8005692a4d1883a36580cffbbba943ff99881a364d754fe9"), looks := false }, kinds := [], alts := [], laidByText := true, laidKinds := [.data, .data, .data, .data, .pinned], laidTests := true, laidLooks := .later }
def WordsNumbersUptoCardSaid : Prop := Claim7.holds Tryd.pinned (.plain (OpenSpec.upto wordsNumbersSpec)) wordsNumbersUptoCard

/-- THE SECOND FORM's CARD OF 'usherlaw08.WordsDigits'. -/
def wordsDigitsUptoCard : Claim7 := { stood := { row := wordsDigitsUptoRow, standIns := [], harness := (true, "043dfb765f5d8c3e8005692a4d1883a36580cffbbba943ff99881a364d754fe9"), looks := false }, kinds := [], alts := [], laidByText := true, laidKinds := [.data, .data, .data, .data, .pinned], laidTests := true, laidLooks := .later }
def WordsDigitsUptoCardSaid : Prop := Claim7.holds Tryd.pinned (.plain (OpenSpec.upto wordsDigitsSpec)) wordsDigitsUptoCard
end Rows
end Go.Proofs.YtialapjchamkfaaDoor
