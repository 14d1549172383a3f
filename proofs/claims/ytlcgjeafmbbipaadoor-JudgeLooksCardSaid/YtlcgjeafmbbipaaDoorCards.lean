/-
  DERIVED. GIVEN WITH THE SEED: THE CARDS: each row of YtlcgjeafmbbipaaDoorRows.lean that lists a variable, with what it lists TIED to the program's text (the seventh form; the later family's looks); each row that meets fmt, with fmt's text TOLD by the authors' own Lean function (tested against real Go, not proved from fmt's source: count such statements apart). THE CARD IS WHAT COUNTS. Prove the row's statement (the work); the ties are given (YtlcgjeafmbbipaaDoorTie.lean); close each card by the builder's one call (the guide's Derived/Test/ToyasCard.lean, 'card_holds'). Laid BY PROGRAM, IN A SANDBOX (cutbox-door.mjs). By AI agents, Wed Nov 11 2026. No macro, syntax, notation, axiom, sorry.
-/
import Derived.Test.YtlcgjeafmbbipaaDoorRows
import GoSem.ClaimSeven
namespace Go.Proofs.YtlcgjeafmbbipaaDoor
namespace Rows

/-- THE TIED CARD OF 'usherlaw29.JudgeLooks'. -/
def judgeLooksCard : Claim7 := { stood := { row := judgeLooksRow, standIns := [], harness := (true, "c896d72fb9f62c9e215d4ffcd4042f653a724eb9af97da2c6caf4ddf670ed5a2"), looks := false }, kinds := [], alts := [], laidByText := true, laidKinds := [.data, .data, .data, .data, .pinned], laidTests := true, laidLooks := .later }
def JudgeLooksCardSaid : Prop := Claim7.holds Tryd.pinned (.plain (OpenSpec.ofChange judgeLooksSpec)) judgeLooksCard

/-- THE TIED CARD OF 'usherlaw29.JudgeBeginning'. -/
def judgeBeginningCard : Claim7 := { stood := { row := judgeBeginningRow, standIns := [], harness := (true, "c896d72fb9f62c9e215d4ffcd4042f653a724eb9af97da2c6caf4ddf670ed5a2"), looks := false }, kinds := [], alts := [], laidByText := true, laidKinds := [.data, .data, .data, .data, .pinned], laidTests := true, laidLooks := .later }
def JudgeBeginningCardSaid : Prop := Claim7.holds Tryd.pinned (.plain (OpenSpec.ofChange judgeBeginningSpec)) judgeBeginningCard

/-- THE TIED CARD OF 'usherlaw29.JudgeTwice'. -/
def judgeTwiceCard : Claim7 := { stood := { row := judgeTwiceRow, standIns := [], harness := (true, "c896d72fb9f62c9e215d4ffcd4042f653a724eb9af97da2c6caf4ddf670ed5a2"), looks := false }, kinds := [], alts := [], laidByText := true, laidKinds := [.data, .data, .data, .data, .pinned], laidTests := true, laidLooks := .later }
def JudgeTwiceCardSaid : Prop := Claim7.holds Tryd.pinned (.plain (OpenSpec.ofChange judgeTwiceSpec)) judgeTwiceCard

/-- THE TIED CARD OF 'usherlaw29.JudgeApart'. -/
def judgeApartCard : Claim7 := { stood := { row := judgeApartRow, standIns := [], harness := (true, "c896d72fb9f62c9e215d4ffcd4042f653a724eb9af97da2c6caf4ddf670ed5a2"), looks := false }, kinds := [], alts := [], laidByText := true, laidKinds := [.data, .data, .data, .data, .pinned], laidTests := true, laidLooks := .later }
def JudgeApartCardSaid : Prop := Claim7.holds Tryd.pinned (.plain (OpenSpec.ofChange judgeApartSpec)) judgeApartCard

/-- THE TIED CARD OF 'usherlaw29.JudgeMerges'. -/
def judgeMergesCard : Claim7 := { stood := { row := judgeMergesRow, standIns := [], harness := (true, "c896d72fb9f62c9e215d4ffcd4042f653a724eb9af97da2c6caf4ddf670ed5a2"), looks := false }, kinds := [], alts := [], laidByText := true, laidKinds := [.data, .data, .data, .data, .pinned], laidTests := true, laidLooks := .later }
def JudgeMergesCardSaid : Prop := Claim7.holds Tryd.pinned (.plain (OpenSpec.ofChange judgeMergesSpec)) judgeMergesCard

/-- THE SECOND FORM's CARD OF 'usherlaw29.JudgeLooks'. -/
def judgeLooksUptoCard : Claim7 := { stood := { row := judgeLooksUptoRow, standIns := [], harness := (true, "c896d72fb9f62c9e215d4ffcd4042f653a724eb9af97da2c6caf4ddf670ed5a2"), looks := false }, kinds := [], alts := [], laidByText := true, laidKinds := [.data, .data, .data, .data, .pinned], laidTests := true, laidLooks := .later }
def JudgeLooksUptoCardSaid : Prop := Claim7.holds Tryd.pinned (.plain (OpenSpec.upto judgeLooksSpec)) judgeLooksUptoCard

/-- THE SECOND FORM's CARD OF 'usherlaw29.JudgeBeginning'. -/
def judgeBeginningUptoCard : Claim7 := { stood := { row := judgeBeginningUptoRow, standIns := [], harness := (true, "c896d72fb9f62c9e215d4ffcd4042f653a724eb9af97da2c6caf4ddf670ed5a2"), looks := false }, kinds := [], alts := [], laidByText := true, laidKinds := [.data, .data, .data, .data, .pinned], laidTests := true, laidLooks := .later }
def JudgeBeginningUptoCardSaid : Prop := Claim7.holds Tryd.pinned (.plain (OpenSpec.upto judgeBeginningSpec)) judgeBeginningUptoCard

/-- THE SECOND FORM's CARD OF 'usherlaw29.JudgeTwice'. -/
def judgeTwiceUptoCard : Claim7 := { stood := { row := judgeTwiceUptoRow, standIns := [], harness := (true, "c896d72fb9f62c9e215d4ffcd4042f653a724eb9af97da2c6caf4ddf670ed5a2"), looks := false }, kinds := [], alts := [], laidByText := true, laidKinds := [.data, .data, .data, .data, .pinned], laidTests := true, laidLooks := .later }
def JudgeTwiceUptoCardSaid : Prop := Claim7.holds Tryd.pinned (.plain (OpenSpec.upto judgeTwiceSpec)) judgeTwiceUptoCard

/-- THE SECOND FORM's CARD OF 'usherlaw29.JudgeApart'. -/
def judgeApartUptoCard : Claim7 := { stood := { row := judgeApartUptoRow, standIns := [], harness := (true, "c896d72fb9f62c9e215d4ffcd4042f653a724eb9af97da2c6caf4ddf670ed5a2"), looks := false }, kinds := [], alts := [], laidByText := true, laidKinds := [.data, .data, .data, .data, .pinned], laidTests := true, laidLooks := .later }
def JudgeApartUptoCardSaid : Prop := Claim7.holds Tryd.pinned (.plain (OpenSpec.upto judgeApartSpec)) judgeApartUptoCard

/-- THE SECOND FORM's CARD OF 'usherlaw29.JudgeMerges'. -/
def judgeMergesUptoCard : Claim7 := { stood := { row := judgeMergesUptoRow, standIns := [], harness := (true, "c896d72fb9f62c9e215d4ffcd4042f653a724eb9af97da2c6caf4ddf670ed5a2"), looks := false }, kinds := [], alts := [], laidByText := true, laidKinds := [.data, .data, .data, .data, .pinned], laidTests := true, laidLooks := .later }
def JudgeMergesUptoCardSaid : Prop := Claim7.holds Tryd.pinned (.plain (OpenSpec.upto judgeMergesSpec)) judgeMergesUptoCard
end Rows
end Go.Proofs.YtlcgjeafmbbipaaDoor
