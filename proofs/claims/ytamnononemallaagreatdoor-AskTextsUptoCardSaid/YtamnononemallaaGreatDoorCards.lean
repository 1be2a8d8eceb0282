/-
  DERIVED. GIVEN WITH THE SEED: THE CARDS: each row of YtamnononemallaaGreatDoorRows.lean that lists a variable, with what it lists TIED to the program's text (the seventh form; the later family's looks); each row that meets fmt, with fmt's text TOLD by the authors' own Lean function (tested against real Go, not proved from fmt's source: count such statements apart). THE CARD IS WHAT COUNTS. Prove the row's statement (the work); the ties are given (YtamnononemallaaGreatDoorTie.lean); close each card by the builder's one call (the guide's Derived/Test/ToyasCard.lean, 'card_holds'). Laid BY PROGRAM, IN A SANDBOX (cutbox-door.mjs). By AI agents, Wed Nov 11 2026. No macro, syntax, notation, axiom, sorry.
-/
import Derived.Test.YtamnononemallaaGreatDoorRows
import GoSem.ClaimSeven
namespace Go.Proofs.YtamnononemallaaGreatDoor
namespace Rows

/-- THE TIED CARD OF 'slackwaterlaw13.AskTexts'. -/
def askTextsCard : Claim7 := { stood := { row := askTextsRow, standIns := [], harness := (true, "28b4281458c5c3c05db61d791b4b99bad72ed9ee37dd09e1530e8a3c9532f414"), looks := true }, kinds := [], alts := [], laidByText := true, laidKinds := [.data, .data, .data, .data, .sentinel, .sentinel, .data, .widerDeep, .pinned], laidTests := true, laidLooks := .later }
def AskTextsCardSaid : Prop := Claim7.holds Tryz.pinned (.plain (OpenSpec.ofChange askTextsSpec)) askTextsCard

/-- THE TIED CARD OF 'slackwaterlaw13.AskRuns'. -/
def askRunsCard : Claim7 := { stood := { row := askRunsRow, standIns := [], harness := (true, "28b4281458c5c3c05db61d791b4b99bad72ed9ee37dd09e1530e8a3c9532f414"), looks := true }, kinds := [], alts := [], laidByText := true, laidKinds := [.data, .data, .data, .data, .sentinel, .sentinel, .data, .widerDeep, .pinned], laidTests := true, laidLooks := .later }
def AskRunsCardSaid : Prop := Claim7.holds Tryz.pinned (.plain (OpenSpec.ofChange askRunsSpec)) askRunsCard

/-- THE TIED CARD OF 'slackwaterlaw13.AskSplits'. -/
def askSplitsCard : Claim7 := { stood := { row := askSplitsRow, standIns := [], harness := (true, "28b4281458c5c3c05db61d791b4b99bad72ed9ee37dd09e1530e8a3c9532f414"), looks := true }, kinds := [], alts := [], laidByText := true, laidKinds := [.data, .data, .data, .data, .sentinel, .sentinel, .data, .widerDeep, .pinned], laidTests := true, laidLooks := .later }
def AskSplitsCardSaid : Prop := Claim7.holds Tryz.pinned (.plain (OpenSpec.ofChange askSplitsSpec)) askSplitsCard

/-- THE SECOND FORM's CARD OF 'slackwaterlaw13.AskTexts'. -/
def askTextsUptoCard : Claim7 := { stood := { row := askTextsUptoRow, standIns := [], harness := (true, "28b4281458c5c3c05db61d791b4b99bad72ed9ee37dd09e1530e8a3c9532f414"), looks := true }, kinds := [], alts := [], laidByText := true, laidKinds := [.data, .data, .data, .data, .sentinel, .sentinel, .data, .widerDeep, .pinned], laidTests := true, laidLooks := .later }
def AskTextsUptoCardSaid : Prop := Claim7.holds Tryz.pinned (.plain (OpenSpec.upto askTextsSpec)) askTextsUptoCard

/-- THE SECOND FORM's CARD OF 'slackwaterlaw13.AskRuns'. -/
def askRunsUptoCard : Claim7 := { stood := { row := askRunsUptoRow, standIns := [], harness := (true, "28b4281458c5c3c05db61d791b4b99bad72ed9ee37dd09e1530e8a3c9532f414"), looks := true }, kinds := [], alts := [], laidByText := true, laidKinds := [.data, .data, .data, .data, .sentinel, .sentinel, .data, .widerDeep, .pinned], laidTests := true, laidLooks := .later }
def AskRunsUptoCardSaid : Prop := Claim7.holds Tryz.pinned (.plain (OpenSpec.upto askRunsSpec)) askRunsUptoCard

/-- THE SECOND FORM's CARD OF 'slackwaterlaw13.AskSplits'. -/
def askSplitsUptoCard : Claim7 := { stood := { row := askSplitsUptoRow, standIns := [], harness := (true, "28b4281458c5c3c05db61d791b4b99bad72ed9ee37dd09e1530e8a3c9532f414"), looks := true }, kinds := [], alts := [], laidByText := true, laidKinds := [.data, .data, .data, .data, .sentinel, .sentinel, .data, .widerDeep, .pinned], laidTests := true, laidLooks := .later }
def AskSplitsUptoCardSaid : Prop := Claim7.holds Tryz.pinned (.plain (OpenSpec.upto askSplitsSpec)) askSplitsUptoCard
end Rows
end Go.Proofs.YtamnononemallaaGreatDoor
