/-
  DERIVED. GIVEN WITH THE SEED: THE CARDS: each row of YtmfbidhnafpkdaaDoorRows.lean that lists a variable, with what it lists TIED to the program's text (the seventh form; the later family's looks); each row that meets fmt, with fmt's text TOLD by the authors' own Lean function (tested against real Go, not proved from fmt's source: count such statements apart). THE CARD IS WHAT COUNTS. Prove the row's statement (the work); the ties are given (YtmfbidhnafpkdaaDoorTie.lean); close each card by the builder's one call (the guide's Derived/Test/ToyasCard.lean, 'card_holds'). Laid BY PROGRAM, IN A SANDBOX (cutbox-door.mjs). By AI agents, Wed Nov 11 2026. No macro, syntax, notation, axiom, sorry.
-/
import Derived.Test.YtmfbidhnafpkdaaDoorRows
import GoSem.ClaimSeven
namespace Go.Proofs.YtmfbidhnafpkdaaDoor
namespace Rows

/-- THE TIED CARD OF 'slackwaterlaw06.MatchRights'. -/
def matchRightsCard : Claim7 := { stood := { row := matchRightsRow, standIns := [], harness := (true, "b83083c463674cc7daa74426b8b457ed106b50442aee4f71cf3450df45943d5f"), looks := false }, kinds := [], alts := [], laidByText := true, laidKinds := [.data], laidTests := true, laidLooks := .later }
def MatchRightsCardSaid : Prop := Claim7.holds Tryd.pinned (.plain (OpenSpec.ofChange matchRightsSpec)) matchRightsCard

/-- THE TIED CARD OF 'slackwaterlaw06.MatchSplits'. -/
def matchSplitsCard : Claim7 := { stood := { row := matchSplitsRow, standIns := [], harness := (true, "b83083c463674cc7daa74426b8b457ed106b50442aee4f71cf3450df45943d5f"), looks := false }, kinds := [], alts := [], laidByText := true, laidKinds := [.data], laidTests := true, laidLooks := .later }
def MatchSplitsCardSaid : Prop := Claim7.holds Tryd.pinned (.plain (OpenSpec.ofChange matchSplitsSpec)) matchSplitsCard

/-- THE TIED CARD OF 'slackwaterlaw06.MatchNarrows'. -/
def matchNarrowsCard : Claim7 := { stood := { row := matchNarrowsRow, standIns := [], harness := (true, "b83083c463674cc7daa74426b8b457ed106b50442aee4f71cf3450df45943d5f"), looks := false }, kinds := [], alts := [], laidByText := true, laidKinds := [.data], laidTests := true, laidLooks := .later }
def MatchNarrowsCardSaid : Prop := Claim7.holds Tryd.pinned (.plain (OpenSpec.ofChange matchNarrowsSpec)) matchNarrowsCard

/-- THE TIED CARD OF 'slackwaterlaw06.MatchTexts'. -/
def matchTextsCard : Claim7 := { stood := { row := matchTextsRow, standIns := [], harness := (true, "b83083c463674cc7daa74426b8b457ed106b50442aee4f71cf3450df45943d5f"), looks := false }, kinds := [], alts := [], laidByText := true, laidKinds := [.data], laidTests := true, laidLooks := .later }
def MatchTextsCardSaid : Prop := Claim7.holds Tryd.pinned (.plain (OpenSpec.ofChange matchTextsSpec)) matchTextsCard

/-- THE TIED CARD OF 'slackwaterlaw06.MatchBack'. -/
def matchBackCard : Claim7 := { stood := { row := matchBackRow, standIns := [], harness := (true, "b83083c463674cc7daa74426b8b457ed106b50442aee4f71cf3450df45943d5f"), looks := false }, kinds := [], alts := [], laidByText := true, laidKinds := [.data], laidTests := true, laidLooks := .later }
def MatchBackCardSaid : Prop := Claim7.holds Tryd.pinned (.plain (OpenSpec.ofChange matchBackSpec)) matchBackCard

/-- THE SECOND FORM's CARD OF 'slackwaterlaw06.MatchRights'. -/
def matchRightsUptoCard : Claim7 := { stood := { row := matchRightsUptoRow, standIns := [], harness := (true, "b83083c463674cc7daa74426b8b457ed106b50442aee4f71cf3450df45943d5f"), looks := false }, kinds := [], alts := [], laidByText := true, laidKinds := [.data], laidTests := true, laidLooks := .later }
def MatchRightsUptoCardSaid : Prop := Claim7.holds Tryd.pinned (.plain (OpenSpec.upto matchRightsSpec)) matchRightsUptoCard

/-- THE SECOND FORM's CARD OF 'slackwaterlaw06.MatchSplits'. -/
def matchSplitsUptoCard : Claim7 := { stood := { row := matchSplitsUptoRow, standIns := [], harness := (true, "b83083c463674cc7daa74426b8b457ed106b50442aee4f71cf3450df45943d5f"), looks := false }, kinds := [], alts := [], laidByText := true, laidKinds := [.data], laidTests := true, laidLooks := .later }
def MatchSplitsUptoCardSaid : Prop := Claim7.holds Tryd.pinned (.plain (OpenSpec.upto matchSplitsSpec)) matchSplitsUptoCard

/-- THE SECOND FORM's CARD OF 'slackwaterlaw06.MatchNarrows'. -/
def matchNarrowsUptoCard : Claim7 := { stood := { row := matchNarrowsUptoRow, standIns := [], harness := (true, "b83083c463674cc7daa74426b8b457ed106b50442aee4f71cf3450df45943d5f"), looks := false }, kinds := [], alts := [], laidByText := true, laidKinds := [.data], laidTests := true, laidLooks := .later }
def MatchNarrowsUptoCardSaid : Prop := Claim7.holds Tryd.pinned (.plain (OpenSpec.upto matchNarrowsSpec)) matchNarrowsUptoCard

/-- THE SECOND FORM's CARD OF 'slackwaterlaw06.MatchTexts'. -/
def matchTextsUptoCard : Claim7 := { stood := { row := matchTextsUptoRow, standIns := [], harness := (true, "b83083c463674cc7daa74426b8b457ed106b50442aee4f71cf3450df45943d5f"), looks := false }, kinds := [], alts := [], laidByText := true, laidKinds := [.data], laidTests := true, laidLooks := .later }
def MatchTextsUptoCardSaid : Prop := Claim7.holds Tryd.pinned (.plain (OpenSpec.upto matchTextsSpec)) matchTextsUptoCard

/-- THE SECOND FORM's CARD OF 'slackwaterlaw06.MatchBack'. -/
def matchBackUptoCard : Claim7 := { stood := { row := matchBackUptoRow, standIns := [], harness := (true, "b83083c463674cc7daa74426b8b457ed106b50442aee4f71cf3450df45943d5f"), looks := false }, kinds := [], alts := [], laidByText := true, laidKinds := [.data], laidTests := true, laidLooks := .later }
def MatchBackUptoCardSaid : Prop := Claim7.holds Tryd.pinned (.plain (OpenSpec.upto matchBackSpec)) matchBackUptoCard
end Rows
end Go.Proofs.YtmfbidhnafpkdaaDoor
