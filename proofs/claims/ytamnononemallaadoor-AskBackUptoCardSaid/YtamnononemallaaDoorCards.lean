/-
  DERIVED. GIVEN WITH THE SEED: THE CARDS: each row of YtamnononemallaaDoorRows.lean that lists a variable, with what it lists TIED to the program's text (the seventh form; the later family's looks); each row that meets fmt, with fmt's text TOLD by the authors' own Lean function (tested against real Go, not proved from fmt's source: count such statements apart). THE CARD IS WHAT COUNTS. Prove the row's statement (the work); the ties are given (YtamnononemallaaDoorTie.lean); close each card by the builder's one call (the guide's Derived/Test/ToyasCard.lean, 'card_holds'). Laid BY PROGRAM, IN A SANDBOX (cutbox-door.mjs). By AI agents, Wed Nov 11 2026. No macro, syntax, notation, axiom, sorry.
-/
import Derived.Test.YtamnononemallaaDoorRows
import GoSem.ClaimSeven
namespace Go.Proofs.YtamnononemallaaDoor
namespace Rows

/-- THE TIED CARD OF 'slackwaterlaw13.AskBack'. -/
def askBackCard : Claim7 := { stood := { row := askBackRow, standIns := [], harness := (true, "91a18846359da8cb11e19ac689d7772b67ec91ee081349b3e50c83bd4708954a"), looks := true }, kinds := [], alts := [], laidByText := true, laidKinds := [.data, .data, .data, .data, .sentinel, .sentinel, .data, .widerDeep, .pinned], laidTests := true, laidLooks := .later }
def AskBackCardSaid : Prop := Claim7.holds Tryd.pinned (.plain (OpenSpec.ofChange askBackSpec)) askBackCard

/-- THE SECOND FORM's CARD OF 'slackwaterlaw13.AskBack'. -/
def askBackUptoCard : Claim7 := { stood := { row := askBackUptoRow, standIns := [], harness := (true, "91a18846359da8cb11e19ac689d7772b67ec91ee081349b3e50c83bd4708954a"), looks := true }, kinds := [], alts := [], laidByText := true, laidKinds := [.data, .data, .data, .data, .sentinel, .sentinel, .data, .widerDeep, .pinned], laidTests := true, laidLooks := .later }
def AskBackUptoCardSaid : Prop := Claim7.holds Tryd.pinned (.plain (OpenSpec.upto askBackSpec)) askBackUptoCard
end Rows
end Go.Proofs.YtamnononemallaaDoor
