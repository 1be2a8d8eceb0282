/-
  NARROWER THAN 'FOR EVERY INPUT', by the rows' own cells (each row's printed sentence says how): MatchRights: laid · MatchSplits: laid · MatchNarrows: laid · MatchTexts: laid · MatchBack: laid.
  DERIVED. THE GIVEN ROWS OF THIS SEAT. 5 by the template 'for every input the law returns true; each argument reads behind the call as it read before'; 0 by the template 'total and deterministic' (their statements: YtmfbidhnafpkdaaDoorTotals.lean).
  GIVEN WITH THE SEED: the statements are not yours to turn. If you find one false, say at which input.
  Laid BY PROGRAM, IN A SANDBOX (cutbox-rows.mjs): the forced cells as the released guide's own fill.sh prints them over the translation 7df5faa768dd07ab… (all of the seat's roots in one cut). By AI agents, Wed Nov 11 2026. No macro, syntax, notation, axiom, sorry.
-/
import Derived.Test.YtmfbidhnafpkdaaDoorChecked
import GoSem.Claim
import GoSem.ClaimJoined
import GoSem.ClaimMapViews
import Derived.JoinedTies
import Derived.KernelRfl
namespace Go.Proofs.YtmfbidhnafpkdaaDoor
/- THE CELL 'sum', in the pinned program and in every row, IS THE sha256 OF THE DUMP (.gsa) THAT YtmfbidhnafpkdaaDoorProg.lean LOADS. Nothing in Lean hashes anything: it is a label: what it is worth is what the hold of that sum in a sandbox is worth. -/
noncomputable def Tryd.pinned : Pinned := { name := "ytmfbidhnafpkdaadoor", sum := "7df5faa768dd07ab62c0667616dccc556b58d4e956ff9c087224642478e113f2", checked := Tryd.checked }
namespace Rows
def none {H : Type} : Left H := { results := [], args := [] }

/- WHAT THE LISTED PACKAGE-LEVEL VARIABLES READ AS WHEN THE CALL BEGINS. Each datum BY PROGRAM (the guide's laid-datum.mjs) off the statement by which the dump's own 'gosem.cut.vars' lays the variable. In a bare row this is a premise. The card (YtmfbidhnafpkdaaDoorCards.lean) ties it to the program's text. -/
def laid_slackwater_match_signs {H : Type} : DataW H := .agg [.lit (.string []), .lit (.string [61]), .lit (.string [33, 61]), .lit (.string [94, 61]), .lit (.string [42, 61])]

/-- 'slackwaterlaw06.MatchRights': WHATEVER THE INPUT: true; the input reads as it did. -/
def matchRightsSpec : ChangeSpec := { name := "matchRights", fn := fun _ => fun
  | [d1, d2] => { results := [.lit (.bool true)], args := [d1, d2] }
  | _ => none }
def matchRightsRow : OpenClaim := { program := "ytmfbidhnafpkdaadoor", sum := "7df5faa768dd07ab62c0667616dccc556b58d4e956ff9c087224642478e113f2", func := "slackwater/slackwaterlaw06.MatchRights", spec := "matchRights", inPlace := ["internal/abi.NoEscape", "internal/bytealg.IndexByteString", "internal/bytealg.IndexString"], named := ["slackwater/match.signs", "internal/bytealg.MaxLen"], apart := false, laid := [("slackwater/match.signs", laid_slackwater_match_signs)] }
def MatchRightsSaid : Prop := matchRightsRow.holds Tryd.pinned (OpenSpec.ofChange matchRightsSpec)

/-- ITS FALSE NEIGHBOUR: 'it returns false'. Refute it at one input. -/
def matchRightsWrong : ChangeSpec := { name := "matchRights", fn := fun _ => fun
  | [d1, d2] => { results := [.lit (.bool false)], args := [d1, d2] }
  | _ => none }
def MatchRightsWrongFalsely : Prop := matchRightsRow.holds Tryd.pinned (OpenSpec.ofChange matchRightsWrong)

/-- 'slackwaterlaw06.MatchSplits': WHATEVER THE INPUT: true; the input reads as it did. -/
def matchSplitsSpec : ChangeSpec := { name := "matchSplits", fn := fun _ => fun
  | [d1, d2, d3, d4] => { results := [.lit (.bool true)], args := [d1, d2, d3, d4] }
  | _ => none }
def matchSplitsRow : OpenClaim := { program := "ytmfbidhnafpkdaadoor", sum := "7df5faa768dd07ab62c0667616dccc556b58d4e956ff9c087224642478e113f2", func := "slackwater/slackwaterlaw06.MatchSplits", spec := "matchSplits", inPlace := ["internal/abi.NoEscape", "internal/bytealg.IndexByteString", "internal/bytealg.IndexString"], named := ["slackwater/match.signs", "internal/bytealg.MaxLen"], apart := false, laid := [("slackwater/match.signs", laid_slackwater_match_signs)] }
def MatchSplitsSaid : Prop := matchSplitsRow.holds Tryd.pinned (OpenSpec.ofChange matchSplitsSpec)

/-- ITS FALSE NEIGHBOUR: 'it returns false'. Refute it at one input. -/
def matchSplitsWrong : ChangeSpec := { name := "matchSplits", fn := fun _ => fun
  | [d1, d2, d3, d4] => { results := [.lit (.bool false)], args := [d1, d2, d3, d4] }
  | _ => none }
def MatchSplitsWrongFalsely : Prop := matchSplitsRow.holds Tryd.pinned (OpenSpec.ofChange matchSplitsWrong)

/-- 'slackwaterlaw06.MatchNarrows': WHATEVER THE INPUT: true; the input reads as it did. -/
def matchNarrowsSpec : ChangeSpec := { name := "matchNarrows", fn := fun _ => fun
  | [d1, d2, d3] => { results := [.lit (.bool true)], args := [d1, d2, d3] }
  | _ => none }
def matchNarrowsRow : OpenClaim := { program := "ytmfbidhnafpkdaadoor", sum := "7df5faa768dd07ab62c0667616dccc556b58d4e956ff9c087224642478e113f2", func := "slackwater/slackwaterlaw06.MatchNarrows", spec := "matchNarrows", inPlace := ["internal/abi.NoEscape", "internal/bytealg.IndexByteString", "internal/bytealg.IndexString"], named := ["slackwater/match.signs", "internal/bytealg.MaxLen"], apart := false, laid := [("slackwater/match.signs", laid_slackwater_match_signs)] }
def MatchNarrowsSaid : Prop := matchNarrowsRow.holds Tryd.pinned (OpenSpec.ofChange matchNarrowsSpec)

/-- ITS FALSE NEIGHBOUR: 'it returns false'. Refute it at one input. -/
def matchNarrowsWrong : ChangeSpec := { name := "matchNarrows", fn := fun _ => fun
  | [d1, d2, d3] => { results := [.lit (.bool false)], args := [d1, d2, d3] }
  | _ => none }
def MatchNarrowsWrongFalsely : Prop := matchNarrowsRow.holds Tryd.pinned (OpenSpec.ofChange matchNarrowsWrong)

/-- 'slackwaterlaw06.MatchTexts': WHATEVER THE INPUT: true; the input reads as it did. -/
def matchTextsSpec : ChangeSpec := { name := "matchTexts", fn := fun _ => fun
  | [d1, d2] => { results := [.lit (.bool true)], args := [d1, d2] }
  | _ => none }
def matchTextsRow : OpenClaim := { program := "ytmfbidhnafpkdaadoor", sum := "7df5faa768dd07ab62c0667616dccc556b58d4e956ff9c087224642478e113f2", func := "slackwater/slackwaterlaw06.MatchTexts", spec := "matchTexts", inPlace := ["internal/abi.NoEscape", "internal/bytealg.IndexByteString", "internal/bytealg.IndexString"], named := ["slackwater/match.signs", "internal/bytealg.MaxLen"], apart := false, laid := [("slackwater/match.signs", laid_slackwater_match_signs)] }
def MatchTextsSaid : Prop := matchTextsRow.holds Tryd.pinned (OpenSpec.ofChange matchTextsSpec)

/-- ITS FALSE NEIGHBOUR: 'it returns false'. Refute it at one input. -/
def matchTextsWrong : ChangeSpec := { name := "matchTexts", fn := fun _ => fun
  | [d1, d2] => { results := [.lit (.bool false)], args := [d1, d2] }
  | _ => none }
def MatchTextsWrongFalsely : Prop := matchTextsRow.holds Tryd.pinned (OpenSpec.ofChange matchTextsWrong)

/-- 'slackwaterlaw06.MatchBack': WHATEVER THE INPUT: true; the input reads as it did. -/
def matchBackSpec : ChangeSpec := { name := "matchBack", fn := fun _ => fun
  | [d1, d2] => { results := [.lit (.bool true)], args := [d1, d2] }
  | _ => none }
def matchBackRow : OpenClaim := { program := "ytmfbidhnafpkdaadoor", sum := "7df5faa768dd07ab62c0667616dccc556b58d4e956ff9c087224642478e113f2", func := "slackwater/slackwaterlaw06.MatchBack", spec := "matchBack", inPlace := ["internal/abi.NoEscape", "internal/bytealg.IndexByteString", "internal/bytealg.IndexString"], named := ["slackwater/match.signs", "internal/bytealg.MaxLen"], apart := false, laid := [("slackwater/match.signs", laid_slackwater_match_signs)] }
def MatchBackSaid : Prop := matchBackRow.holds Tryd.pinned (OpenSpec.ofChange matchBackSpec)

/-- ITS FALSE NEIGHBOUR: 'it returns false'. Refute it at one input. -/
def matchBackWrong : ChangeSpec := { name := "matchBack", fn := fun _ => fun
  | [d1, d2] => { results := [.lit (.bool false)], args := [d1, d2] }
  | _ => none }
def MatchBackWrongFalsely : Prop := matchBackRow.holds Tryd.pinned (OpenSpec.ofChange matchBackWrong)

/- THE SECOND FORM. 'bulk': how many values and letters a reading holds, each counted each time it is reached (what is shared counts as often as it is met; a slice's spare places count too). A statement '..UptoSaid' is the law's where the arguments, and the package variables that the reading takes, are together of bulk at most 1048576: NARROWER than '..Said'. Prove '..Said' where nothing that the law and all that it calls make is longer than what came in: it says more and counts as full. Else prove '..UptoSaid'. A law counts once. -/
mutual
def uptoBulk {H : Type} : DataW H → Nat
  | .lit (.string bytes) => bytes.length + 1
  | .lit _ => 1
  | .nil => 1
  | .ptr d => uptoBulk d + 1
  | .slice elems spare => uptoBulkAll elems + uptoBulkAll spare + 1
  | .agg parts => uptoBulkAll parts + 1
  | .iface _ d => uptoBulk d + 1
  | .map entries => uptoBulkEntries entries + 1
  | .held _ => 1
def uptoBulkAll {H : Type} : List (DataW H) → Nat
  | [] => 0
  | d :: r => uptoBulk d + uptoBulkAll r
def uptoBulkEntries {H : Type} : List (Lit × DataW H) → Nat
  | [] => 0
  | x :: r => uptoBulkEntry x + uptoBulkEntries r
def uptoBulkEntry {H : Type} : Lit × DataW H → Nat
  | (.string bytes, d) => bytes.length + uptoBulk d + 1
  | (_, d) => uptoBulk d + 1
 end
def uptoSmall : (H : Type) → List (DataW H) → Bool := fun _ ds => decide (uptoBulkAll ds ≤ 1048576)
def OpenSpec.upto (s : _root_.Go.ChangeSpec) : _root_.Go.OpenSpec := { _root_.Go.OpenSpec.ofChange s with cond := some uptoSmall }

/-- 'slackwaterlaw06.MatchRights', WHERE WHAT IT READS IS OF BULK AT MOST 1048576: true; the input reads as it did. -/
def matchRightsUptoRow : OpenClaim := { program := "ytmfbidhnafpkdaadoor", sum := "7df5faa768dd07ab62c0667616dccc556b58d4e956ff9c087224642478e113f2", func := "slackwater/slackwaterlaw06.MatchRights", spec := "matchRights", inPlace := ["internal/abi.NoEscape", "internal/bytealg.IndexByteString", "internal/bytealg.IndexString"], named := ["slackwater/match.signs", "internal/bytealg.MaxLen"], apart := false, laid := [("slackwater/match.signs", laid_slackwater_match_signs)], narrowed := true }
def MatchRightsUptoSaid : Prop := matchRightsUptoRow.holds Tryd.pinned (OpenSpec.upto matchRightsSpec)

/-- 'slackwaterlaw06.MatchSplits', WHERE WHAT IT READS IS OF BULK AT MOST 1048576: true; the input reads as it did. -/
def matchSplitsUptoRow : OpenClaim := { program := "ytmfbidhnafpkdaadoor", sum := "7df5faa768dd07ab62c0667616dccc556b58d4e956ff9c087224642478e113f2", func := "slackwater/slackwaterlaw06.MatchSplits", spec := "matchSplits", inPlace := ["internal/abi.NoEscape", "internal/bytealg.IndexByteString", "internal/bytealg.IndexString"], named := ["slackwater/match.signs", "internal/bytealg.MaxLen"], apart := false, laid := [("slackwater/match.signs", laid_slackwater_match_signs)], narrowed := true }
def MatchSplitsUptoSaid : Prop := matchSplitsUptoRow.holds Tryd.pinned (OpenSpec.upto matchSplitsSpec)

/-- 'slackwaterlaw06.MatchNarrows', WHERE WHAT IT READS IS OF BULK AT MOST 1048576: true; the input reads as it did. -/
def matchNarrowsUptoRow : OpenClaim := { program := "ytmfbidhnafpkdaadoor", sum := "7df5faa768dd07ab62c0667616dccc556b58d4e956ff9c087224642478e113f2", func := "slackwater/slackwaterlaw06.MatchNarrows", spec := "matchNarrows", inPlace := ["internal/abi.NoEscape", "internal/bytealg.IndexByteString", "internal/bytealg.IndexString"], named := ["slackwater/match.signs", "internal/bytealg.MaxLen"], apart := false, laid := [("slackwater/match.signs", laid_slackwater_match_signs)], narrowed := true }
def MatchNarrowsUptoSaid : Prop := matchNarrowsUptoRow.holds Tryd.pinned (OpenSpec.upto matchNarrowsSpec)

/-- 'slackwaterlaw06.MatchTexts', WHERE WHAT IT READS IS OF BULK AT MOST 1048576: true; the input reads as it did. -/
def matchTextsUptoRow : OpenClaim := { program := "ytmfbidhnafpkdaadoor", sum := "7df5faa768dd07ab62c0667616dccc556b58d4e956ff9c087224642478e113f2", func := "slackwater/slackwaterlaw06.MatchTexts", spec := "matchTexts", inPlace := ["internal/abi.NoEscape", "internal/bytealg.IndexByteString", "internal/bytealg.IndexString"], named := ["slackwater/match.signs", "internal/bytealg.MaxLen"], apart := false, laid := [("slackwater/match.signs", laid_slackwater_match_signs)], narrowed := true }
def MatchTextsUptoSaid : Prop := matchTextsUptoRow.holds Tryd.pinned (OpenSpec.upto matchTextsSpec)

/-- 'slackwaterlaw06.MatchBack', WHERE WHAT IT READS IS OF BULK AT MOST 1048576: true; the input reads as it did. -/
def matchBackUptoRow : OpenClaim := { program := "ytmfbidhnafpkdaadoor", sum := "7df5faa768dd07ab62c0667616dccc556b58d4e956ff9c087224642478e113f2", func := "slackwater/slackwaterlaw06.MatchBack", spec := "matchBack", inPlace := ["internal/abi.NoEscape", "internal/bytealg.IndexByteString", "internal/bytealg.IndexString"], named := ["slackwater/match.signs", "internal/bytealg.MaxLen"], apart := false, laid := [("slackwater/match.signs", laid_slackwater_match_signs)], narrowed := true }
def MatchBackUptoSaid : Prop := matchBackUptoRow.holds Tryd.pinned (OpenSpec.upto matchBackSpec)

end Rows
end Go.Proofs.YtmfbidhnafpkdaaDoor
