/-
  No cell of these rows narrows 'for every input' (looked for: loops, veiled, ifaces, maps, wideKeys, modest, calm, conditions, laid).
  DERIVED. THE GIVEN ROWS OF THIS SEAT. 6 by the template 'for every input the law returns true; each argument reads behind the call as it read before'; 0 by the template 'total and deterministic' (their statements: YtijegnhkkgdihaaTotals.lean).
  GIVEN WITH THE SEED: the statements are not yours to turn. If you find one false, say at which input.
  Laid BY PROGRAM, IN A SANDBOX (cutbox-rows.mjs): the forced cells as the released guide's own fill.sh prints them over the translation 2b098873677f1f24… (all of the seat's roots in one cut). By AI agents, Wed Nov 11 2026. No macro, syntax, notation, axiom, sorry.
-/
import Derived.Test.YtijegnhkkgdihaaChecked
import GoSem.Claim
import GoSem.ClaimJoined
import GoSem.ClaimMapViews
import Derived.JoinedTies
import Derived.KernelRfl
namespace Go.Proofs.Ytijegnhkkgdihaa
/- THE CELL 'sum', in the pinned program and in every row, IS THE sha256 OF THE DUMP (.gsa) THAT YtijegnhkkgdihaaProg.lean LOADS. Nothing in Lean hashes anything: it is a label: what it is worth is what the hold of that sum in a sandbox is worth. -/
noncomputable def Try.pinned : Pinned := { name := "ytijegnhkkgdihaa", sum := "2b098873677f1f247f189d9939c31bbc1b8adff324915f44bf6eef44a586950e", checked := Try.checked }
namespace Rows
def none {H : Type} : Left H := { results := [], args := [] }

/-- 'slackwaterlaw12.TallyFolds': WHATEVER THE INPUT: true; the input reads as it did. -/
def tallyFoldsSpec : ChangeSpec := { name := "tallyFolds", fn := fun _ => fun
  | [d1, d2] => { results := [.lit (.bool true)], args := [d1, d2] }
  | _ => none }
def tallyFoldsRow : OpenClaim := { program := "ytijegnhkkgdihaa", sum := "2b098873677f1f247f189d9939c31bbc1b8adff324915f44bf6eef44a586950e", func := "slackwater/slackwaterlaw12.TallyFolds", spec := "tallyFolds", apart := false }
def TallyFoldsSaid : Prop := tallyFoldsRow.holds Try.pinned (OpenSpec.ofChange tallyFoldsSpec)

/-- ITS FALSE NEIGHBOUR: 'it returns false'. Refute it at one input. -/
def tallyFoldsWrong : ChangeSpec := { name := "tallyFolds", fn := fun _ => fun
  | [d1, d2] => { results := [.lit (.bool false)], args := [d1, d2] }
  | _ => none }
def TallyFoldsWrongFalsely : Prop := tallyFoldsRow.holds Try.pinned (OpenSpec.ofChange tallyFoldsWrong)

/-- 'slackwaterlaw12.TallySplits': WHATEVER THE INPUT: true; the input reads as it did. -/
def tallySplitsSpec : ChangeSpec := { name := "tallySplits", fn := fun _ => fun
  | [d1, d2] => { results := [.lit (.bool true)], args := [d1, d2] }
  | _ => none }
def tallySplitsRow : OpenClaim := { program := "ytijegnhkkgdihaa", sum := "2b098873677f1f247f189d9939c31bbc1b8adff324915f44bf6eef44a586950e", func := "slackwater/slackwaterlaw12.TallySplits", spec := "tallySplits", apart := false }
def TallySplitsSaid : Prop := tallySplitsRow.holds Try.pinned (OpenSpec.ofChange tallySplitsSpec)

/-- ITS FALSE NEIGHBOUR: 'it returns false'. Refute it at one input. -/
def tallySplitsWrong : ChangeSpec := { name := "tallySplits", fn := fun _ => fun
  | [d1, d2] => { results := [.lit (.bool false)], args := [d1, d2] }
  | _ => none }
def TallySplitsWrongFalsely : Prop := tallySplitsRow.holds Try.pinned (OpenSpec.ofChange tallySplitsWrong)

/-- 'slackwaterlaw12.TallyTurns': WHATEVER THE INPUT: true; the input reads as it did. -/
def tallyTurnsSpec : ChangeSpec := { name := "tallyTurns", fn := fun _ => fun
  | [d1, d2] => { results := [.lit (.bool true)], args := [d1, d2] }
  | _ => none }
def tallyTurnsRow : OpenClaim := { program := "ytijegnhkkgdihaa", sum := "2b098873677f1f247f189d9939c31bbc1b8adff324915f44bf6eef44a586950e", func := "slackwater/slackwaterlaw12.TallyTurns", spec := "tallyTurns", apart := false }
def TallyTurnsSaid : Prop := tallyTurnsRow.holds Try.pinned (OpenSpec.ofChange tallyTurnsSpec)

/-- ITS FALSE NEIGHBOUR: 'it returns false'. Refute it at one input. -/
def tallyTurnsWrong : ChangeSpec := { name := "tallyTurns", fn := fun _ => fun
  | [d1, d2] => { results := [.lit (.bool false)], args := [d1, d2] }
  | _ => none }
def TallyTurnsWrongFalsely : Prop := tallyTurnsRow.holds Try.pinned (OpenSpec.ofChange tallyTurnsWrong)

/-- 'slackwaterlaw12.TallyDeltas': WHATEVER THE INPUT: true; the input reads as it did. -/
def tallyDeltasSpec : ChangeSpec := { name := "tallyDeltas", fn := fun _ => fun
  | [d1, d2] => { results := [.lit (.bool true)], args := [d1, d2] }
  | _ => none }
def tallyDeltasRow : OpenClaim := { program := "ytijegnhkkgdihaa", sum := "2b098873677f1f247f189d9939c31bbc1b8adff324915f44bf6eef44a586950e", func := "slackwater/slackwaterlaw12.TallyDeltas", spec := "tallyDeltas", apart := false }
def TallyDeltasSaid : Prop := tallyDeltasRow.holds Try.pinned (OpenSpec.ofChange tallyDeltasSpec)

/-- ITS FALSE NEIGHBOUR: 'it returns false'. Refute it at one input. -/
def tallyDeltasWrong : ChangeSpec := { name := "tallyDeltas", fn := fun _ => fun
  | [d1, d2] => { results := [.lit (.bool false)], args := [d1, d2] }
  | _ => none }
def TallyDeltasWrongFalsely : Prop := tallyDeltasRow.holds Try.pinned (OpenSpec.ofChange tallyDeltasWrong)

/-- 'slackwaterlaw12.TallyWindows': WHATEVER THE INPUT: true; the input reads as it did. -/
def tallyWindowsSpec : ChangeSpec := { name := "tallyWindows", fn := fun _ => fun
  | [d1, d2, d3, d4, d5] => { results := [.lit (.bool true)], args := [d1, d2, d3, d4, d5] }
  | _ => none }
def tallyWindowsRow : OpenClaim := { program := "ytijegnhkkgdihaa", sum := "2b098873677f1f247f189d9939c31bbc1b8adff324915f44bf6eef44a586950e", func := "slackwater/slackwaterlaw12.TallyWindows", spec := "tallyWindows", apart := false }
def TallyWindowsSaid : Prop := tallyWindowsRow.holds Try.pinned (OpenSpec.ofChange tallyWindowsSpec)

/-- ITS FALSE NEIGHBOUR: 'it returns false'. Refute it at one input. -/
def tallyWindowsWrong : ChangeSpec := { name := "tallyWindows", fn := fun _ => fun
  | [d1, d2, d3, d4, d5] => { results := [.lit (.bool false)], args := [d1, d2, d3, d4, d5] }
  | _ => none }
def TallyWindowsWrongFalsely : Prop := tallyWindowsRow.holds Try.pinned (OpenSpec.ofChange tallyWindowsWrong)

/-- 'slackwaterlaw12.TallyCovers': WHATEVER THE INPUT: true; the input reads as it did. -/
def tallyCoversSpec : ChangeSpec := { name := "tallyCovers", fn := fun _ => fun
  | [d1, d2, d3, d4] => { results := [.lit (.bool true)], args := [d1, d2, d3, d4] }
  | _ => none }
def tallyCoversRow : OpenClaim := { program := "ytijegnhkkgdihaa", sum := "2b098873677f1f247f189d9939c31bbc1b8adff324915f44bf6eef44a586950e", func := "slackwater/slackwaterlaw12.TallyCovers", spec := "tallyCovers", apart := false }
def TallyCoversSaid : Prop := tallyCoversRow.holds Try.pinned (OpenSpec.ofChange tallyCoversSpec)

/-- ITS FALSE NEIGHBOUR: 'it returns false'. Refute it at one input. -/
def tallyCoversWrong : ChangeSpec := { name := "tallyCovers", fn := fun _ => fun
  | [d1, d2, d3, d4] => { results := [.lit (.bool false)], args := [d1, d2, d3, d4] }
  | _ => none }
def TallyCoversWrongFalsely : Prop := tallyCoversRow.holds Try.pinned (OpenSpec.ofChange tallyCoversWrong)

/- THE SECOND FORM. 'bulk': how many values and letters a reading holds, each counted each time it is reached (what is shared counts as often as it is met; a slice's spare places count too). A statement '..UptoSaid' is the law's where the arguments, and the package variables that the reading takes, are together of bulk at most 1048576: NARROWER than '..Said'. Prove '..Said' where nothing that the law and all that it calls make is longer than what came in: it says more and counts as full. Else prove '..UptoSaid'. A law counts once. -/
mutual
def uptoBulk {H : Type} : DataW H → Nat
  | .lit (.string bytes) => bytes.length + 1
  | .lit _ => 1
  | .nil => 1
  | .ptr d => uptoBulk d + 1
  | .slice elems spare => uptoBulkAll elems + uptoBulkAll spare + 1
  | .agg parts => uptoBulkAll parts + 1
  | .iface _ d => uptoBulk d + 1
  | .map entries => uptoBulkEntries entries + 1
  | .held _ => 1
def uptoBulkAll {H : Type} : List (DataW H) → Nat
  | [] => 0
  | d :: r => uptoBulk d + uptoBulkAll r
def uptoBulkEntries {H : Type} : List (Lit × DataW H) → Nat
  | [] => 0
  | x :: r => uptoBulkEntry x + uptoBulkEntries r
def uptoBulkEntry {H : Type} : Lit × DataW H → Nat
  | (.string bytes, d) => bytes.length + uptoBulk d + 1
  | (_, d) => uptoBulk d + 1
 end
def uptoSmall : (H : Type) → List (DataW H) → Bool := fun _ ds => decide (uptoBulkAll ds ≤ 1048576)
def OpenSpec.upto (s : _root_.Go.ChangeSpec) : _root_.Go.OpenSpec := { _root_.Go.OpenSpec.ofChange s with cond := some uptoSmall }

/-- 'slackwaterlaw12.TallyFolds', WHERE WHAT IT READS IS OF BULK AT MOST 1048576: true; the input reads as it did. -/
def tallyFoldsUptoRow : OpenClaim := { program := "ytijegnhkkgdihaa", sum := "2b098873677f1f247f189d9939c31bbc1b8adff324915f44bf6eef44a586950e", func := "slackwater/slackwaterlaw12.TallyFolds", spec := "tallyFolds", apart := false, narrowed := true }
def TallyFoldsUptoSaid : Prop := tallyFoldsUptoRow.holds Try.pinned (OpenSpec.upto tallyFoldsSpec)

/-- 'slackwaterlaw12.TallySplits', WHERE WHAT IT READS IS OF BULK AT MOST 1048576: true; the input reads as it did. -/
def tallySplitsUptoRow : OpenClaim := { program := "ytijegnhkkgdihaa", sum := "2b098873677f1f247f189d9939c31bbc1b8adff324915f44bf6eef44a586950e", func := "slackwater/slackwaterlaw12.TallySplits", spec := "tallySplits", apart := false, narrowed := true }
def TallySplitsUptoSaid : Prop := tallySplitsUptoRow.holds Try.pinned (OpenSpec.upto tallySplitsSpec)

/-- 'slackwaterlaw12.TallyTurns', WHERE WHAT IT READS IS OF BULK AT MOST 1048576: true; the input reads as it did. -/
def tallyTurnsUptoRow : OpenClaim := { program := "ytijegnhkkgdihaa", sum := "2b098873677f1f247f189d9939c31bbc1b8adff324915f44bf6eef44a586950e", func := "slackwater/slackwaterlaw12.TallyTurns", spec := "tallyTurns", apart := false, narrowed := true }
def TallyTurnsUptoSaid : Prop := tallyTurnsUptoRow.holds Try.pinned (OpenSpec.upto tallyTurnsSpec)

/-- 'slackwaterlaw12.TallyDeltas', WHERE WHAT IT READS IS OF BULK AT MOST 1048576: true; the input reads as it did. -/
def tallyDeltasUptoRow : OpenClaim := { program := "ytijegnhkkgdihaa", sum := "2b098873677f1f247f189d9939c31bbc1b8adff324915f44bf6eef44a586950e", func := "slackwater/slackwaterlaw12.TallyDeltas", spec := "tallyDeltas", apart := false, narrowed := true }
def TallyDeltasUptoSaid : Prop := tallyDeltasUptoRow.holds Try.pinned (OpenSpec.upto tallyDeltasSpec)

/-- 'slackwaterlaw12.TallyWindows', WHERE WHAT IT READS IS OF BULK AT MOST 1048576: true; the input reads as it did. -/
def tallyWindowsUptoRow : OpenClaim := { program := "ytijegnhkkgdihaa", sum := "2b098873677f1f247f189d9939c31bbc1b8adff324915f44bf6eef44a586950e", func := "slackwater/slackwaterlaw12.TallyWindows", spec := "tallyWindows", apart := false, narrowed := true }
def TallyWindowsUptoSaid : Prop := tallyWindowsUptoRow.holds Try.pinned (OpenSpec.upto tallyWindowsSpec)

/-- 'slackwaterlaw12.TallyCovers', WHERE WHAT IT READS IS OF BULK AT MOST 1048576: true; the input reads as it did. -/
def tallyCoversUptoRow : OpenClaim := { program := "ytijegnhkkgdihaa", sum := "2b098873677f1f247f189d9939c31bbc1b8adff324915f44bf6eef44a586950e", func := "slackwater/slackwaterlaw12.TallyCovers", spec := "tallyCovers", apart := false, narrowed := true }
def TallyCoversUptoSaid : Prop := tallyCoversUptoRow.holds Try.pinned (OpenSpec.upto tallyCoversSpec)

end Rows
end Go.Proofs.Ytijegnhkkgdihaa
