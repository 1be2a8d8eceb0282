/-
  No cell of these rows narrows 'for every input' (looked for: loops, veiled, ifaces, maps, wideKeys, modest, calm, conditions, laid).
  DERIVED. THE GIVEN ROWS OF THIS SEAT. 4 by the template 'for every input the law returns true; each argument reads behind the call as it read before'; 0 by the template 'total and deterministic' (their statements: YtfcpohhfpdhhiaaTotals.lean).
  GIVEN WITH THE SEED: the statements are not yours to turn. If you find one false, say at which input.
  Laid BY PROGRAM, IN A SANDBOX (cutbox-rows.mjs): the forced cells as the released guide's own fill.sh prints them over the translation 88b8c853990f1113… (all of the seat's roots in one cut). By AI agents, Wed Nov 11 2026. No macro, syntax, notation, axiom, sorry.
-/
import Derived.Test.YtfcpohhfpdhhiaaChecked
import GoSem.Claim
import GoSem.ClaimJoined
import GoSem.ClaimMapViews
import Derived.JoinedTies
import Derived.KernelRfl
namespace Go.Proofs.Ytfcpohhfpdhhiaa
/- THE CELL 'sum', in the pinned program and in every row, IS THE sha256 OF THE DUMP (.gsa) THAT YtfcpohhfpdhhiaaProg.lean LOADS. Nothing in Lean hashes anything: it is a label: what it is worth is what the hold of that sum in a sandbox is worth. -/
noncomputable def Try.pinned : Pinned := { name := "ytfcpohhfpdhhiaa", sum := "88b8c853990f1113f98c6b51ff5e75dadfbc4cfcc5a1f99231ce482460ea495f", checked := Try.checked }
namespace Rows
def none {H : Type} : Left H := { results := [], args := [] }

/-- 'slackwaterlaw02.ClockRises': WHATEVER THE INPUT: true; the input reads as it did. -/
def clockRisesSpec : ChangeSpec := { name := "clockRises", fn := fun _ => fun
  | [d1, d2, d3, d4] => { results := [.lit (.bool true)], args := [d1, d2, d3, d4] }
  | _ => none }
def clockRisesRow : OpenClaim := { program := "ytfcpohhfpdhhiaa", sum := "88b8c853990f1113f98c6b51ff5e75dadfbc4cfcc5a1f99231ce482460ea495f", func := "slackwater/slackwaterlaw02.ClockRises", spec := "clockRises", apart := false }
def ClockRisesSaid : Prop := clockRisesRow.holds Try.pinned (OpenSpec.ofChange clockRisesSpec)

/-- ITS FALSE NEIGHBOUR: 'it returns false'. Refute it at one input. -/
def clockRisesWrong : ChangeSpec := { name := "clockRises", fn := fun _ => fun
  | [d1, d2, d3, d4] => { results := [.lit (.bool false)], args := [d1, d2, d3, d4] }
  | _ => none }
def ClockRisesWrongFalsely : Prop := clockRisesRow.holds Try.pinned (OpenSpec.ofChange clockRisesWrong)

/-- 'slackwaterlaw02.ClockRestarts': WHATEVER THE INPUT: true; the input reads as it did. -/
def clockRestartsSpec : ChangeSpec := { name := "clockRestarts", fn := fun _ => fun
  | [d1, d2, d3, d4, d5] => { results := [.lit (.bool true)], args := [d1, d2, d3, d4, d5] }
  | _ => none }
def clockRestartsRow : OpenClaim := { program := "ytfcpohhfpdhhiaa", sum := "88b8c853990f1113f98c6b51ff5e75dadfbc4cfcc5a1f99231ce482460ea495f", func := "slackwater/slackwaterlaw02.ClockRestarts", spec := "clockRestarts", unfollowed := true, recurses := true, apart := false }
def ClockRestartsSaid : Prop := clockRestartsRow.holds Try.pinned (OpenSpec.ofChange clockRestartsSpec)

/-- ITS FALSE NEIGHBOUR: 'it returns false'. Refute it at one input. -/
def clockRestartsWrong : ChangeSpec := { name := "clockRestarts", fn := fun _ => fun
  | [d1, d2, d3, d4, d5] => { results := [.lit (.bool false)], args := [d1, d2, d3, d4, d5] }
  | _ => none }
def ClockRestartsWrongFalsely : Prop := clockRestartsRow.holds Try.pinned (OpenSpec.ofChange clockRestartsWrong)

/-- 'slackwaterlaw02.ClockPlays': WHATEVER THE INPUT: true; the input reads as it did. -/
def clockPlaysSpec : ChangeSpec := { name := "clockPlays", fn := fun _ => fun
  | [d1, d2, d3, d4] => { results := [.lit (.bool true)], args := [d1, d2, d3, d4] }
  | _ => none }
def clockPlaysRow : OpenClaim := { program := "ytfcpohhfpdhhiaa", sum := "88b8c853990f1113f98c6b51ff5e75dadfbc4cfcc5a1f99231ce482460ea495f", func := "slackwater/slackwaterlaw02.ClockPlays", spec := "clockPlays", apart := false }
def ClockPlaysSaid : Prop := clockPlaysRow.holds Try.pinned (OpenSpec.ofChange clockPlaysSpec)

/-- ITS FALSE NEIGHBOUR: 'it returns false'. Refute it at one input. -/
def clockPlaysWrong : ChangeSpec := { name := "clockPlays", fn := fun _ => fun
  | [d1, d2, d3, d4] => { results := [.lit (.bool false)], args := [d1, d2, d3, d4] }
  | _ => none }
def ClockPlaysWrongFalsely : Prop := clockPlaysRow.holds Try.pinned (OpenSpec.ofChange clockPlaysWrong)

/-- 'slackwaterlaw02.ClockNil': WHATEVER THE INPUT: true; the input reads as it did. -/
def clockNilSpec : ChangeSpec := { name := "clockNil", fn := fun _ => fun
  | [d1, d2] => { results := [.lit (.bool true)], args := [d1, d2] }
  | _ => none }
def clockNilRow : OpenClaim := { program := "ytfcpohhfpdhhiaa", sum := "88b8c853990f1113f98c6b51ff5e75dadfbc4cfcc5a1f99231ce482460ea495f", func := "slackwater/slackwaterlaw02.ClockNil", spec := "clockNil", apart := false }
def ClockNilSaid : Prop := clockNilRow.holds Try.pinned (OpenSpec.ofChange clockNilSpec)

/-- ITS FALSE NEIGHBOUR: 'it returns false'. Refute it at one input. -/
def clockNilWrong : ChangeSpec := { name := "clockNil", fn := fun _ => fun
  | [d1, d2] => { results := [.lit (.bool false)], args := [d1, d2] }
  | _ => none }
def ClockNilWrongFalsely : Prop := clockNilRow.holds Try.pinned (OpenSpec.ofChange clockNilWrong)

/- THE SECOND FORM. 'bulk': how many values and letters a reading holds, each counted each time it is reached (what is shared counts as often as it is met; a slice's spare places count too). A statement '..UptoSaid' is the law's where the arguments, and the package variables that the reading takes, are together of bulk at most 1048576: NARROWER than '..Said'. Prove '..Said' where nothing that the law and all that it calls make is longer than what came in: it says more and counts as full. Else prove '..UptoSaid'. A law counts once. -/
mutual
def uptoBulk {H : Type} : DataW H → Nat
  | .lit (.string bytes) => bytes.length + 1
  | .lit _ => 1
  | .nil => 1
  | .ptr d => uptoBulk d + 1
  | .slice elems spare => uptoBulkAll elems + uptoBulkAll spare + 1
  | .agg parts => uptoBulkAll parts + 1
  | .iface _ d => uptoBulk d + 1
  | .map entries => uptoBulkEntries entries + 1
  | .held _ => 1
def uptoBulkAll {H : Type} : List (DataW H) → Nat
  | [] => 0
  | d :: r => uptoBulk d + uptoBulkAll r
def uptoBulkEntries {H : Type} : List (Lit × DataW H) → Nat
  | [] => 0
  | x :: r => uptoBulkEntry x + uptoBulkEntries r
def uptoBulkEntry {H : Type} : Lit × DataW H → Nat
  | (.string bytes, d) => bytes.length + uptoBulk d + 1
  | (_, d) => uptoBulk d + 1
 end
def uptoSmall : (H : Type) → List (DataW H) → Bool := fun _ ds => decide (uptoBulkAll ds ≤ 1048576)
def OpenSpec.upto (s : _root_.Go.ChangeSpec) : _root_.Go.OpenSpec := { _root_.Go.OpenSpec.ofChange s with cond := some uptoSmall }

/-- 'slackwaterlaw02.ClockRises', WHERE WHAT IT READS IS OF BULK AT MOST 1048576: true; the input reads as it did. -/
def clockRisesUptoRow : OpenClaim := { program := "ytfcpohhfpdhhiaa", sum := "88b8c853990f1113f98c6b51ff5e75dadfbc4cfcc5a1f99231ce482460ea495f", func := "slackwater/slackwaterlaw02.ClockRises", spec := "clockRises", apart := false, narrowed := true }
def ClockRisesUptoSaid : Prop := clockRisesUptoRow.holds Try.pinned (OpenSpec.upto clockRisesSpec)

/-- 'slackwaterlaw02.ClockRestarts', WHERE WHAT IT READS IS OF BULK AT MOST 1048576: true; the input reads as it did. -/
def clockRestartsUptoRow : OpenClaim := { program := "ytfcpohhfpdhhiaa", sum := "88b8c853990f1113f98c6b51ff5e75dadfbc4cfcc5a1f99231ce482460ea495f", func := "slackwater/slackwaterlaw02.ClockRestarts", spec := "clockRestarts", unfollowed := true, recurses := true, apart := false, narrowed := true }
def ClockRestartsUptoSaid : Prop := clockRestartsUptoRow.holds Try.pinned (OpenSpec.upto clockRestartsSpec)

/-- 'slackwaterlaw02.ClockPlays', WHERE WHAT IT READS IS OF BULK AT MOST 1048576: true; the input reads as it did. -/
def clockPlaysUptoRow : OpenClaim := { program := "ytfcpohhfpdhhiaa", sum := "88b8c853990f1113f98c6b51ff5e75dadfbc4cfcc5a1f99231ce482460ea495f", func := "slackwater/slackwaterlaw02.ClockPlays", spec := "clockPlays", apart := false, narrowed := true }
def ClockPlaysUptoSaid : Prop := clockPlaysUptoRow.holds Try.pinned (OpenSpec.upto clockPlaysSpec)

/-- 'slackwaterlaw02.ClockNil', WHERE WHAT IT READS IS OF BULK AT MOST 1048576: true; the input reads as it did. -/
def clockNilUptoRow : OpenClaim := { program := "ytfcpohhfpdhhiaa", sum := "88b8c853990f1113f98c6b51ff5e75dadfbc4cfcc5a1f99231ce482460ea495f", func := "slackwater/slackwaterlaw02.ClockNil", spec := "clockNil", apart := false, narrowed := true }
def ClockNilUptoSaid : Prop := clockNilUptoRow.holds Try.pinned (OpenSpec.upto clockNilSpec)

end Rows
end Go.Proofs.Ytfcpohhfpdhhiaa
