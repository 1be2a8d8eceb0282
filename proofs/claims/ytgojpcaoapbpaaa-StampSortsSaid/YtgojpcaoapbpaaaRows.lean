/-
  No cell of these rows narrows 'for every input' (looked for: loops, veiled, ifaces, maps, wideKeys, modest, calm, conditions, laid).
  DERIVED. THE GIVEN ROWS OF THIS SEAT. 6 by the template 'for every input the law returns true; each argument reads behind the call as it read before'; 0 by the template 'total and deterministic' (their statements: YtgojpcaoapbpaaaTotals.lean).
  GIVEN WITH THE SEED: the statements are not yours to turn. If you find one false, say at which input.
  Laid BY PROGRAM, IN A SANDBOX (cutbox-rows.mjs): the forced cells as the released guide's own fill.sh prints them over the translation 9b4a94031a44c6e2… (all of the seat's roots in one cut). By AI agents, Wed Nov 11 2026. No macro, syntax, notation, axiom, sorry.
-/
import Derived.Test.YtgojpcaoapbpaaaChecked
import GoSem.Claim
import GoSem.ClaimJoined
import GoSem.ClaimMapViews
import Derived.JoinedTies
import Derived.KernelRfl
namespace Go.Proofs.Ytgojpcaoapbpaaa
/- THE CELL 'sum', in the pinned program and in every row, IS THE sha256 OF THE DUMP (.gsa) THAT YtgojpcaoapbpaaaProg.lean LOADS. Nothing in Lean hashes anything: it is a label: what it is worth is what the hold of that sum in a sandbox is worth. -/
noncomputable def Try.pinned : Pinned := { name := "ytgojpcaoapbpaaa", sum := "9b4a94031a44c6e2704a070dc5433953664997dbfe70dd3d83eb979061ec226d", checked := Try.checked }
namespace Rows
def none {H : Type} : Left H := { results := [], args := [] }

/-- 'slackwaterlaw01.StampNexts': WHATEVER THE INPUT: true; the input reads as it did. -/
def stampNextsSpec : ChangeSpec := { name := "stampNexts", fn := fun _ => fun
  | [d] => { results := [.lit (.bool true)], args := [d] }
  | _ => none }
def stampNextsRow : OpenClaim := { program := "ytgojpcaoapbpaaa", sum := "9b4a94031a44c6e2704a070dc5433953664997dbfe70dd3d83eb979061ec226d", func := "slackwater/slackwaterlaw01.StampNexts", spec := "stampNexts", apart := false }
def StampNextsSaid : Prop := stampNextsRow.holds Try.pinned (OpenSpec.ofChange stampNextsSpec)

/-- ITS FALSE NEIGHBOUR: 'it returns false'. Refute it at one input. -/
def stampNextsWrong : ChangeSpec := { name := "stampNexts", fn := fun _ => fun
  | [d] => { results := [.lit (.bool false)], args := [d] }
  | _ => none }
def StampNextsWrongFalsely : Prop := stampNextsRow.holds Try.pinned (OpenSpec.ofChange stampNextsWrong)

/-- 'slackwaterlaw01.StampOrders': WHATEVER THE INPUT: true; the input reads as it did. -/
def stampOrdersSpec : ChangeSpec := { name := "stampOrders", fn := fun _ => fun
  | [d1, d2] => { results := [.lit (.bool true)], args := [d1, d2] }
  | _ => none }
def stampOrdersRow : OpenClaim := { program := "ytgojpcaoapbpaaa", sum := "9b4a94031a44c6e2704a070dc5433953664997dbfe70dd3d83eb979061ec226d", func := "slackwater/slackwaterlaw01.StampOrders", spec := "stampOrders", apart := false }
def StampOrdersSaid : Prop := stampOrdersRow.holds Try.pinned (OpenSpec.ofChange stampOrdersSpec)

/-- ITS FALSE NEIGHBOUR: 'it returns false'. Refute it at one input. -/
def stampOrdersWrong : ChangeSpec := { name := "stampOrders", fn := fun _ => fun
  | [d1, d2] => { results := [.lit (.bool false)], args := [d1, d2] }
  | _ => none }
def StampOrdersWrongFalsely : Prop := stampOrdersRow.holds Try.pinned (OpenSpec.ofChange stampOrdersWrong)

/-- 'slackwaterlaw01.StampLine': WHATEVER THE INPUT: true; the input reads as it did. -/
def stampLineSpec : ChangeSpec := { name := "stampLine", fn := fun _ => fun
  | [d1, d2, d3] => { results := [.lit (.bool true)], args := [d1, d2, d3] }
  | _ => none }
def stampLineRow : OpenClaim := { program := "ytgojpcaoapbpaaa", sum := "9b4a94031a44c6e2704a070dc5433953664997dbfe70dd3d83eb979061ec226d", func := "slackwater/slackwaterlaw01.StampLine", spec := "stampLine", apart := false }
def StampLineSaid : Prop := stampLineRow.holds Try.pinned (OpenSpec.ofChange stampLineSpec)

/-- ITS FALSE NEIGHBOUR: 'it returns false'. Refute it at one input. -/
def stampLineWrong : ChangeSpec := { name := "stampLine", fn := fun _ => fun
  | [d1, d2, d3] => { results := [.lit (.bool false)], args := [d1, d2, d3] }
  | _ => none }
def StampLineWrongFalsely : Prop := stampLineRow.holds Try.pinned (OpenSpec.ofChange stampLineWrong)

/-- 'slackwaterlaw01.StampBytes': WHATEVER THE INPUT: true; the input reads as it did. -/
def stampBytesSpec : ChangeSpec := { name := "stampBytes", fn := fun _ => fun
  | [d1, d2] => { results := [.lit (.bool true)], args := [d1, d2] }
  | _ => none }
def stampBytesRow : OpenClaim := { program := "ytgojpcaoapbpaaa", sum := "9b4a94031a44c6e2704a070dc5433953664997dbfe70dd3d83eb979061ec226d", func := "slackwater/slackwaterlaw01.StampBytes", spec := "stampBytes", apart := false }
def StampBytesSaid : Prop := stampBytesRow.holds Try.pinned (OpenSpec.ofChange stampBytesSpec)

/-- ITS FALSE NEIGHBOUR: 'it returns false'. Refute it at one input. -/
def stampBytesWrong : ChangeSpec := { name := "stampBytes", fn := fun _ => fun
  | [d1, d2] => { results := [.lit (.bool false)], args := [d1, d2] }
  | _ => none }
def StampBytesWrongFalsely : Prop := stampBytesRow.holds Try.pinned (OpenSpec.ofChange stampBytesWrong)

/-- 'slackwaterlaw01.StampGap': WHATEVER THE INPUT: true; the input reads as it did. -/
def stampGapSpec : ChangeSpec := { name := "stampGap", fn := fun _ => fun
  | [d1, d2] => { results := [.lit (.bool true)], args := [d1, d2] }
  | _ => none }
def stampGapRow : OpenClaim := { program := "ytgojpcaoapbpaaa", sum := "9b4a94031a44c6e2704a070dc5433953664997dbfe70dd3d83eb979061ec226d", func := "slackwater/slackwaterlaw01.StampGap", spec := "stampGap", apart := false }
def StampGapSaid : Prop := stampGapRow.holds Try.pinned (OpenSpec.ofChange stampGapSpec)

/-- ITS FALSE NEIGHBOUR: 'it returns false'. Refute it at one input. -/
def stampGapWrong : ChangeSpec := { name := "stampGap", fn := fun _ => fun
  | [d1, d2] => { results := [.lit (.bool false)], args := [d1, d2] }
  | _ => none }
def StampGapWrongFalsely : Prop := stampGapRow.holds Try.pinned (OpenSpec.ofChange stampGapWrong)

/-- 'slackwaterlaw01.StampSorts': WHATEVER THE INPUT: true; the input reads as it did. -/
def stampSortsSpec : ChangeSpec := { name := "stampSorts", fn := fun _ => fun
  | [d1, d2] => { results := [.lit (.bool true)], args := [d1, d2] }
  | _ => none }
def stampSortsRow : OpenClaim := { program := "ytgojpcaoapbpaaa", sum := "9b4a94031a44c6e2704a070dc5433953664997dbfe70dd3d83eb979061ec226d", func := "slackwater/slackwaterlaw01.StampSorts", spec := "stampSorts", apart := false }
def StampSortsSaid : Prop := stampSortsRow.holds Try.pinned (OpenSpec.ofChange stampSortsSpec)

/-- ITS FALSE NEIGHBOUR: 'it returns false'. Refute it at one input. -/
def stampSortsWrong : ChangeSpec := { name := "stampSorts", fn := fun _ => fun
  | [d1, d2] => { results := [.lit (.bool false)], args := [d1, d2] }
  | _ => none }
def StampSortsWrongFalsely : Prop := stampSortsRow.holds Try.pinned (OpenSpec.ofChange stampSortsWrong)

/- THE SECOND FORM. 'bulk': how many values and letters a reading holds, each counted each time it is reached (what is shared counts as often as it is met; a slice's spare places count too). A statement '..UptoSaid' is the law's where the arguments, and the package variables that the reading takes, are together of bulk at most 1048576: NARROWER than '..Said'. Prove '..Said' where nothing that the law and all that it calls make is longer than what came in: it says more and counts as full. Else prove '..UptoSaid'. A law counts once. -/
mutual
def uptoBulk {H : Type} : DataW H → Nat
  | .lit (.string bytes) => bytes.length + 1
  | .lit _ => 1
  | .nil => 1
  | .ptr d => uptoBulk d + 1
  | .slice elems spare => uptoBulkAll elems + uptoBulkAll spare + 1
  | .agg parts => uptoBulkAll parts + 1
  | .iface _ d => uptoBulk d + 1
  | .map entries => uptoBulkEntries entries + 1
  | .held _ => 1
def uptoBulkAll {H : Type} : List (DataW H) → Nat
  | [] => 0
  | d :: r => uptoBulk d + uptoBulkAll r
def uptoBulkEntries {H : Type} : List (Lit × DataW H) → Nat
  | [] => 0
  | x :: r => uptoBulkEntry x + uptoBulkEntries r
def uptoBulkEntry {H : Type} : Lit × DataW H → Nat
  | (.string bytes, d) => bytes.length + uptoBulk d + 1
  | (_, d) => uptoBulk d + 1
 end
def uptoSmall : (H : Type) → List (DataW H) → Bool := fun _ ds => decide (uptoBulkAll ds ≤ 1048576)
def OpenSpec.upto (s : _root_.Go.ChangeSpec) : _root_.Go.OpenSpec := { _root_.Go.OpenSpec.ofChange s with cond := some uptoSmall }

/-- 'slackwaterlaw01.StampNexts', WHERE WHAT IT READS IS OF BULK AT MOST 1048576: true; the input reads as it did. -/
def stampNextsUptoRow : OpenClaim := { program := "ytgojpcaoapbpaaa", sum := "9b4a94031a44c6e2704a070dc5433953664997dbfe70dd3d83eb979061ec226d", func := "slackwater/slackwaterlaw01.StampNexts", spec := "stampNexts", apart := false, narrowed := true }
def StampNextsUptoSaid : Prop := stampNextsUptoRow.holds Try.pinned (OpenSpec.upto stampNextsSpec)

/-- 'slackwaterlaw01.StampOrders', WHERE WHAT IT READS IS OF BULK AT MOST 1048576: true; the input reads as it did. -/
def stampOrdersUptoRow : OpenClaim := { program := "ytgojpcaoapbpaaa", sum := "9b4a94031a44c6e2704a070dc5433953664997dbfe70dd3d83eb979061ec226d", func := "slackwater/slackwaterlaw01.StampOrders", spec := "stampOrders", apart := false, narrowed := true }
def StampOrdersUptoSaid : Prop := stampOrdersUptoRow.holds Try.pinned (OpenSpec.upto stampOrdersSpec)

/-- 'slackwaterlaw01.StampLine', WHERE WHAT IT READS IS OF BULK AT MOST 1048576: true; the input reads as it did. -/
def stampLineUptoRow : OpenClaim := { program := "ytgojpcaoapbpaaa", sum := "9b4a94031a44c6e2704a070dc5433953664997dbfe70dd3d83eb979061ec226d", func := "slackwater/slackwaterlaw01.StampLine", spec := "stampLine", apart := false, narrowed := true }
def StampLineUptoSaid : Prop := stampLineUptoRow.holds Try.pinned (OpenSpec.upto stampLineSpec)

/-- 'slackwaterlaw01.StampBytes', WHERE WHAT IT READS IS OF BULK AT MOST 1048576: true; the input reads as it did. -/
def stampBytesUptoRow : OpenClaim := { program := "ytgojpcaoapbpaaa", sum := "9b4a94031a44c6e2704a070dc5433953664997dbfe70dd3d83eb979061ec226d", func := "slackwater/slackwaterlaw01.StampBytes", spec := "stampBytes", apart := false, narrowed := true }
def StampBytesUptoSaid : Prop := stampBytesUptoRow.holds Try.pinned (OpenSpec.upto stampBytesSpec)

/-- 'slackwaterlaw01.StampGap', WHERE WHAT IT READS IS OF BULK AT MOST 1048576: true; the input reads as it did. -/
def stampGapUptoRow : OpenClaim := { program := "ytgojpcaoapbpaaa", sum := "9b4a94031a44c6e2704a070dc5433953664997dbfe70dd3d83eb979061ec226d", func := "slackwater/slackwaterlaw01.StampGap", spec := "stampGap", apart := false, narrowed := true }
def StampGapUptoSaid : Prop := stampGapUptoRow.holds Try.pinned (OpenSpec.upto stampGapSpec)

/-- 'slackwaterlaw01.StampSorts', WHERE WHAT IT READS IS OF BULK AT MOST 1048576: true; the input reads as it did. -/
def stampSortsUptoRow : OpenClaim := { program := "ytgojpcaoapbpaaa", sum := "9b4a94031a44c6e2704a070dc5433953664997dbfe70dd3d83eb979061ec226d", func := "slackwater/slackwaterlaw01.StampSorts", spec := "stampSorts", apart := false, narrowed := true }
def StampSortsUptoSaid : Prop := stampSortsUptoRow.holds Try.pinned (OpenSpec.upto stampSortsSpec)

end Rows
end Go.Proofs.Ytgojpcaoapbpaaa
