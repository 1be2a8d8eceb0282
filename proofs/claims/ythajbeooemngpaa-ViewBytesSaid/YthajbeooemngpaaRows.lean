/-
  No cell of these rows narrows 'for every input' (looked for: loops, veiled, ifaces, maps, wideKeys, modest, calm, conditions, laid).
  DERIVED. THE GIVEN ROWS OF THIS SEAT. 12 by the template 'for every input the law returns true; each argument reads behind the call as it read before'; 0 by the template 'total and deterministic' (their statements: YthajbeooemngpaaTotals.lean).
  GIVEN WITH THE SEED: the statements are not yours to turn. If you find one false, say at which input.
  Laid BY PROGRAM, IN A SANDBOX (cutbox-rows.mjs): the forced cells as the released guide's own fill.sh prints them over the translation c2ed9536cd5adff7… (all of the seat's roots in one cut). By AI agents, Wed Nov 11 2026. No macro, syntax, notation, axiom, sorry.
-/
import Derived.Test.YthajbeooemngpaaChecked
import GoSem.Claim
import GoSem.ClaimJoined
import GoSem.ClaimMapViews
import Derived.JoinedTies
import Derived.KernelRfl
namespace Go.Proofs.Ythajbeooemngpaa
/- THE CELL 'sum', in the pinned program and in every row, IS THE sha256 OF THE DUMP (.gsa) THAT YthajbeooemngpaaProg.lean LOADS. Nothing in Lean hashes anything: it is a label: what it is worth is what the hold of that sum in a sandbox is worth. -/
noncomputable def Try.pinned : Pinned := { name := "ythajbeooemngpaa", sum := "c2ed9536cd5adff781406a44941a09093fb9860839326dd34aa8473b1026e74d", checked := Try.checked }
namespace Rows
def none {H : Type} : Left H := { results := [], args := [] }

/-- 'slackwaterlaw22.PackWrites': WHATEVER THE INPUT: true; the input reads as it did. -/
def packWritesSpec : ChangeSpec := { name := "packWrites", fn := fun _ => fun
  | [d] => { results := [.lit (.bool true)], args := [d] }
  | _ => none }
def packWritesRow : OpenClaim := { program := "ythajbeooemngpaa", sum := "c2ed9536cd5adff781406a44941a09093fb9860839326dd34aa8473b1026e74d", func := "slackwater/slackwaterlaw22.PackWrites", spec := "packWrites", apart := false }
def PackWritesSaid : Prop := packWritesRow.holds Try.pinned (OpenSpec.ofChange packWritesSpec)

/-- ITS FALSE NEIGHBOUR: 'it returns false'. Refute it at one input. -/
def packWritesWrong : ChangeSpec := { name := "packWrites", fn := fun _ => fun
  | [d] => { results := [.lit (.bool false)], args := [d] }
  | _ => none }
def PackWritesWrongFalsely : Prop := packWritesRow.holds Try.pinned (OpenSpec.ofChange packWritesWrong)

/-- 'slackwaterlaw22.PackEven': WHATEVER THE INPUT: true; the input reads as it did. -/
def packEvenSpec : ChangeSpec := { name := "packEven", fn := fun _ => fun
  | [d1, d2, d3, d4] => { results := [.lit (.bool true)], args := [d1, d2, d3, d4] }
  | _ => none }
def packEvenRow : OpenClaim := { program := "ythajbeooemngpaa", sum := "c2ed9536cd5adff781406a44941a09093fb9860839326dd34aa8473b1026e74d", func := "slackwater/slackwaterlaw22.PackEven", spec := "packEven", apart := false }
def PackEvenSaid : Prop := packEvenRow.holds Try.pinned (OpenSpec.ofChange packEvenSpec)

/-- ITS FALSE NEIGHBOUR: 'it returns false'. Refute it at one input. -/
def packEvenWrong : ChangeSpec := { name := "packEven", fn := fun _ => fun
  | [d1, d2, d3, d4] => { results := [.lit (.bool false)], args := [d1, d2, d3, d4] }
  | _ => none }
def PackEvenWrongFalsely : Prop := packEvenRow.holds Try.pinned (OpenSpec.ofChange packEvenWrong)

/-- 'slackwaterlaw03.WireLays': WHATEVER THE INPUT: true; the input reads as it did. -/
def wireLaysSpec : ChangeSpec := { name := "wireLays", fn := fun _ => fun
  | [d] => { results := [.lit (.bool true)], args := [d] }
  | _ => none }
def wireLaysRow : OpenClaim := { program := "ythajbeooemngpaa", sum := "c2ed9536cd5adff781406a44941a09093fb9860839326dd34aa8473b1026e74d", func := "slackwater/slackwaterlaw03.WireLays", spec := "wireLays", apart := false }
def WireLaysSaid : Prop := wireLaysRow.holds Try.pinned (OpenSpec.ofChange wireLaysSpec)

/-- ITS FALSE NEIGHBOUR: 'it returns false'. Refute it at one input. -/
def wireLaysWrong : ChangeSpec := { name := "wireLays", fn := fun _ => fun
  | [d] => { results := [.lit (.bool false)], args := [d] }
  | _ => none }
def WireLaysWrongFalsely : Prop := wireLaysRow.holds Try.pinned (OpenSpec.ofChange wireLaysWrong)

/-- 'slackwaterlaw03.WireOrder': WHATEVER THE INPUT: true; the input reads as it did. -/
def wireOrderSpec : ChangeSpec := { name := "wireOrder", fn := fun _ => fun
  | [d1, d2] => { results := [.lit (.bool true)], args := [d1, d2] }
  | _ => none }
def wireOrderRow : OpenClaim := { program := "ythajbeooemngpaa", sum := "c2ed9536cd5adff781406a44941a09093fb9860839326dd34aa8473b1026e74d", func := "slackwater/slackwaterlaw03.WireOrder", spec := "wireOrder", apart := false }
def WireOrderSaid : Prop := wireOrderRow.holds Try.pinned (OpenSpec.ofChange wireOrderSpec)

/-- ITS FALSE NEIGHBOUR: 'it returns false'. Refute it at one input. -/
def wireOrderWrong : ChangeSpec := { name := "wireOrder", fn := fun _ => fun
  | [d1, d2] => { results := [.lit (.bool false)], args := [d1, d2] }
  | _ => none }
def WireOrderWrongFalsely : Prop := wireOrderRow.holds Try.pinned (OpenSpec.ofChange wireOrderWrong)

/-- 'slackwaterlaw15.ViewNil': WHATEVER THE INPUT: true; the input reads as it did. -/
def viewNilSpec : ChangeSpec := { name := "viewNil", fn := fun _ => fun
  | [d] => { results := [.lit (.bool true)], args := [d] }
  | _ => none }
def viewNilRow : OpenClaim := { program := "ythajbeooemngpaa", sum := "c2ed9536cd5adff781406a44941a09093fb9860839326dd34aa8473b1026e74d", func := "slackwater/slackwaterlaw15.ViewNil", spec := "viewNil", unfollowed := true, recurses := true, apart := false }
def ViewNilSaid : Prop := viewNilRow.holds Try.pinned (OpenSpec.ofChange viewNilSpec)

/-- ITS FALSE NEIGHBOUR: 'it returns false'. Refute it at one input. -/
def viewNilWrong : ChangeSpec := { name := "viewNil", fn := fun _ => fun
  | [d] => { results := [.lit (.bool false)], args := [d] }
  | _ => none }
def ViewNilWrongFalsely : Prop := viewNilRow.holds Try.pinned (OpenSpec.ofChange viewNilWrong)

/-- 'slackwaterlaw15.ViewPlays': WHATEVER THE INPUT: true; the input reads as it did. -/
def viewPlaysSpec : ChangeSpec := { name := "viewPlays", fn := fun _ => fun
  | [d1, d2] => { results := [.lit (.bool true)], args := [d1, d2] }
  | _ => none }
def viewPlaysRow : OpenClaim := { program := "ythajbeooemngpaa", sum := "c2ed9536cd5adff781406a44941a09093fb9860839326dd34aa8473b1026e74d", func := "slackwater/slackwaterlaw15.ViewPlays", spec := "viewPlays", unfollowed := true, recurses := true, apart := false }
def ViewPlaysSaid : Prop := viewPlaysRow.holds Try.pinned (OpenSpec.ofChange viewPlaysSpec)

/-- ITS FALSE NEIGHBOUR: 'it returns false'. Refute it at one input. -/
def viewPlaysWrong : ChangeSpec := { name := "viewPlays", fn := fun _ => fun
  | [d1, d2] => { results := [.lit (.bool false)], args := [d1, d2] }
  | _ => none }
def ViewPlaysWrongFalsely : Prop := viewPlaysRow.holds Try.pinned (OpenSpec.ofChange viewPlaysWrong)

/-- 'slackwaterlaw15.ViewSafe': WHATEVER THE INPUT: true; the input reads as it did. -/
def viewSafeSpec : ChangeSpec := { name := "viewSafe", fn := fun _ => fun
  | [d1, d2] => { results := [.lit (.bool true)], args := [d1, d2] }
  | _ => none }
def viewSafeRow : OpenClaim := { program := "ythajbeooemngpaa", sum := "c2ed9536cd5adff781406a44941a09093fb9860839326dd34aa8473b1026e74d", func := "slackwater/slackwaterlaw15.ViewSafe", spec := "viewSafe", unfollowed := true, recurses := true, apart := false }
def ViewSafeSaid : Prop := viewSafeRow.holds Try.pinned (OpenSpec.ofChange viewSafeSpec)

/-- ITS FALSE NEIGHBOUR: 'it returns false'. Refute it at one input. -/
def viewSafeWrong : ChangeSpec := { name := "viewSafe", fn := fun _ => fun
  | [d1, d2] => { results := [.lit (.bool false)], args := [d1, d2] }
  | _ => none }
def ViewSafeWrongFalsely : Prop := viewSafeRow.holds Try.pinned (OpenSpec.ofChange viewSafeWrong)

/-- 'slackwaterlaw22.PackBack': WHATEVER THE INPUT: true; the input reads as it did. -/
def packBackSpec : ChangeSpec := { name := "packBack", fn := fun _ => fun
  | [d1, d2] => { results := [.lit (.bool true)], args := [d1, d2] }
  | _ => none }
def packBackRow : OpenClaim := { program := "ythajbeooemngpaa", sum := "c2ed9536cd5adff781406a44941a09093fb9860839326dd34aa8473b1026e74d", func := "slackwater/slackwaterlaw22.PackBack", spec := "packBack", apart := false }
def PackBackSaid : Prop := packBackRow.holds Try.pinned (OpenSpec.ofChange packBackSpec)

/-- ITS FALSE NEIGHBOUR: 'it returns false'. Refute it at one input. -/
def packBackWrong : ChangeSpec := { name := "packBack", fn := fun _ => fun
  | [d1, d2] => { results := [.lit (.bool false)], args := [d1, d2] }
  | _ => none }
def PackBackWrongFalsely : Prop := packBackRow.holds Try.pinned (OpenSpec.ofChange packBackWrong)

/-- 'slackwaterlaw03.WireNil': WHATEVER THE INPUT: true; the input reads as it did. -/
def wireNilSpec : ChangeSpec := { name := "wireNil", fn := fun _ => fun
  | [d1, d2, d3] => { results := [.lit (.bool true)], args := [d1, d2, d3] }
  | _ => none }
def wireNilRow : OpenClaim := { program := "ythajbeooemngpaa", sum := "c2ed9536cd5adff781406a44941a09093fb9860839326dd34aa8473b1026e74d", func := "slackwater/slackwaterlaw03.WireNil", spec := "wireNil", apart := false }
def WireNilSaid : Prop := wireNilRow.holds Try.pinned (OpenSpec.ofChange wireNilSpec)

/-- ITS FALSE NEIGHBOUR: 'it returns false'. Refute it at one input. -/
def wireNilWrong : ChangeSpec := { name := "wireNil", fn := fun _ => fun
  | [d1, d2, d3] => { results := [.lit (.bool false)], args := [d1, d2, d3] }
  | _ => none }
def WireNilWrongFalsely : Prop := wireNilRow.holds Try.pinned (OpenSpec.ofChange wireNilWrong)

/-- 'slackwaterlaw03.WireBack': WHATEVER THE INPUT: true; the input reads as it did. -/
def wireBackSpec : ChangeSpec := { name := "wireBack", fn := fun _ => fun
  | [d] => { results := [.lit (.bool true)], args := [d] }
  | _ => none }
def wireBackRow : OpenClaim := { program := "ythajbeooemngpaa", sum := "c2ed9536cd5adff781406a44941a09093fb9860839326dd34aa8473b1026e74d", func := "slackwater/slackwaterlaw03.WireBack", spec := "wireBack", apart := false }
def WireBackSaid : Prop := wireBackRow.holds Try.pinned (OpenSpec.ofChange wireBackSpec)

/-- ITS FALSE NEIGHBOUR: 'it returns false'. Refute it at one input. -/
def wireBackWrong : ChangeSpec := { name := "wireBack", fn := fun _ => fun
  | [d] => { results := [.lit (.bool false)], args := [d] }
  | _ => none }
def WireBackWrongFalsely : Prop := wireBackRow.holds Try.pinned (OpenSpec.ofChange wireBackWrong)

/-- 'slackwaterlaw03.WireStops': WHATEVER THE INPUT: true; the input reads as it did. -/
def wireStopsSpec : ChangeSpec := { name := "wireStops", fn := fun _ => fun
  | [d1, d2, d3] => { results := [.lit (.bool true)], args := [d1, d2, d3] }
  | _ => none }
def wireStopsRow : OpenClaim := { program := "ythajbeooemngpaa", sum := "c2ed9536cd5adff781406a44941a09093fb9860839326dd34aa8473b1026e74d", func := "slackwater/slackwaterlaw03.WireStops", spec := "wireStops", apart := false }
def WireStopsSaid : Prop := wireStopsRow.holds Try.pinned (OpenSpec.ofChange wireStopsSpec)

/-- ITS FALSE NEIGHBOUR: 'it returns false'. Refute it at one input. -/
def wireStopsWrong : ChangeSpec := { name := "wireStops", fn := fun _ => fun
  | [d1, d2, d3] => { results := [.lit (.bool false)], args := [d1, d2, d3] }
  | _ => none }
def WireStopsWrongFalsely : Prop := wireStopsRow.holds Try.pinned (OpenSpec.ofChange wireStopsWrong)

/-- 'slackwaterlaw15.ViewBytes': WHATEVER THE INPUT: true; the input reads as it did. -/
def viewBytesSpec : ChangeSpec := { name := "viewBytes", fn := fun _ => fun
  | [d1, d2] => { results := [.lit (.bool true)], args := [d1, d2] }
  | _ => none }
def viewBytesRow : OpenClaim := { program := "ythajbeooemngpaa", sum := "c2ed9536cd5adff781406a44941a09093fb9860839326dd34aa8473b1026e74d", func := "slackwater/slackwaterlaw15.ViewBytes", spec := "viewBytes", unfollowed := true, recurses := true, apart := false }
def ViewBytesSaid : Prop := viewBytesRow.holds Try.pinned (OpenSpec.ofChange viewBytesSpec)

/-- ITS FALSE NEIGHBOUR: 'it returns false'. Refute it at one input. -/
def viewBytesWrong : ChangeSpec := { name := "viewBytes", fn := fun _ => fun
  | [d1, d2] => { results := [.lit (.bool false)], args := [d1, d2] }
  | _ => none }
def ViewBytesWrongFalsely : Prop := viewBytesRow.holds Try.pinned (OpenSpec.ofChange viewBytesWrong)

/- THE SECOND FORM. 'bulk': how many values and letters a reading holds, each counted each time it is reached (what is shared counts as often as it is met; a slice's spare places count too). A statement '..UptoSaid' is the law's where the arguments, and the package variables that the reading takes, are together of bulk at most 1048576: NARROWER than '..Said'. Prove '..Said' where nothing that the law and all that it calls make is longer than what came in: it says more and counts as full. Else prove '..UptoSaid'. A law counts once. -/
mutual
def uptoBulk {H : Type} : DataW H → Nat
  | .lit (.string bytes) => bytes.length + 1
  | .lit _ => 1
  | .nil => 1
  | .ptr d => uptoBulk d + 1
  | .slice elems spare => uptoBulkAll elems + uptoBulkAll spare + 1
  | .agg parts => uptoBulkAll parts + 1
  | .iface _ d => uptoBulk d + 1
  | .map entries => uptoBulkEntries entries + 1
  | .held _ => 1
def uptoBulkAll {H : Type} : List (DataW H) → Nat
  | [] => 0
  | d :: r => uptoBulk d + uptoBulkAll r
def uptoBulkEntries {H : Type} : List (Lit × DataW H) → Nat
  | [] => 0
  | x :: r => uptoBulkEntry x + uptoBulkEntries r
def uptoBulkEntry {H : Type} : Lit × DataW H → Nat
  | (.string bytes, d) => bytes.length + uptoBulk d + 1
  | (_, d) => uptoBulk d + 1
 end
def uptoSmall : (H : Type) → List (DataW H) → Bool := fun _ ds => decide (uptoBulkAll ds ≤ 1048576)
def OpenSpec.upto (s : _root_.Go.ChangeSpec) : _root_.Go.OpenSpec := { _root_.Go.OpenSpec.ofChange s with cond := some uptoSmall }

/-- 'slackwaterlaw22.PackWrites', WHERE WHAT IT READS IS OF BULK AT MOST 1048576: true; the input reads as it did. -/
def packWritesUptoRow : OpenClaim := { program := "ythajbeooemngpaa", sum := "c2ed9536cd5adff781406a44941a09093fb9860839326dd34aa8473b1026e74d", func := "slackwater/slackwaterlaw22.PackWrites", spec := "packWrites", apart := false, narrowed := true }
def PackWritesUptoSaid : Prop := packWritesUptoRow.holds Try.pinned (OpenSpec.upto packWritesSpec)

/-- 'slackwaterlaw22.PackEven', WHERE WHAT IT READS IS OF BULK AT MOST 1048576: true; the input reads as it did. -/
def packEvenUptoRow : OpenClaim := { program := "ythajbeooemngpaa", sum := "c2ed9536cd5adff781406a44941a09093fb9860839326dd34aa8473b1026e74d", func := "slackwater/slackwaterlaw22.PackEven", spec := "packEven", apart := false, narrowed := true }
def PackEvenUptoSaid : Prop := packEvenUptoRow.holds Try.pinned (OpenSpec.upto packEvenSpec)

/-- 'slackwaterlaw03.WireLays', WHERE WHAT IT READS IS OF BULK AT MOST 1048576: true; the input reads as it did. -/
def wireLaysUptoRow : OpenClaim := { program := "ythajbeooemngpaa", sum := "c2ed9536cd5adff781406a44941a09093fb9860839326dd34aa8473b1026e74d", func := "slackwater/slackwaterlaw03.WireLays", spec := "wireLays", apart := false, narrowed := true }
def WireLaysUptoSaid : Prop := wireLaysUptoRow.holds Try.pinned (OpenSpec.upto wireLaysSpec)

/-- 'slackwaterlaw03.WireOrder', WHERE WHAT IT READS IS OF BULK AT MOST 1048576: true; the input reads as it did. -/
def wireOrderUptoRow : OpenClaim := { program := "ythajbeooemngpaa", sum := "c2ed9536cd5adff781406a44941a09093fb9860839326dd34aa8473b1026e74d", func := "slackwater/slackwaterlaw03.WireOrder", spec := "wireOrder", apart := false, narrowed := true }
def WireOrderUptoSaid : Prop := wireOrderUptoRow.holds Try.pinned (OpenSpec.upto wireOrderSpec)

/-- 'slackwaterlaw15.ViewNil', WHERE WHAT IT READS IS OF BULK AT MOST 1048576: true; the input reads as it did. -/
def viewNilUptoRow : OpenClaim := { program := "ythajbeooemngpaa", sum := "c2ed9536cd5adff781406a44941a09093fb9860839326dd34aa8473b1026e74d", func := "slackwater/slackwaterlaw15.ViewNil", spec := "viewNil", unfollowed := true, recurses := true, apart := false, narrowed := true }
def ViewNilUptoSaid : Prop := viewNilUptoRow.holds Try.pinned (OpenSpec.upto viewNilSpec)

/-- 'slackwaterlaw15.ViewPlays', WHERE WHAT IT READS IS OF BULK AT MOST 1048576: true; the input reads as it did. -/
def viewPlaysUptoRow : OpenClaim := { program := "ythajbeooemngpaa", sum := "c2ed9536cd5adff781406a44941a09093fb9860839326dd34aa8473b1026e74d", func := "slackwater/slackwaterlaw15.ViewPlays", spec := "viewPlays", unfollowed := true, recurses := true, apart := false, narrowed := true }
def ViewPlaysUptoSaid : Prop := viewPlaysUptoRow.holds Try.pinned (OpenSpec.upto viewPlaysSpec)

/-- 'slackwaterlaw15.ViewSafe', WHERE WHAT IT READS IS OF BULK AT MOST 1048576: true; the input reads as it did. -/
def viewSafeUptoRow : OpenClaim := { program := "ythajbeooemngpaa", sum := "c2ed9536cd5adff781406a44941a09093fb9860839326dd34aa8473b1026e74d", func := "slackwater/slackwaterlaw15.ViewSafe", spec := "viewSafe", unfollowed := true, recurses := true, apart := false, narrowed := true }
def ViewSafeUptoSaid : Prop := viewSafeUptoRow.holds Try.pinned (OpenSpec.upto viewSafeSpec)

/-- 'slackwaterlaw22.PackBack', WHERE WHAT IT READS IS OF BULK AT MOST 1048576: true; the input reads as it did. -/
def packBackUptoRow : OpenClaim := { program := "ythajbeooemngpaa", sum := "c2ed9536cd5adff781406a44941a09093fb9860839326dd34aa8473b1026e74d", func := "slackwater/slackwaterlaw22.PackBack", spec := "packBack", apart := false, narrowed := true }
def PackBackUptoSaid : Prop := packBackUptoRow.holds Try.pinned (OpenSpec.upto packBackSpec)

/-- 'slackwaterlaw03.WireNil', WHERE WHAT IT READS IS OF BULK AT MOST 1048576: true; the input reads as it did. -/
def wireNilUptoRow : OpenClaim := { program := "ythajbeooemngpaa", sum := "c2ed9536cd5adff781406a44941a09093fb9860839326dd34aa8473b1026e74d", func := "slackwater/slackwaterlaw03.WireNil", spec := "wireNil", apart := false, narrowed := true }
def WireNilUptoSaid : Prop := wireNilUptoRow.holds Try.pinned (OpenSpec.upto wireNilSpec)

/-- 'slackwaterlaw03.WireBack', WHERE WHAT IT READS IS OF BULK AT MOST 1048576: true; the input reads as it did. -/
def wireBackUptoRow : OpenClaim := { program := "ythajbeooemngpaa", sum := "c2ed9536cd5adff781406a44941a09093fb9860839326dd34aa8473b1026e74d", func := "slackwater/slackwaterlaw03.WireBack", spec := "wireBack", apart := false, narrowed := true }
def WireBackUptoSaid : Prop := wireBackUptoRow.holds Try.pinned (OpenSpec.upto wireBackSpec)

/-- 'slackwaterlaw03.WireStops', WHERE WHAT IT READS IS OF BULK AT MOST 1048576: true; the input reads as it did. -/
def wireStopsUptoRow : OpenClaim := { program := "ythajbeooemngpaa", sum := "c2ed9536cd5adff781406a44941a09093fb9860839326dd34aa8473b1026e74d", func := "slackwater/slackwaterlaw03.WireStops", spec := "wireStops", apart := false, narrowed := true }
def WireStopsUptoSaid : Prop := wireStopsUptoRow.holds Try.pinned (OpenSpec.upto wireStopsSpec)

/-- 'slackwaterlaw15.ViewBytes', WHERE WHAT IT READS IS OF BULK AT MOST 1048576: true; the input reads as it did. -/
def viewBytesUptoRow : OpenClaim := { program := "ythajbeooemngpaa", sum := "c2ed9536cd5adff781406a44941a09093fb9860839326dd34aa8473b1026e74d", func := "slackwater/slackwaterlaw15.ViewBytes", spec := "viewBytes", unfollowed := true, recurses := true, apart := false, narrowed := true }
def ViewBytesUptoSaid : Prop := viewBytesUptoRow.holds Try.pinned (OpenSpec.upto viewBytesSpec)

end Rows
end Go.Proofs.Ythajbeooemngpaa
