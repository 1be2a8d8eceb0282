/-
  No cell of these rows narrows 'for every input' (looked for: loops, veiled, ifaces, maps, wideKeys, modest, calm, conditions, laid).
  DERIVED. THE GIVEN ROWS OF THIS SEAT. 5 by the template 'for every input the law returns true; each argument reads behind the call as it read before'; 0 by the template 'total and deterministic' (their statements: YtghinjnhcepaeaaTotals.lean).
  GIVEN WITH THE SEED: the statements are not yours to turn. If you find one false, say at which input.
  Laid BY PROGRAM, IN A SANDBOX (cutbox-rows.mjs): the forced cells as the released guide's own fill.sh prints them over the translation 8610cb2c3dda1feb… (all of the seat's roots in one cut). By AI agents, Wed Nov 11 2026. No macro, syntax, notation, axiom, sorry.
-/
import Derived.Test.YtghinjnhcepaeaaChecked
import GoSem.Claim
import GoSem.ClaimJoined
import GoSem.ClaimMapViews
import Derived.JoinedTies
import Derived.KernelRfl
namespace Go.Proofs.Ytghinjnhcepaeaa
/- THE CELL 'sum', in the pinned program and in every row, IS THE sha256 OF THE DUMP (.gsa) THAT YtghinjnhcepaeaaProg.lean LOADS. Nothing in Lean hashes anything: it is a label: what it is worth is what the hold of that sum in a sandbox is worth. -/
noncomputable def Try.pinned : Pinned := { name := "ytghinjnhcepaeaa", sum := "8610cb2c3dda1febcd9fb7630d766d07ee5dad16b964c88382a6504a632191f2", checked := Try.checked }
namespace Rows
def none {H : Type} : Left H := { results := [], args := [] }

/-- 'slackwaterlaw10.ChainRights': WHATEVER THE INPUT: true; the input reads as it did. -/
def chainRightsSpec : ChangeSpec := { name := "chainRights", fn := fun _ => fun
  | [d] => { results := [.lit (.bool true)], args := [d] }
  | _ => none }
def chainRightsRow : OpenClaim := { program := "ytghinjnhcepaeaa", sum := "8610cb2c3dda1febcd9fb7630d766d07ee5dad16b964c88382a6504a632191f2", func := "slackwater/slackwaterlaw10.ChainRights", spec := "chainRights", inPlace := ["slices.overlaps[slackwater/chain.Version]"], unfollowed := true, recurses := true, apart := false }
def ChainRightsSaid : Prop := chainRightsRow.holds Try.pinned (OpenSpec.ofChange chainRightsSpec)

/-- ITS FALSE NEIGHBOUR: 'it returns false'. Refute it at one input. -/
def chainRightsWrong : ChangeSpec := { name := "chainRights", fn := fun _ => fun
  | [d] => { results := [.lit (.bool false)], args := [d] }
  | _ => none }
def ChainRightsWrongFalsely : Prop := chainRightsRow.holds Try.pinned (OpenSpec.ofChange chainRightsWrong)

/-- 'slackwaterlaw10.ChainPuts': WHATEVER THE INPUT: true; the input reads as it did. -/
def chainPutsSpec : ChangeSpec := { name := "chainPuts", fn := fun _ => fun
  | [d1, d2] => { results := [.lit (.bool true)], args := [d1, d2] }
  | _ => none }
def chainPutsRow : OpenClaim := { program := "ytghinjnhcepaeaa", sum := "8610cb2c3dda1febcd9fb7630d766d07ee5dad16b964c88382a6504a632191f2", func := "slackwater/slackwaterlaw10.ChainPuts", spec := "chainPuts", inPlace := ["slices.overlaps[slackwater/chain.Version]"], unfollowed := true, recurses := true, apart := false }
def ChainPutsSaid : Prop := chainPutsRow.holds Try.pinned (OpenSpec.ofChange chainPutsSpec)

/-- ITS FALSE NEIGHBOUR: 'it returns false'. Refute it at one input. -/
def chainPutsWrong : ChangeSpec := { name := "chainPuts", fn := fun _ => fun
  | [d1, d2] => { results := [.lit (.bool false)], args := [d1, d2] }
  | _ => none }
def ChainPutsWrongFalsely : Prop := chainPutsRow.holds Try.pinned (OpenSpec.ofChange chainPutsWrong)

/-- 'slackwaterlaw10.ChainOrder': WHATEVER THE INPUT: true; the input reads as it did. -/
def chainOrderSpec : ChangeSpec := { name := "chainOrder", fn := fun _ => fun
  | [d1, d2] => { results := [.lit (.bool true)], args := [d1, d2] }
  | _ => none }
def chainOrderRow : OpenClaim := { program := "ytghinjnhcepaeaa", sum := "8610cb2c3dda1febcd9fb7630d766d07ee5dad16b964c88382a6504a632191f2", func := "slackwater/slackwaterlaw10.ChainOrder", spec := "chainOrder", inPlace := ["slices.overlaps[slackwater/chain.Version]"], unfollowed := true, recurses := true, apart := false }
def ChainOrderSaid : Prop := chainOrderRow.holds Try.pinned (OpenSpec.ofChange chainOrderSpec)

/-- ITS FALSE NEIGHBOUR: 'it returns false'. Refute it at one input. -/
def chainOrderWrong : ChangeSpec := { name := "chainOrder", fn := fun _ => fun
  | [d1, d2] => { results := [.lit (.bool false)], args := [d1, d2] }
  | _ => none }
def ChainOrderWrongFalsely : Prop := chainOrderRow.holds Try.pinned (OpenSpec.ofChange chainOrderWrong)

/-- 'slackwaterlaw10.ChainCuts': WHATEVER THE INPUT: true; the input reads as it did. -/
def chainCutsSpec : ChangeSpec := { name := "chainCuts", fn := fun _ => fun
  | [d1, d2, d3, d4] => { results := [.lit (.bool true)], args := [d1, d2, d3, d4] }
  | _ => none }
def chainCutsRow : OpenClaim := { program := "ytghinjnhcepaeaa", sum := "8610cb2c3dda1febcd9fb7630d766d07ee5dad16b964c88382a6504a632191f2", func := "slackwater/slackwaterlaw10.ChainCuts", spec := "chainCuts", inPlace := ["slices.overlaps[slackwater/chain.Version]"], unfollowed := true, recurses := true, apart := false }
def ChainCutsSaid : Prop := chainCutsRow.holds Try.pinned (OpenSpec.ofChange chainCutsSpec)

/-- ITS FALSE NEIGHBOUR: 'it returns false'. Refute it at one input. -/
def chainCutsWrong : ChangeSpec := { name := "chainCuts", fn := fun _ => fun
  | [d1, d2, d3, d4] => { results := [.lit (.bool false)], args := [d1, d2, d3, d4] }
  | _ => none }
def ChainCutsWrongFalsely : Prop := chainCutsRow.holds Try.pinned (OpenSpec.ofChange chainCutsWrong)

/-- 'slackwaterlaw10.ChainModel': WHATEVER THE INPUT: true; the input reads as it did. -/
def chainModelSpec : ChangeSpec := { name := "chainModel", fn := fun _ => fun
  | [d1, d2] => { results := [.lit (.bool true)], args := [d1, d2] }
  | _ => none }
def chainModelRow : OpenClaim := { program := "ytghinjnhcepaeaa", sum := "8610cb2c3dda1febcd9fb7630d766d07ee5dad16b964c88382a6504a632191f2", func := "slackwater/slackwaterlaw10.ChainModel", spec := "chainModel", inPlace := ["slices.overlaps[slackwater/chain.Version]"], unfollowed := true, recurses := true, apart := false }
def ChainModelSaid : Prop := chainModelRow.holds Try.pinned (OpenSpec.ofChange chainModelSpec)

/-- ITS FALSE NEIGHBOUR: 'it returns false'. Refute it at one input. -/
def chainModelWrong : ChangeSpec := { name := "chainModel", fn := fun _ => fun
  | [d1, d2] => { results := [.lit (.bool false)], args := [d1, d2] }
  | _ => none }
def ChainModelWrongFalsely : Prop := chainModelRow.holds Try.pinned (OpenSpec.ofChange chainModelWrong)

/- THE SECOND FORM. 'bulk': how many values and letters a reading holds, each counted each time it is reached (what is shared counts as often as it is met; a slice's spare places count too). A statement '..UptoSaid' is the law's where the arguments, and the package variables that the reading takes, are together of bulk at most 1048576: NARROWER than '..Said'. Prove '..Said' where nothing that the law and all that it calls make is longer than what came in: it says more and counts as full. Else prove '..UptoSaid'. A law counts once. -/
mutual
def uptoBulk {H : Type} : DataW H → Nat
  | .lit (.string bytes) => bytes.length + 1
  | .lit _ => 1
  | .nil => 1
  | .ptr d => uptoBulk d + 1
  | .slice elems spare => uptoBulkAll elems + uptoBulkAll spare + 1
  | .agg parts => uptoBulkAll parts + 1
  | .iface _ d => uptoBulk d + 1
  | .map entries => uptoBulkEntries entries + 1
  | .held _ => 1
def uptoBulkAll {H : Type} : List (DataW H) → Nat
  | [] => 0
  | d :: r => uptoBulk d + uptoBulkAll r
def uptoBulkEntries {H : Type} : List (Lit × DataW H) → Nat
  | [] => 0
  | x :: r => uptoBulkEntry x + uptoBulkEntries r
def uptoBulkEntry {H : Type} : Lit × DataW H → Nat
  | (.string bytes, d) => bytes.length + uptoBulk d + 1
  | (_, d) => uptoBulk d + 1
 end
def uptoSmall : (H : Type) → List (DataW H) → Bool := fun _ ds => decide (uptoBulkAll ds ≤ 1048576)
def OpenSpec.upto (s : _root_.Go.ChangeSpec) : _root_.Go.OpenSpec := { _root_.Go.OpenSpec.ofChange s with cond := some uptoSmall }

/-- 'slackwaterlaw10.ChainRights', WHERE WHAT IT READS IS OF BULK AT MOST 1048576: true; the input reads as it did. -/
def chainRightsUptoRow : OpenClaim := { program := "ytghinjnhcepaeaa", sum := "8610cb2c3dda1febcd9fb7630d766d07ee5dad16b964c88382a6504a632191f2", func := "slackwater/slackwaterlaw10.ChainRights", spec := "chainRights", inPlace := ["slices.overlaps[slackwater/chain.Version]"], unfollowed := true, recurses := true, apart := false, narrowed := true }
def ChainRightsUptoSaid : Prop := chainRightsUptoRow.holds Try.pinned (OpenSpec.upto chainRightsSpec)

/-- 'slackwaterlaw10.ChainPuts', WHERE WHAT IT READS IS OF BULK AT MOST 1048576: true; the input reads as it did. -/
def chainPutsUptoRow : OpenClaim := { program := "ytghinjnhcepaeaa", sum := "8610cb2c3dda1febcd9fb7630d766d07ee5dad16b964c88382a6504a632191f2", func := "slackwater/slackwaterlaw10.ChainPuts", spec := "chainPuts", inPlace := ["slices.overlaps[slackwater/chain.Version]"], unfollowed := true, recurses := true, apart := false, narrowed := true }
def ChainPutsUptoSaid : Prop := chainPutsUptoRow.holds Try.pinned (OpenSpec.upto chainPutsSpec)

/-- 'slackwaterlaw10.ChainOrder', WHERE WHAT IT READS IS OF BULK AT MOST 1048576: true; the input reads as it did. -/
def chainOrderUptoRow : OpenClaim := { program := "ytghinjnhcepaeaa", sum := "8610cb2c3dda1febcd9fb7630d766d07ee5dad16b964c88382a6504a632191f2", func := "slackwater/slackwaterlaw10.ChainOrder", spec := "chainOrder", inPlace := ["slices.overlaps[slackwater/chain.Version]"], unfollowed := true, recurses := true, apart := false, narrowed := true }
def ChainOrderUptoSaid : Prop := chainOrderUptoRow.holds Try.pinned (OpenSpec.upto chainOrderSpec)

/-- 'slackwaterlaw10.ChainCuts', WHERE WHAT IT READS IS OF BULK AT MOST 1048576: true; the input reads as it did. -/
def chainCutsUptoRow : OpenClaim := { program := "ytghinjnhcepaeaa", sum := "8610cb2c3dda1febcd9fb7630d766d07ee5dad16b964c88382a6504a632191f2", func := "slackwater/slackwaterlaw10.ChainCuts", spec := "chainCuts", inPlace := ["slices.overlaps[slackwater/chain.Version]"], unfollowed := true, recurses := true, apart := false, narrowed := true }
def ChainCutsUptoSaid : Prop := chainCutsUptoRow.holds Try.pinned (OpenSpec.upto chainCutsSpec)

/-- 'slackwaterlaw10.ChainModel', WHERE WHAT IT READS IS OF BULK AT MOST 1048576: true; the input reads as it did. -/
def chainModelUptoRow : OpenClaim := { program := "ytghinjnhcepaeaa", sum := "8610cb2c3dda1febcd9fb7630d766d07ee5dad16b964c88382a6504a632191f2", func := "slackwater/slackwaterlaw10.ChainModel", spec := "chainModel", inPlace := ["slices.overlaps[slackwater/chain.Version]"], unfollowed := true, recurses := true, apart := false, narrowed := true }
def ChainModelUptoSaid : Prop := chainModelUptoRow.holds Try.pinned (OpenSpec.upto chainModelSpec)

end Rows
end Go.Proofs.Ytghinjnhcepaeaa
