/-
  No cell of these rows narrows 'for every input' (looked for: loops, veiled, ifaces, maps, wideKeys, modest, calm, conditions, laid).
  DERIVED. THE GIVEN ROWS OF THIS SEAT. 6 by the template 'for every input the law returns true; each argument reads behind the call as it read before'; 0 by the template 'total and deterministic' (their statements: YtjhcgnmibnjocaaTotals.lean).
  GIVEN WITH THE SEED: the statements are not yours to turn. If you find one false, say at which input.
  Laid BY PROGRAM, IN A SANDBOX (cutbox-rows.mjs): the forced cells as the released guide's own fill.sh prints them over the translation df37e34bdaf707cc… (all of the seat's roots in one cut). By AI agents, Wed Nov 11 2026. No macro, syntax, notation, axiom, sorry.
-/
import Derived.Test.YtjhcgnmibnjocaaChecked
import GoSem.Claim
import GoSem.ClaimJoined
import GoSem.ClaimMapViews
import Derived.JoinedTies
import Derived.KernelRfl
namespace Go.Proofs.Ytjhcgnmibnjocaa
/- THE CELL 'sum', in the pinned program and in every row, IS THE sha256 OF THE DUMP (.gsa) THAT YtjhcgnmibnjocaaProg.lean LOADS. Nothing in Lean hashes anything: it is a label: what it is worth is what the hold of that sum in a sandbox is worth. -/
noncomputable def Try.pinned : Pinned := { name := "ytjhcgnmibnjocaa", sum := "df37e34bdaf707cc4eeddd822da45f48e7e45e15fbe2b1f8e386c0440695fc8a", checked := Try.checked }
namespace Rows
def none {H : Type} : Left H := { results := [], args := [] }

/-- 'slackwaterlaw16.RelayRises': WHATEVER THE INPUT: true; the input reads as it did. -/
def relayRisesSpec : ChangeSpec := { name := "relayRises", fn := fun _ => fun
  | [d1, d2] => { results := [.lit (.bool true)], args := [d1, d2] }
  | _ => none }
def relayRisesRow : OpenClaim := { program := "ytjhcgnmibnjocaa", sum := "df37e34bdaf707cc4eeddd822da45f48e7e45e15fbe2b1f8e386c0440695fc8a", func := "slackwater/slackwaterlaw16.RelayRises", spec := "relayRises", unfollowed := true, recurses := true, apart := false }
def RelayRisesSaid : Prop := relayRisesRow.holds Try.pinned (OpenSpec.ofChange relayRisesSpec)

/-- ITS FALSE NEIGHBOUR: 'it returns false'. Refute it at one input. -/
def relayRisesWrong : ChangeSpec := { name := "relayRises", fn := fun _ => fun
  | [d1, d2] => { results := [.lit (.bool false)], args := [d1, d2] }
  | _ => none }
def RelayRisesWrongFalsely : Prop := relayRisesRow.holds Try.pinned (OpenSpec.ofChange relayRisesWrong)

/-- 'slackwaterlaw16.RelayNil': WHATEVER THE INPUT: true; the input reads as it did. -/
def relayNilSpec : ChangeSpec := { name := "relayNil", fn := fun _ => fun
  | [] => { results := [.lit (.bool true)], args := [] }
  | _ => none }
def relayNilRow : OpenClaim := { program := "ytjhcgnmibnjocaa", sum := "df37e34bdaf707cc4eeddd822da45f48e7e45e15fbe2b1f8e386c0440695fc8a", func := "slackwater/slackwaterlaw16.RelayNil", spec := "relayNil", unfollowed := true, recurses := true, apart := false }
def RelayNilSaid : Prop := relayNilRow.holds Try.pinned (OpenSpec.ofChange relayNilSpec)

/-- ITS FALSE NEIGHBOUR: 'it returns false'. Refute it at one input. -/
def relayNilWrong : ChangeSpec := { name := "relayNil", fn := fun _ => fun
  | [] => { results := [.lit (.bool false)], args := [] }
  | _ => none }
def RelayNilWrongFalsely : Prop := relayNilRow.holds Try.pinned (OpenSpec.ofChange relayNilWrong)

/-- 'slackwaterlaw16.RelayBytes': WHATEVER THE INPUT: true; the input reads as it did. -/
def relayBytesSpec : ChangeSpec := { name := "relayBytes", fn := fun _ => fun
  | [d1, d2] => { results := [.lit (.bool true)], args := [d1, d2] }
  | _ => none }
def relayBytesRow : OpenClaim := { program := "ytjhcgnmibnjocaa", sum := "df37e34bdaf707cc4eeddd822da45f48e7e45e15fbe2b1f8e386c0440695fc8a", func := "slackwater/slackwaterlaw16.RelayBytes", spec := "relayBytes", unfollowed := true, recurses := true, apart := false }
def RelayBytesSaid : Prop := relayBytesRow.holds Try.pinned (OpenSpec.ofChange relayBytesSpec)

/-- ITS FALSE NEIGHBOUR: 'it returns false'. Refute it at one input. -/
def relayBytesWrong : ChangeSpec := { name := "relayBytes", fn := fun _ => fun
  | [d1, d2] => { results := [.lit (.bool false)], args := [d1, d2] }
  | _ => none }
def RelayBytesWrongFalsely : Prop := relayBytesRow.holds Try.pinned (OpenSpec.ofChange relayBytesWrong)

/-- 'slackwaterlaw16.RelayLoads': WHATEVER THE INPUT: true; the input reads as it did. -/
def relayLoadsSpec : ChangeSpec := { name := "relayLoads", fn := fun _ => fun
  | [d1, d2] => { results := [.lit (.bool true)], args := [d1, d2] }
  | _ => none }
def relayLoadsRow : OpenClaim := { program := "ytjhcgnmibnjocaa", sum := "df37e34bdaf707cc4eeddd822da45f48e7e45e15fbe2b1f8e386c0440695fc8a", func := "slackwater/slackwaterlaw16.RelayLoads", spec := "relayLoads", unfollowed := true, recurses := true, apart := false }
def RelayLoadsSaid : Prop := relayLoadsRow.holds Try.pinned (OpenSpec.ofChange relayLoadsSpec)

/-- ITS FALSE NEIGHBOUR: 'it returns false'. Refute it at one input. -/
def relayLoadsWrong : ChangeSpec := { name := "relayLoads", fn := fun _ => fun
  | [d1, d2] => { results := [.lit (.bool false)], args := [d1, d2] }
  | _ => none }
def RelayLoadsWrongFalsely : Prop := relayLoadsRow.holds Try.pinned (OpenSpec.ofChange relayLoadsWrong)

/-- 'slackwaterlaw16.RelayAgrees': WHATEVER THE INPUT: true; the input reads as it did. -/
def relayAgreesSpec : ChangeSpec := { name := "relayAgrees", fn := fun _ => fun
  | [d] => { results := [.lit (.bool true)], args := [d] }
  | _ => none }
def relayAgreesRow : OpenClaim := { program := "ytjhcgnmibnjocaa", sum := "df37e34bdaf707cc4eeddd822da45f48e7e45e15fbe2b1f8e386c0440695fc8a", func := "slackwater/slackwaterlaw16.RelayAgrees", spec := "relayAgrees", unfollowed := true, recurses := true, apart := false }
def RelayAgreesSaid : Prop := relayAgreesRow.holds Try.pinned (OpenSpec.ofChange relayAgreesSpec)

/-- ITS FALSE NEIGHBOUR: 'it returns false'. Refute it at one input. -/
def relayAgreesWrong : ChangeSpec := { name := "relayAgrees", fn := fun _ => fun
  | [d] => { results := [.lit (.bool false)], args := [d] }
  | _ => none }
def RelayAgreesWrongFalsely : Prop := relayAgreesRow.holds Try.pinned (OpenSpec.ofChange relayAgreesWrong)

/-- 'slackwaterlaw16.RelayStands': WHATEVER THE INPUT: true; the input reads as it did. -/
def relayStandsSpec : ChangeSpec := { name := "relayStands", fn := fun _ => fun
  | [d] => { results := [.lit (.bool true)], args := [d] }
  | _ => none }
def relayStandsRow : OpenClaim := { program := "ytjhcgnmibnjocaa", sum := "df37e34bdaf707cc4eeddd822da45f48e7e45e15fbe2b1f8e386c0440695fc8a", func := "slackwater/slackwaterlaw16.RelayStands", spec := "relayStands", unfollowed := true, recurses := true, apart := false }
def RelayStandsSaid : Prop := relayStandsRow.holds Try.pinned (OpenSpec.ofChange relayStandsSpec)

/-- ITS FALSE NEIGHBOUR: 'it returns false'. Refute it at one input. -/
def relayStandsWrong : ChangeSpec := { name := "relayStands", fn := fun _ => fun
  | [d] => { results := [.lit (.bool false)], args := [d] }
  | _ => none }
def RelayStandsWrongFalsely : Prop := relayStandsRow.holds Try.pinned (OpenSpec.ofChange relayStandsWrong)

/- THE SECOND FORM. 'bulk': how many values and letters a reading holds, each counted each time it is reached (what is shared counts as often as it is met; a slice's spare places count too). A statement '..UptoSaid' is the law's where the arguments, and the package variables that the reading takes, are together of bulk at most 1048576: NARROWER than '..Said'. Prove '..Said' where nothing that the law and all that it calls make is longer than what came in: it says more and counts as full. Else prove '..UptoSaid'. A law counts once. -/
mutual
def uptoBulk {H : Type} : DataW H → Nat
  | .lit (.string bytes) => bytes.length + 1
  | .lit _ => 1
  | .nil => 1
  | .ptr d => uptoBulk d + 1
  | .slice elems spare => uptoBulkAll elems + uptoBulkAll spare + 1
  | .agg parts => uptoBulkAll parts + 1
  | .iface _ d => uptoBulk d + 1
  | .map entries => uptoBulkEntries entries + 1
  | .held _ => 1
def uptoBulkAll {H : Type} : List (DataW H) → Nat
  | [] => 0
  | d :: r => uptoBulk d + uptoBulkAll r
def uptoBulkEntries {H : Type} : List (Lit × DataW H) → Nat
  | [] => 0
  | x :: r => uptoBulkEntry x + uptoBulkEntries r
def uptoBulkEntry {H : Type} : Lit × DataW H → Nat
  | (.string bytes, d) => bytes.length + uptoBulk d + 1
  | (_, d) => uptoBulk d + 1
 end
def uptoSmall : (H : Type) → List (DataW H) → Bool := fun _ ds => decide (uptoBulkAll ds ≤ 1048576)
def OpenSpec.upto (s : _root_.Go.ChangeSpec) : _root_.Go.OpenSpec := { _root_.Go.OpenSpec.ofChange s with cond := some uptoSmall }

/-- 'slackwaterlaw16.RelayRises', WHERE WHAT IT READS IS OF BULK AT MOST 1048576: true; the input reads as it did. -/
def relayRisesUptoRow : OpenClaim := { program := "ytjhcgnmibnjocaa", sum := "df37e34bdaf707cc4eeddd822da45f48e7e45e15fbe2b1f8e386c0440695fc8a", func := "slackwater/slackwaterlaw16.RelayRises", spec := "relayRises", unfollowed := true, recurses := true, apart := false, narrowed := true }
def RelayRisesUptoSaid : Prop := relayRisesUptoRow.holds Try.pinned (OpenSpec.upto relayRisesSpec)

/-- 'slackwaterlaw16.RelayNil', WHERE WHAT IT READS IS OF BULK AT MOST 1048576: true; the input reads as it did. -/
def relayNilUptoRow : OpenClaim := { program := "ytjhcgnmibnjocaa", sum := "df37e34bdaf707cc4eeddd822da45f48e7e45e15fbe2b1f8e386c0440695fc8a", func := "slackwater/slackwaterlaw16.RelayNil", spec := "relayNil", unfollowed := true, recurses := true, apart := false, narrowed := true }
def RelayNilUptoSaid : Prop := relayNilUptoRow.holds Try.pinned (OpenSpec.upto relayNilSpec)

/-- 'slackwaterlaw16.RelayBytes', WHERE WHAT IT READS IS OF BULK AT MOST 1048576: true; the input reads as it did. -/
def relayBytesUptoRow : OpenClaim := { program := "ytjhcgnmibnjocaa", sum := "df37e34bdaf707cc4eeddd822da45f48e7e45e15fbe2b1f8e386c0440695fc8a", func := "slackwater/slackwaterlaw16.RelayBytes", spec := "relayBytes", unfollowed := true, recurses := true, apart := false, narrowed := true }
def RelayBytesUptoSaid : Prop := relayBytesUptoRow.holds Try.pinned (OpenSpec.upto relayBytesSpec)

/-- 'slackwaterlaw16.RelayLoads', WHERE WHAT IT READS IS OF BULK AT MOST 1048576: true; the input reads as it did. -/
def relayLoadsUptoRow : OpenClaim := { program := "ytjhcgnmibnjocaa", sum := "df37e34bdaf707cc4eeddd822da45f48e7e45e15fbe2b1f8e386c0440695fc8a", func := "slackwater/slackwaterlaw16.RelayLoads", spec := "relayLoads", unfollowed := true, recurses := true, apart := false, narrowed := true }
def RelayLoadsUptoSaid : Prop := relayLoadsUptoRow.holds Try.pinned (OpenSpec.upto relayLoadsSpec)

/-- 'slackwaterlaw16.RelayAgrees', WHERE WHAT IT READS IS OF BULK AT MOST 1048576: true; the input reads as it did. -/
def relayAgreesUptoRow : OpenClaim := { program := "ytjhcgnmibnjocaa", sum := "df37e34bdaf707cc4eeddd822da45f48e7e45e15fbe2b1f8e386c0440695fc8a", func := "slackwater/slackwaterlaw16.RelayAgrees", spec := "relayAgrees", unfollowed := true, recurses := true, apart := false, narrowed := true }
def RelayAgreesUptoSaid : Prop := relayAgreesUptoRow.holds Try.pinned (OpenSpec.upto relayAgreesSpec)

/-- 'slackwaterlaw16.RelayStands', WHERE WHAT IT READS IS OF BULK AT MOST 1048576: true; the input reads as it did. -/
def relayStandsUptoRow : OpenClaim := { program := "ytjhcgnmibnjocaa", sum := "df37e34bdaf707cc4eeddd822da45f48e7e45e15fbe2b1f8e386c0440695fc8a", func := "slackwater/slackwaterlaw16.RelayStands", spec := "relayStands", unfollowed := true, recurses := true, apart := false, narrowed := true }
def RelayStandsUptoSaid : Prop := relayStandsUptoRow.holds Try.pinned (OpenSpec.upto relayStandsSpec)

end Rows
end Go.Proofs.Ytjhcgnmibnjocaa
