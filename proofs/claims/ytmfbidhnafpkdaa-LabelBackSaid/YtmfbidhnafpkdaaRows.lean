/-
  No cell of these rows narrows 'for every input' (looked for: loops, veiled, ifaces, maps, wideKeys, modest, calm, conditions, laid).
  DERIVED. THE GIVEN ROWS OF THIS SEAT. 7 by the template 'for every input the law returns true; each argument reads behind the call as it read before'; 0 by the template 'total and deterministic' (their statements: YtmfbidhnafpkdaaTotals.lean).
  GIVEN WITH THE SEED: the statements are not yours to turn. If you find one false, say at which input.
  Laid BY PROGRAM, IN A SANDBOX (cutbox-rows.mjs): the forced cells as the released guide's own fill.sh prints them over the translation 356c43f62f60fdaa… (all of the seat's roots in one cut). By AI agents, Wed Nov 11 2026. No macro, syntax, notation, axiom, sorry.
-/
import Derived.Test.YtmfbidhnafpkdaaChecked
import GoSem.Claim
import GoSem.ClaimJoined
import GoSem.ClaimMapViews
import Derived.JoinedTies
import Derived.KernelRfl
namespace Go.Proofs.Ytmfbidhnafpkdaa
/- THE CELL 'sum', in the pinned program and in every row, IS THE sha256 OF THE DUMP (.gsa) THAT YtmfbidhnafpkdaaProg.lean LOADS. Nothing in Lean hashes anything: it is a label: what it is worth is what the hold of that sum in a sandbox is worth. -/
noncomputable def Try.pinned : Pinned := { name := "ytmfbidhnafpkdaa", sum := "356c43f62f60fdaa8fdbd04deaec863790380c6640a299eb33501735e83c9629", checked := Try.checked }
namespace Rows
def none {H : Type} : Left H := { results := [], args := [] }

/-- 'slackwaterlaw05.LabelWords': WHATEVER THE INPUT: true; the input reads as it did. -/
def labelWordsSpec : ChangeSpec := { name := "labelWords", fn := fun _ => fun
  | [d] => { results := [.lit (.bool true)], args := [d] }
  | _ => none }
def labelWordsRow : OpenClaim := { program := "ytmfbidhnafpkdaa", sum := "356c43f62f60fdaa8fdbd04deaec863790380c6640a299eb33501735e83c9629", func := "slackwater/slackwaterlaw05.LabelWords", spec := "labelWords", inPlace := ["internal/bytealg.abigen_runtime_cmpstring", "internal/abi.NoEscape", "internal/bytealg.MakeNoZero"], unfollowed := true, recurses := true, apart := false }
def LabelWordsSaid : Prop := labelWordsRow.holds Try.pinned (OpenSpec.ofChange labelWordsSpec)

/-- ITS FALSE NEIGHBOUR: 'it returns false'. Refute it at one input. -/
def labelWordsWrong : ChangeSpec := { name := "labelWords", fn := fun _ => fun
  | [d] => { results := [.lit (.bool false)], args := [d] }
  | _ => none }
def LabelWordsWrongFalsely : Prop := labelWordsRow.holds Try.pinned (OpenSpec.ofChange labelWordsWrong)

/-- 'slackwaterlaw05.LabelMakes': WHATEVER THE INPUT: true; the input reads as it did. -/
def labelMakesSpec : ChangeSpec := { name := "labelMakes", fn := fun _ => fun
  | [d1, d2] => { results := [.lit (.bool true)], args := [d1, d2] }
  | _ => none }
def labelMakesRow : OpenClaim := { program := "ytmfbidhnafpkdaa", sum := "356c43f62f60fdaa8fdbd04deaec863790380c6640a299eb33501735e83c9629", func := "slackwater/slackwaterlaw05.LabelMakes", spec := "labelMakes", inPlace := ["internal/bytealg.abigen_runtime_cmpstring", "internal/abi.NoEscape", "internal/bytealg.MakeNoZero"], unfollowed := true, recurses := true, apart := false }
def LabelMakesSaid : Prop := labelMakesRow.holds Try.pinned (OpenSpec.ofChange labelMakesSpec)

/-- ITS FALSE NEIGHBOUR: 'it returns false'. Refute it at one input. -/
def labelMakesWrong : ChangeSpec := { name := "labelMakes", fn := fun _ => fun
  | [d1, d2] => { results := [.lit (.bool false)], args := [d1, d2] }
  | _ => none }
def LabelMakesWrongFalsely : Prop := labelMakesRow.holds Try.pinned (OpenSpec.ofChange labelMakesWrong)

/-- 'slackwaterlaw05.LabelQuotes': WHATEVER THE INPUT: true; the input reads as it did. -/
def labelQuotesSpec : ChangeSpec := { name := "labelQuotes", fn := fun _ => fun
  | [d1, d2] => { results := [.lit (.bool true)], args := [d1, d2] }
  | _ => none }
def labelQuotesRow : OpenClaim := { program := "ytmfbidhnafpkdaa", sum := "356c43f62f60fdaa8fdbd04deaec863790380c6640a299eb33501735e83c9629", func := "slackwater/slackwaterlaw05.LabelQuotes", spec := "labelQuotes", inPlace := ["internal/abi.NoEscape", "internal/bytealg.abigen_runtime_cmpstring", "internal/bytealg.MakeNoZero"], unfollowed := true, recurses := true, apart := false }
def LabelQuotesSaid : Prop := labelQuotesRow.holds Try.pinned (OpenSpec.ofChange labelQuotesSpec)

/-- ITS FALSE NEIGHBOUR: 'it returns false'. Refute it at one input. -/
def labelQuotesWrong : ChangeSpec := { name := "labelQuotes", fn := fun _ => fun
  | [d1, d2] => { results := [.lit (.bool false)], args := [d1, d2] }
  | _ => none }
def LabelQuotesWrongFalsely : Prop := labelQuotesRow.holds Try.pinned (OpenSpec.ofChange labelQuotesWrong)

/-- 'slackwaterlaw05.LabelOrders': WHATEVER THE INPUT: true; the input reads as it did. -/
def labelOrdersSpec : ChangeSpec := { name := "labelOrders", fn := fun _ => fun
  | [d1, d2, d3] => { results := [.lit (.bool true)], args := [d1, d2, d3] }
  | _ => none }
def labelOrdersRow : OpenClaim := { program := "ytmfbidhnafpkdaa", sum := "356c43f62f60fdaa8fdbd04deaec863790380c6640a299eb33501735e83c9629", func := "slackwater/slackwaterlaw05.LabelOrders", spec := "labelOrders", inPlace := ["internal/bytealg.abigen_runtime_cmpstring", "internal/abi.NoEscape", "internal/bytealg.MakeNoZero"], unfollowed := true, recurses := true, apart := false }
def LabelOrdersSaid : Prop := labelOrdersRow.holds Try.pinned (OpenSpec.ofChange labelOrdersSpec)

/-- ITS FALSE NEIGHBOUR: 'it returns false'. Refute it at one input. -/
def labelOrdersWrong : ChangeSpec := { name := "labelOrders", fn := fun _ => fun
  | [d1, d2, d3] => { results := [.lit (.bool false)], args := [d1, d2, d3] }
  | _ => none }
def LabelOrdersWrongFalsely : Prop := labelOrdersRow.holds Try.pinned (OpenSpec.ofChange labelOrdersWrong)

/-- 'slackwaterlaw05.LabelSorts': WHATEVER THE INPUT: true; the input reads as it did. -/
def labelSortsSpec : ChangeSpec := { name := "labelSorts", fn := fun _ => fun
  | [d1, d2] => { results := [.lit (.bool true)], args := [d1, d2] }
  | _ => none }
def labelSortsRow : OpenClaim := { program := "ytmfbidhnafpkdaa", sum := "356c43f62f60fdaa8fdbd04deaec863790380c6640a299eb33501735e83c9629", func := "slackwater/slackwaterlaw05.LabelSorts", spec := "labelSorts", inPlace := ["internal/bytealg.abigen_runtime_cmpstring", "internal/abi.NoEscape", "internal/bytealg.MakeNoZero"], unfollowed := true, recurses := true, apart := false }
def LabelSortsSaid : Prop := labelSortsRow.holds Try.pinned (OpenSpec.ofChange labelSortsSpec)

/-- ITS FALSE NEIGHBOUR: 'it returns false'. Refute it at one input. -/
def labelSortsWrong : ChangeSpec := { name := "labelSorts", fn := fun _ => fun
  | [d1, d2] => { results := [.lit (.bool false)], args := [d1, d2] }
  | _ => none }
def LabelSortsWrongFalsely : Prop := labelSortsRow.holds Try.pinned (OpenSpec.ofChange labelSortsWrong)

/-- 'slackwaterlaw05.LabelTexts': WHATEVER THE INPUT: true; the input reads as it did. -/
def labelTextsSpec : ChangeSpec := { name := "labelTexts", fn := fun _ => fun
  | [d1, d2] => { results := [.lit (.bool true)], args := [d1, d2] }
  | _ => none }
def labelTextsRow : OpenClaim := { program := "ytmfbidhnafpkdaa", sum := "356c43f62f60fdaa8fdbd04deaec863790380c6640a299eb33501735e83c9629", func := "slackwater/slackwaterlaw05.LabelTexts", spec := "labelTexts", inPlace := ["internal/bytealg.IndexByteString", "internal/bytealg.IndexString", "internal/abi.NoEscape", "internal/bytealg.MakeNoZero", "internal/bytealg.abigen_runtime_cmpstring"], unfollowed := true, recurses := true, named := ["internal/bytealg.MaxLen"], apart := false }
def LabelTextsSaid : Prop := labelTextsRow.holds Try.pinned (OpenSpec.ofChange labelTextsSpec)

/-- ITS FALSE NEIGHBOUR: 'it returns false'. Refute it at one input. -/
def labelTextsWrong : ChangeSpec := { name := "labelTexts", fn := fun _ => fun
  | [d1, d2] => { results := [.lit (.bool false)], args := [d1, d2] }
  | _ => none }
def LabelTextsWrongFalsely : Prop := labelTextsRow.holds Try.pinned (OpenSpec.ofChange labelTextsWrong)

/-- 'slackwaterlaw05.LabelBack': WHATEVER THE INPUT: true; the input reads as it did. -/
def labelBackSpec : ChangeSpec := { name := "labelBack", fn := fun _ => fun
  | [d1, d2] => { results := [.lit (.bool true)], args := [d1, d2] }
  | _ => none }
def labelBackRow : OpenClaim := { program := "ytmfbidhnafpkdaa", sum := "356c43f62f60fdaa8fdbd04deaec863790380c6640a299eb33501735e83c9629", func := "slackwater/slackwaterlaw05.LabelBack", spec := "labelBack", inPlace := ["internal/bytealg.abigen_runtime_cmpstring", "internal/abi.NoEscape", "internal/bytealg.MakeNoZero", "internal/bytealg.IndexByteString", "internal/bytealg.IndexString"], unfollowed := true, recurses := true, named := ["internal/bytealg.MaxLen"], apart := false }
def LabelBackSaid : Prop := labelBackRow.holds Try.pinned (OpenSpec.ofChange labelBackSpec)

/-- ITS FALSE NEIGHBOUR: 'it returns false'. Refute it at one input. -/
def labelBackWrong : ChangeSpec := { name := "labelBack", fn := fun _ => fun
  | [d1, d2] => { results := [.lit (.bool false)], args := [d1, d2] }
  | _ => none }
def LabelBackWrongFalsely : Prop := labelBackRow.holds Try.pinned (OpenSpec.ofChange labelBackWrong)

/- THE SECOND FORM. 'bulk': how many values and letters a reading holds, each counted each time it is reached (what is shared counts as often as it is met; a slice's spare places count too). A statement '..UptoSaid' is the law's where the arguments, and the package variables that the reading takes, are together of bulk at most 1048576: NARROWER than '..Said'. Prove '..Said' where nothing that the law and all that it calls make is longer than what came in: it says more and counts as full. Else prove '..UptoSaid'. A law counts once. -/
mutual
def uptoBulk {H : Type} : DataW H → Nat
  | .lit (.string bytes) => bytes.length + 1
  | .lit _ => 1
  | .nil => 1
  | .ptr d => uptoBulk d + 1
  | .slice elems spare => uptoBulkAll elems + uptoBulkAll spare + 1
  | .agg parts => uptoBulkAll parts + 1
  | .iface _ d => uptoBulk d + 1
  | .map entries => uptoBulkEntries entries + 1
  | .held _ => 1
def uptoBulkAll {H : Type} : List (DataW H) → Nat
  | [] => 0
  | d :: r => uptoBulk d + uptoBulkAll r
def uptoBulkEntries {H : Type} : List (Lit × DataW H) → Nat
  | [] => 0
  | x :: r => uptoBulkEntry x + uptoBulkEntries r
def uptoBulkEntry {H : Type} : Lit × DataW H → Nat
  | (.string bytes, d) => bytes.length + uptoBulk d + 1
  | (_, d) => uptoBulk d + 1
 end
def uptoSmall : (H : Type) → List (DataW H) → Bool := fun _ ds => decide (uptoBulkAll ds ≤ 1048576)
def OpenSpec.upto (s : _root_.Go.ChangeSpec) : _root_.Go.OpenSpec := { _root_.Go.OpenSpec.ofChange s with cond := some uptoSmall }

/-- 'slackwaterlaw05.LabelWords', WHERE WHAT IT READS IS OF BULK AT MOST 1048576: true; the input reads as it did. -/
def labelWordsUptoRow : OpenClaim := { program := "ytmfbidhnafpkdaa", sum := "356c43f62f60fdaa8fdbd04deaec863790380c6640a299eb33501735e83c9629", func := "slackwater/slackwaterlaw05.LabelWords", spec := "labelWords", inPlace := ["internal/bytealg.abigen_runtime_cmpstring", "internal/abi.NoEscape", "internal/bytealg.MakeNoZero"], unfollowed := true, recurses := true, apart := false, narrowed := true }
def LabelWordsUptoSaid : Prop := labelWordsUptoRow.holds Try.pinned (OpenSpec.upto labelWordsSpec)

/-- 'slackwaterlaw05.LabelMakes', WHERE WHAT IT READS IS OF BULK AT MOST 1048576: true; the input reads as it did. -/
def labelMakesUptoRow : OpenClaim := { program := "ytmfbidhnafpkdaa", sum := "356c43f62f60fdaa8fdbd04deaec863790380c6640a299eb33501735e83c9629", func := "slackwater/slackwaterlaw05.LabelMakes", spec := "labelMakes", inPlace := ["internal/bytealg.abigen_runtime_cmpstring", "internal/abi.NoEscape", "internal/bytealg.MakeNoZero"], unfollowed := true, recurses := true, apart := false, narrowed := true }
def LabelMakesUptoSaid : Prop := labelMakesUptoRow.holds Try.pinned (OpenSpec.upto labelMakesSpec)

/-- 'slackwaterlaw05.LabelQuotes', WHERE WHAT IT READS IS OF BULK AT MOST 1048576: true; the input reads as it did. -/
def labelQuotesUptoRow : OpenClaim := { program := "ytmfbidhnafpkdaa", sum := "356c43f62f60fdaa8fdbd04deaec863790380c6640a299eb33501735e83c9629", func := "slackwater/slackwaterlaw05.LabelQuotes", spec := "labelQuotes", inPlace := ["internal/abi.NoEscape", "internal/bytealg.abigen_runtime_cmpstring", "internal/bytealg.MakeNoZero"], unfollowed := true, recurses := true, apart := false, narrowed := true }
def LabelQuotesUptoSaid : Prop := labelQuotesUptoRow.holds Try.pinned (OpenSpec.upto labelQuotesSpec)

/-- 'slackwaterlaw05.LabelOrders', WHERE WHAT IT READS IS OF BULK AT MOST 1048576: true; the input reads as it did. -/
def labelOrdersUptoRow : OpenClaim := { program := "ytmfbidhnafpkdaa", sum := "356c43f62f60fdaa8fdbd04deaec863790380c6640a299eb33501735e83c9629", func := "slackwater/slackwaterlaw05.LabelOrders", spec := "labelOrders", inPlace := ["internal/bytealg.abigen_runtime_cmpstring", "internal/abi.NoEscape", "internal/bytealg.MakeNoZero"], unfollowed := true, recurses := true, apart := false, narrowed := true }
def LabelOrdersUptoSaid : Prop := labelOrdersUptoRow.holds Try.pinned (OpenSpec.upto labelOrdersSpec)

/-- 'slackwaterlaw05.LabelSorts', WHERE WHAT IT READS IS OF BULK AT MOST 1048576: true; the input reads as it did. -/
def labelSortsUptoRow : OpenClaim := { program := "ytmfbidhnafpkdaa", sum := "356c43f62f60fdaa8fdbd04deaec863790380c6640a299eb33501735e83c9629", func := "slackwater/slackwaterlaw05.LabelSorts", spec := "labelSorts", inPlace := ["internal/bytealg.abigen_runtime_cmpstring", "internal/abi.NoEscape", "internal/bytealg.MakeNoZero"], unfollowed := true, recurses := true, apart := false, narrowed := true }
def LabelSortsUptoSaid : Prop := labelSortsUptoRow.holds Try.pinned (OpenSpec.upto labelSortsSpec)

/-- 'slackwaterlaw05.LabelTexts', WHERE WHAT IT READS IS OF BULK AT MOST 1048576: true; the input reads as it did. -/
def labelTextsUptoRow : OpenClaim := { program := "ytmfbidhnafpkdaa", sum := "356c43f62f60fdaa8fdbd04deaec863790380c6640a299eb33501735e83c9629", func := "slackwater/slackwaterlaw05.LabelTexts", spec := "labelTexts", inPlace := ["internal/bytealg.IndexByteString", "internal/bytealg.IndexString", "internal/abi.NoEscape", "internal/bytealg.MakeNoZero", "internal/bytealg.abigen_runtime_cmpstring"], unfollowed := true, recurses := true, named := ["internal/bytealg.MaxLen"], apart := false, narrowed := true }
def LabelTextsUptoSaid : Prop := labelTextsUptoRow.holds Try.pinned (OpenSpec.upto labelTextsSpec)

/-- 'slackwaterlaw05.LabelBack', WHERE WHAT IT READS IS OF BULK AT MOST 1048576: true; the input reads as it did. -/
def labelBackUptoRow : OpenClaim := { program := "ytmfbidhnafpkdaa", sum := "356c43f62f60fdaa8fdbd04deaec863790380c6640a299eb33501735e83c9629", func := "slackwater/slackwaterlaw05.LabelBack", spec := "labelBack", inPlace := ["internal/bytealg.abigen_runtime_cmpstring", "internal/abi.NoEscape", "internal/bytealg.MakeNoZero", "internal/bytealg.IndexByteString", "internal/bytealg.IndexString"], unfollowed := true, recurses := true, named := ["internal/bytealg.MaxLen"], apart := false, narrowed := true }
def LabelBackUptoSaid : Prop := labelBackUptoRow.holds Try.pinned (OpenSpec.upto labelBackSpec)

end Rows
end Go.Proofs.Ytmfbidhnafpkdaa
