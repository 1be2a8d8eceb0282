import Derived.Test.YtmfbidhnafpkdaaKit
import Derived.Test.YtmfbidhnafpkdaaRows
/-! Two facts on the program that each law's lift wants. -/
namespace Go.Proofs.Ytmfbidhnafpkdaa
set_option linter.unusedVariables false
theorem own : ownKnob Try.checked.prog.godebug = none := rfl
set_option maxRecDepth 100000 in
theorem laidOut : laidOutB Try.prog = true := by kernel_rfl
end Go.Proofs.Ytmfbidhnafpkdaa
