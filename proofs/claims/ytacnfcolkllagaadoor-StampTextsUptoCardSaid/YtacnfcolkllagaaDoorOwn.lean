import Derived.Test.YtacnfcolkllagaaDoorKit
import Derived.Test.YtacnfcolkllagaaDoorRows
/-! Two facts on the program that each law's lift wants. -/
namespace Go.Proofs.YtacnfcolkllagaaDoor
set_option linter.unusedVariables false
theorem own : ownKnob Tryd.checked.prog.godebug = none := rfl
set_option maxRecDepth 100000 in
theorem laidOut : laidOutB Tryd.prog = true := by kernel_rfl
end Go.Proofs.YtacnfcolkllagaaDoor
