import Derived.Test.YtjhcgnmibnjocaaGreatGD
/-! A relay's epoch and what is sure never fall. -/
namespace Go.Proofs.YtjhcgnmibnjocaaGreat
open Go.RowKit
set_option linter.unusedVariables false
set_option linter.unusedSimpArgs false
end Go.Proofs.YtjhcgnmibnjocaaGreat
