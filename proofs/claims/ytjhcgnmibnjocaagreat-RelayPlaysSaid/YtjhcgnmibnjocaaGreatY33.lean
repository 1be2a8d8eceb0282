import Derived.Test.YtjhcgnmibnjocaaGreatY32
import Derived.Test.YtjhcgnmibnjocaaGreatY14
import Derived.Test.YtjhcgnmibnjocaaGreatY23
/-! The law: a relay's epoch and what is sure never fall. -/
namespace Go.Proofs.YtjhcgnmibnjocaaGreat
open Go.RowKit Go.Maps
set_option linter.unusedVariables false
set_option linter.unusedSimpArgs false
theorem light_true {m : Mg} (h : lightP m = true) : m.log.length ≤ 30 ∧ m.v.l.length ≤ 20 ∧ ∀ x ∈ m.log, x.t.length ≤ 200 := by
 unfold lightP at h
 simp only [Bool.and_eq_true, Bool.not_eq_true', decide_eq_false_iff_not, List.all_eq_true, decide_eq_true_eq] at h
 exact ⟨by omega, by omega, h.2⟩
end Go.Proofs.YtjhcgnmibnjocaaGreat
