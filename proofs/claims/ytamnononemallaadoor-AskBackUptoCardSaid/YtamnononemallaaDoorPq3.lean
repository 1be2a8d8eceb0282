import Derived.Test.YtamnononemallaaDoorGD
/-! The rules with which a text begins: the document's Parse. -/
namespace Go.Proofs.YtamnononemallaaDoor
open Go.RowKit
set_option linter.unusedVariables false
set_option linter.unusedSimpArgs false
theorem stB_one (l : List UInt8) (n : Nat) (c : UInt8) : stB l n [c] = decide (l[n]? = some c) := by
  unfold stB
  by_cases h : n < l.length
  · have e : l.drop n = l[n] :: l.drop (n + 1) := List.drop_eq_getElem_cons h
    rw [decide_eq_true (by simp; omega), e, List.getElem?_eq_getElem h]
    rw [Bool.eq_iff_iff]
    simp [List.isPrefixOf]
    exact eq_comm
  · rw [decide_eq_false (by simp; omega), List.getElem?_eq_none (by omega)]
    simp
theorem sgnD_up (k : Nat) (l : List UInt8) : sgnD (k + 1) l = if (sgB (k + 1)).isPrefixOf l = true then k + 1 else sgnD k l := rfl
end Go.Proofs.YtamnononemallaaDoor
