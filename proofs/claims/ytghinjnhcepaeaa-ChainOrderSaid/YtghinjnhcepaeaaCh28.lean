import Derived.Test.YtghinjnhcepaeaaCh27
/-! The law: the order in which versions are put turns nothing. -/
namespace Go.Proofs.Ytghinjnhcepaeaa
open Go.RowKit
set_option linter.unusedVariables false
set_option linter.unusedSimpArgs false
section
open Go.ChangeShapes Go.WideShapes Go.ChangeAt Go.Joins
variable {H : Type} {enc : TypeId × Value → H}
set_option maxRecDepth 100000 in
theorem chainOrder_walk : LawWalk enc Try.prog 5 Try.f5 := by
  intro W base args ds ps hval hA hlt _
  rw [Try.params5] at hA hval
  obtain ⟨v0, v1, d0, d1, p0, p1, rfl, rfl, rfl, h0, h1⟩ := trodAll_two hA
  obtain ⟨A, n, c, l, rfl, hnc, hcm, hr, hok⟩ := vers_open (hval 0 _ v0 rfl rfl) h0
  obtain ⟨A', n', c', ks, rfl, hnc', hcm', hr', hok', _⟩ := ints_open (hval 1 _ v1 rfl rfl) h1
  exact law_order A n c l A' n' c' ks W hr (by unfold maxLen at hcm; omega) hok hr' (by unfold maxLen at hcm'; omega) hok'
set_option maxRecDepth 100000 in
theorem chainOrder_lifted (os : Os) (started : os.Started) (H : Type) (enc : TypeId × Value → H) :
    ReturnsInHanded {} Try.checked os 5 .any (Rows.chainOrderSpec.pre6 enc Try.prog Try.f5 Rows.chainOrderRow.domain false) (Rows.chainOrderSpec.post enc Try.prog Try.f5 false true false false) :=
  law_lifted (C := Try.checked) own started (by kernel_rfl) Try.func5 laidOut (by kernel_rfl) rfl Try.underlying4 rfl
    (fun ds h => by obtain ⟨d0, d1, rfl⟩ := list2 h; rfl)
    (ChangeSpec.witness6 (enc := enc) (C := Try.checked) false ⟨#[], #[.slice none 0 0, .slice none 0 0], []⟩ 8 (by kernel_rfl) (by kernel_rfl) (by kernel_rfl) (by kernel_rfl))
    chainOrder_walk
theorem chainOrder_holds : Rows.ChainOrderSaid :=
  OpenClaim.holds_of_wide 5 Try.f5 rfl rfl rfl rfl rfl rfl rfl ⟨rfl, rfl, rfl, rfl, rfl⟩ rfl rfl rfl rfl rfl (by kernel_rfl) Try.func5 (by kernel_rfl)
    (of_decide_eq_true (by kernel_rfl)) (by unfold Func.isWrapper; rw [if_neg (of_decide_eq_false (by kernel_rfl))]; exact ⟨rfl, rfl⟩)
    (fun os started H enc _ => chainOrder_lifted os started H enc)
#print axioms chainOrder_holds
end
end Go.Proofs.Ytghinjnhcepaeaa
