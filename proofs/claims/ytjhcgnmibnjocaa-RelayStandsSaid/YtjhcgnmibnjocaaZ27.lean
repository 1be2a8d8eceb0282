import Derived.Test.YtjhcgnmibnjocaaZ26
/-! RelayStands holds. -/
namespace Go.Proofs.Ytjhcgnmibnjocaa
open Go.RowKit Go.Maps
set_option linter.unusedVariables false
set_option linter.unusedSimpArgs false
section
open Go.ChangeShapes Go.WideShapes Go.ChangeAt
variable {H : Type} {enc : TypeId × Value → H}
set_option maxRecDepth 100000 in
theorem relayStands_walk : LawWalkS enc Try.prog 8 Try.f8 := by
  intro W base args ds ps hval hA hlt _ hs
  rw [Try.params8] at hA hval hs
  obtain ⟨v0, d0, rfl, rfl, h0⟩ := trodAll_one hA
  obtain ⟨A, n, c, l, rfl, h1, h2, hR, hl, hok⟩ := racts_open (hval 0 _ v0 rfl rfl) h0 (weights_at hs (j := 0) rfl rfl)
  exact law_relayStands A n c l W hR hok hl (by unfold maxLen at h2; omega)
set_option maxRecDepth 100000 in
theorem relayStands_lifted (os : Os) (started : os.Started) (H : Type) (enc : TypeId × Value → H) :
    ReturnsInHanded {} Try.checked os 8 .any (Rows.relayStandsSpec.pre6 enc Try.prog Try.f8 Rows.relayStandsRow.domain false) (Rows.relayStandsSpec.post enc Try.prog Try.f8 false true false false) :=
  law_lifted_sized (C := Try.checked) own started (by kernel_rfl) Try.func8 laidOut (by kernel_rfl) rfl Try.underlying4 rfl rfl
    (fun ds h => by obtain ⟨d0, rfl⟩ := list1 h; rfl)
    (ChangeSpec.witness6 (enc := enc) (C := Try.checked) false ⟨#[], #[.slice none 0 0], []⟩ 8 (by kernel_rfl) (by kernel_rfl) (by kernel_rfl) (by kernel_rfl))
    relayStands_walk
theorem relayStands_holds : Rows.RelayStandsSaid :=
  OpenClaim.holds_of_wide 8 Try.f8 rfl rfl rfl rfl rfl rfl rfl ⟨rfl, rfl, rfl, rfl, rfl⟩ rfl rfl rfl rfl rfl (by kernel_rfl) Try.func8 (by kernel_rfl)
    (of_decide_eq_true (by kernel_rfl)) (by unfold Func.isWrapper; rw [if_neg (of_decide_eq_false (by kernel_rfl))]; exact ⟨rfl, rfl⟩)
    (fun os started H enc _ => relayStands_lifted os started H enc)
#print axioms relayStands_holds
end
end Go.Proofs.Ytjhcgnmibnjocaa
