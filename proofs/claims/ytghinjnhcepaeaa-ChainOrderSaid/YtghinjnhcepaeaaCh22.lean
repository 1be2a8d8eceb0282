import Derived.Test.YtghinjnhcepaeaaCh21
/-! The law: what stands at a stamp is the last version that was put at it or ahead of it, unless that is Gone. -/
namespace Go.Proofs.Ytghinjnhcepaeaa
open Go.RowKit
set_option linter.unusedVariables false
set_option linter.unusedSimpArgs false
section
open Go.ChangeShapes Go.WideShapes Go.ChangeAt Go.Joins
variable {H : Type} {enc : TypeId × Value → H}
set_option maxRecDepth 100000 in
theorem chainModel_walk : LawWalk enc Try.prog 7 Try.f7 := by
  intro W base args ds ps hval hA hlt _
  rw [Try.params7] at hA hval
  obtain ⟨v0, v1, d0, d1, p0, p1, rfl, rfl, rfl, h0, h1⟩ := trodAll_two hA
  obtain ⟨A, n, c, l, rfl, hnc, hcm, hr, hok⟩ := vers_open (hval 0 _ v0 rfl rfl) h0
  obtain ⟨a, b, c', rfl, ha, hb, hc⟩ := stamp_open (hval 1 _ v1 rfl rfl) h1
  exact law_model A n c l ⟨a, b, c', 0, 0, ⟨#[]⟩⟩ W hr (by unfold maxLen at hcm; omega) hok ⟨ha, hb, hc, ⟨by simp only; omega, by simp only; omega⟩, ⟨by simp only; omega, by simp only; omega⟩, Nat.zero_le _⟩
set_option maxRecDepth 100000 in
theorem chainModel_lifted (os : Os) (started : os.Started) (H : Type) (enc : TypeId × Value → H) :
    ReturnsInHanded {} Try.checked os 7 .any (Rows.chainModelSpec.pre6 enc Try.prog Try.f7 Rows.chainModelRow.domain false) (Rows.chainModelSpec.post enc Try.prog Try.f7 false true false false) :=
  law_lifted (C := Try.checked) own started (by kernel_rfl) Try.func7 laidOut (by kernel_rfl) rfl Try.underlying4 rfl
    (fun ds h => by obtain ⟨d0, d1, rfl⟩ := list2 h; rfl)
    (ChangeSpec.witness6 (enc := enc) (C := Try.checked) false ⟨#[], #[.slice none 0 0, .agg #[.int .i64 0, .int .u32 0, .int .u32 0]], []⟩ 8 (by kernel_rfl) (by kernel_rfl) (by kernel_rfl) (by kernel_rfl))
    chainModel_walk
theorem chainModel_holds : Rows.ChainModelSaid :=
  OpenClaim.holds_of_wide 7 Try.f7 rfl rfl rfl rfl rfl rfl rfl ⟨rfl, rfl, rfl, rfl, rfl⟩ rfl rfl rfl rfl rfl (by kernel_rfl) Try.func7 (by kernel_rfl)
    (of_decide_eq_true (by kernel_rfl)) (by unfold Func.isWrapper; rw [if_neg (of_decide_eq_false (by kernel_rfl))]; exact ⟨rfl, rfl⟩)
    (fun os started H enc _ => chainModel_lifted os started H enc)
#print axioms chainModel_holds
end
end Go.Proofs.Ytghinjnhcepaeaa
