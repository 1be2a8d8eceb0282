import Derived.Test.YtjhcgnmibnjocaaGreatW18
/-! Step by step a relay's answers, its records, its messages and its state are the document's, whatever messages come. -/
namespace Go.Proofs.YtjhcgnmibnjocaaGreat
open Go.RowKit Go.Maps
set_option linter.unusedVariables false
set_option linter.unusedSimpArgs false
section
open Go.ChangeShapes Go.WideShapes Go.ChangeAt
variable {H : Type} {enc : TypeId × Value → H}
set_option maxRecDepth 100000 in
theorem relayPlays_walk : LawWalkS enc Tryz.prog 3 Tryz.f3 := by
 intro W base args ds ps hval hA hlt _ hs
 rw [Tryz.params3] at hA hval hs
 obtain ⟨v0, v1, d0, d1, p0, p1, rfl, rfl, rfl, h0, h1⟩ := trodAll_two hA
 obtain ⟨a, rfl, _, _, ha⟩ := open_int Tryz.underlying3 (hval 0 _ v0 rfl rfl) h0
 simp [Lit.wf, IntKind.min, IntKind.max, IntKind.signed, IntKind.bits] at ha
 obtain ⟨A, n, c, l, rfl, hnc, hcm, hr, hl, hok⟩ := rops_openC (hval 1 _ v1 rfl rfl) h1 (weights_at hs (j := 1) rfl rfl)
 exact law_relayPlays a A n c l W ha hr hok hl (by unfold maxLen at hcm; omega)
set_option maxRecDepth 100000 in
theorem relayPlays_lifted (os : Os) (started : os.Started) (H : Type) (enc : TypeId × Value → H) :
  ReturnsInHanded {} Tryz.checked os 3 .any (Rows.relayPlaysSpec.pre6 enc Tryz.prog Tryz.f3 Rows.relayPlaysRow.domain false) (Rows.relayPlaysSpec.post enc Tryz.prog Tryz.f3 false true false false) :=
 law_lifted_sized (C := Tryz.checked) own started (by kernel_rfl) Tryz.func3 laidOut (by kernel_rfl) rfl Tryz.underlying4 rfl rfl
  (fun ds h => by obtain ⟨d0, d1, rfl⟩ := list2 h; rfl)
  (ChangeSpec.witness6 (enc := enc) (C := Tryz.checked) false ⟨#[], #[.int .i64 0, .slice none 0 0], []⟩ 8 (by kernel_rfl) (by kernel_rfl) (by kernel_rfl) (by kernel_rfl))
  relayPlays_walk
theorem relayPlays_holds : Rows.RelayPlaysSaid :=
 OpenClaim.holds_of_wide 3 Tryz.f3 rfl rfl rfl rfl rfl rfl rfl ⟨rfl, rfl, rfl, rfl, rfl⟩ rfl rfl rfl rfl rfl (by kernel_rfl) Tryz.func3 (by kernel_rfl)
  (of_decide_eq_true (by kernel_rfl)) (by unfold Func.isWrapper; rw [if_neg (of_decide_eq_false (by kernel_rfl))]; exact ⟨rfl, rfl⟩)
  (fun os started H enc _ => relayPlays_lifted os started H enc)
#print axioms relayPlays_holds
end
end Go.Proofs.YtjhcgnmibnjocaaGreat
