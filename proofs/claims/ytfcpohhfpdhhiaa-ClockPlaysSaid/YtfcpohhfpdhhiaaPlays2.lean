import Derived.Test.YtfcpohhfpdhhiaaPlays
/-! Step by step a clock answers as the document's does: the law. -/
namespace Go.Proofs.Ytfcpohhfpdhhiaa
open Go.RowKit
section
open Go.ChangeShapes Go.WideShapes Go.ChangeAt
variable {H : Type} {enc : TypeId × Value → H}
set_option maxRecDepth 100000 in
theorem clockPlays_walk : LawWalk enc Try.prog 5 Try.f5 := by
  intro W base args ds ps hval hA hlt _
  rw [Try.params5] at hA hval
  obtain ⟨v0, v1, v2, v3, d0, d1, d2, d3, p0, p1, p2, p3, rfl, rfl, rfl, h0, h1, h2, h3⟩ := trodAll_four hA
  obtain ⟨a, rfl, _, _, ha⟩ := open_int Try.underlying2 (hval 0 _ v0 rfl rfl) h0
  obtain ⟨b, rfl, _, _, hb⟩ := open_int Try.underlying2 (hval 1 _ v1 rfl rfl) h1
  obtain ⟨m, rfl, _, _, hm⟩ := open_int Try.underlying22 (hval 2 _ v2 rfl rfl) h2
  simp [Lit.wf, IntKind.min, IntKind.max, IntKind.signed, IntKind.bits] at hm
  obtain ⟨A, n, c, l, rfl, hnc, hcm, hr, hok⟩ := ops_open (hval 3 _ v3 rfl rfl) h3
  exact law_plays a b m A n c l W hm hr hok (by unfold maxLen at hcm; omega)
set_option maxRecDepth 100000 in
theorem clockPlays_lifted (os : Os) (started : os.Started) (H : Type) (enc : TypeId × Value → H) :
    ReturnsInHanded {} Try.checked os 5 .any (Rows.clockPlaysSpec.pre6 enc Try.prog Try.f5 Rows.clockPlaysRow.domain false) (Rows.clockPlaysSpec.post enc Try.prog Try.f5 false true false false) :=
  law_lifted (C := Try.checked) own started (by kernel_rfl) Try.func5 laidOut (by kernel_rfl) rfl Try.underlying4 rfl
    (fun ds h => by obtain ⟨d0, d1, d2, d3, rfl⟩ := list4 h; rfl)
    (ChangeSpec.witness6 (enc := enc) (C := Try.checked) false ⟨#[], #[.int .i64 0, .int .i64 0, .int .u32 0, .slice none 0 0], []⟩ 8 (by kernel_rfl) (by kernel_rfl) (by kernel_rfl) (by kernel_rfl))
    clockPlays_walk
theorem clockPlays_holds : Rows.ClockPlaysSaid :=
  OpenClaim.holds_of_wide 5 Try.f5 rfl rfl rfl rfl rfl rfl rfl ⟨rfl, rfl, rfl, rfl, rfl⟩ rfl rfl rfl rfl rfl (by kernel_rfl) Try.func5 (by kernel_rfl)
    (of_decide_eq_true (by kernel_rfl)) (by unfold Func.isWrapper; rw [if_neg (of_decide_eq_false (by kernel_rfl))]; exact ⟨rfl, rfl⟩)
    (fun os started H enc _ => clockPlays_lifted os started H enc)
#print axioms clockPlays_holds
end
end Go.Proofs.Ytfcpohhfpdhhiaa
