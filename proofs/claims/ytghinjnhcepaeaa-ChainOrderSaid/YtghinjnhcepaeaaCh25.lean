import Derived.Test.YtghinjnhcepaeaaCh24
/-! The law: from the stamp of a cut on nothing else is told. -/
namespace Go.Proofs.Ytghinjnhcepaeaa
open Go.RowKit
set_option linter.unusedVariables false
set_option linter.unusedSimpArgs false
section
open Go.ChangeShapes Go.WideShapes Go.ChangeAt Go.Joins
variable {H : Type} {enc : TypeId × Value → H}
theorem stV_ok {a b c : Int} (ha : I64 a) (hb : U32 b) (hc : U32 c) : Ver.ok ⟨a, b, c, 0, 0, ⟨#[]⟩⟩ := ⟨ha, hb, hc, ⟨by simp only; omega, by simp only; omega⟩, ⟨by simp only; omega, by simp only; omega⟩, Nat.zero_le _⟩
set_option maxRecDepth 100000 in
theorem chainCuts_walk : LawWalk enc Try.prog 6 Try.f6 := by
  intro W base args ds ps hval hA hlt _
  rw [Try.params6] at hA hval
  obtain ⟨v0, v1, v2, v3, d0, d1, d2, d3, p0, p1, p2, p3, rfl, rfl, rfl, h0, h1, h2, h3⟩ := trodAll_four hA
  obtain ⟨A, n, c, l, rfl, hnc, hcm, hr, hok⟩ := vers_open (hval 0 _ v0 rfl rfl) h0
  obtain ⟨A', n', c', m, rfl, hnc', hcm', hr', hok'⟩ := vers_open (hval 1 _ v1 rfl rfl) h1
  obtain ⟨a, b, e, rfl, ha, hb, hc⟩ := stamp_open (hval 2 _ v2 rfl rfl) h2
  obtain ⟨a', b', e', rfl, ha', hb', hc'⟩ := stamp_open (hval 3 _ v3 rfl rfl) h3
  exact law_cuts A n c l A' n' c' m ⟨a, b, e, 0, 0, ⟨#[]⟩⟩ ⟨a', b', e', 0, 0, ⟨#[]⟩⟩ W hr (by unfold maxLen at hcm; omega) hok hr' (by unfold maxLen at hcm'; omega) hok' (stV_ok ha hb hc) (stV_ok ha' hb' hc')
set_option maxRecDepth 100000 in
theorem chainCuts_lifted (os : Os) (started : os.Started) (H : Type) (enc : TypeId × Value → H) :
    ReturnsInHanded {} Try.checked os 6 .any (Rows.chainCutsSpec.pre6 enc Try.prog Try.f6 Rows.chainCutsRow.domain false) (Rows.chainCutsSpec.post enc Try.prog Try.f6 false true false false) :=
  law_lifted (C := Try.checked) own started (by kernel_rfl) Try.func6 laidOut (by kernel_rfl) rfl Try.underlying4 rfl
    (fun ds h => by obtain ⟨d0, d1, d2, d3, rfl⟩ := list4 h; rfl)
    (ChangeSpec.witness6 (enc := enc) (C := Try.checked) false ⟨#[], #[.slice none 0 0, .slice none 0 0, .agg #[.int .i64 0, .int .u32 0, .int .u32 0], .agg #[.int .i64 0, .int .u32 0, .int .u32 0]], []⟩ 8 (by kernel_rfl) (by kernel_rfl) (by kernel_rfl) (by kernel_rfl))
    chainCuts_walk
theorem chainCuts_holds : Rows.ChainCutsSaid :=
  OpenClaim.holds_of_wide 6 Try.f6 rfl rfl rfl rfl rfl rfl rfl ⟨rfl, rfl, rfl, rfl, rfl⟩ rfl rfl rfl rfl rfl (by kernel_rfl) Try.func6 (by kernel_rfl)
    (of_decide_eq_true (by kernel_rfl)) (by unfold Func.isWrapper; rw [if_neg (of_decide_eq_false (by kernel_rfl))]; exact ⟨rfl, rfl⟩)
    (fun os started H enc _ => chainCuts_lifted os started H enc)
#print axioms chainCuts_holds
end
end Go.Proofs.Ytghinjnhcepaeaa
