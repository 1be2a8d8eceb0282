import Derived.Test.YtmfbidhnafpkdaaRows
import Derived.Test.YtmfbidhnafpkdaaOwn
import Derived.Test.YtmfbidhnafpkdaaAw
import Derived.Test.YtmfbidhnafpkdaaRc
import Derived.Deep.Slices
import Derived.ChangeSame
/-! LabelWords: which texts are names, and which are values, is the document's answer. Of every text. -/
namespace Go.Proofs.Ytmfbidhnafpkdaa
open Go.RowKit
set_option linter.unusedVariables false
set_option linter.unusedSimpArgs false
set_option maxRecDepth 100000 in
set_option maxHeartbeats 4000000 in
theorem law_words (s : ByteArray) (hs : s.size ≤ maxLen) (w : World) :
    Calls Try.prog 3 #[.string s] w fun e w' => e = .returned (.bool true) ∧ Below w.heap.size w w' := by
  have h1 := fun w => pname_any s hs w
  have h2 := fun w => rname_any s hs w
  have h3 := fun w => pvalue_any s hs w
  have h4 := fun w => rvalue_any s hs w
  generalize nmB s = p at *
  generalize vlB s = q at *
  clear hs
  cases p <;> cases q
  all_goals
    go_enter Try.func3, Try.ntmps3
    go_wp2_with (first
      | (go_at_call 10; (with_reducible refine (lawake_any _).mono ?_); rintro e w1 ⟨rfl, hb1⟩)
      | (go_at_call 11; (with_reducible refine (h1 _).mono ?_); rintro e w2 ⟨rfl, rfl⟩)
      | (go_at_call 12; (with_reducible refine (h2 _).mono ?_); rintro e w3 ⟨rfl, rfl⟩)
      | (go_at_call 13; (with_reducible refine (h3 _).mono ?_); rintro e w4 ⟨rfl, rfl⟩)
      | (go_at_call 14; (with_reducible refine (h4 _).mono ?_); rintro e w5 ⟨rfl, rfl⟩))
    go_ret
    exact ⟨rfl, hb1⟩
section
open Go.ChangeShapes Go.WideShapes Go.ChangeAt Go.Joins
variable {H : Type} {enc : TypeId × Value → H}
theorem str_open {W : World} {base : Nat} {d : DataW H} {p : List MemPlace} {v : Value} {sp : Nat → Bool} (hv : Value.okWide Try.prog W .any base 9 v) (h : DataW.Trod enc Try.prog W 0 sp true 9 v d p) : ∃ s : ByteArray, v = .string s ∧ s.size ≤ maxLen := by
  obtain ⟨s, rfl⟩ := okWide_string Try.underlying9 hv
  obtain ⟨fuel, hf⟩ := h
  obtain ⟨a, e, _, w⟩ := DataW.trod_string Try.underlying9 hf
  simp [Value.cells] at e
  subst e
  exact ⟨_, rfl, w⟩
set_option maxRecDepth 100000 in
theorem labelWords_walk : LawWalk enc Try.prog 3 Try.f3 := by
  intro W base args ds ps hval hA hlt _
  rw [Try.params3] at hA hval
  obtain ⟨v0, d0, rfl, rfl, h0⟩ := trodAll_one hA
  obtain ⟨s, rfl, hs⟩ := str_open (hval 0 _ v0 rfl rfl) h0
  exact law_words s hs W
set_option maxRecDepth 100000 in
theorem labelWords_lifted (os : Os) (started : os.Started) (H : Type) (enc : TypeId × Value → H) :
    ReturnsInHanded {} Try.checked os 3 .any (Rows.labelWordsSpec.pre6 enc Try.prog Try.f3 Rows.labelWordsRow.domain false) (Rows.labelWordsSpec.post enc Try.prog Try.f3 false true false false) :=
  law_lifted (C := Try.checked) own started (by kernel_rfl) Try.func3 laidOut (by kernel_rfl) rfl Try.underlying4 rfl
    (fun ds h => by obtain ⟨d0, rfl⟩ := list1 h; rfl)
    (ChangeSpec.witness6 (enc := enc) (C := Try.checked) false ⟨#[], #[.string ⟨#[]⟩], []⟩ 8 (by kernel_rfl) (by kernel_rfl) (by kernel_rfl) (by kernel_rfl))
    labelWords_walk
theorem labelWords_holds : Rows.LabelWordsSaid :=
  OpenClaim.holds_of_wide 3 Try.f3 rfl rfl rfl rfl rfl rfl rfl ⟨rfl, rfl, rfl, rfl, rfl⟩ rfl rfl rfl rfl rfl (by kernel_rfl) Try.func3 (by kernel_rfl)
    (of_decide_eq_true (by kernel_rfl)) (by unfold Func.isWrapper; rw [if_neg (of_decide_eq_false (by kernel_rfl))]; exact ⟨rfl, rfl⟩)
    (fun os started H enc _ => labelWords_lifted os started H enc)
#print axioms labelWords_holds
end
end Go.Proofs.Ytmfbidhnafpkdaa
