import Derived.Test.YtamnononemallaaDoorGC
import Derived.Test.YtamnononemallaaDoorPq1
import Derived.Test.YtamnononemallaaDoorPq3
import Derived.Test.YtamnononemallaaDoorGA
/-! Two lists of rules that are the same; the example of rules. -/
namespace Go.Proofs.YtamnononemallaaDoor
open Go.RowKit
set_option linter.unusedVariables false
set_option linter.unusedSimpArgs false
@[go_sem ↓] theorem run_neq_rul6 (x : Rul) (w : World) : (binOp .neq 59 (.agg #[.string x.a, .int .i64 x.op, .string x.b]) (.agg #[.string x.a, .int .i64 x.op, .string x.b])).run Tryd.prog w = .ok (.bool false) w := by
  simp [go_sem]
set_option maxRecDepth 100000 in
set_option maxHeartbeats 1000000 in
theorem rsameR_any (v1 v2 : Value) (L : List Rul) (w : World) (h1 : Rz w v1 L) (h2 : Rz w v2 L) :
    Calls Tryd.prog 22 #[v1, v2] w fun e w' => e = .returned (.bool true) ∧ Below w.heap.size w w' := by
  obtain ⟨A1, c1, rfl⟩ := h1.shape
  obtain ⟨A2, c2, rfl⟩ := h2.shape
  have hn1 := h1.n.2
  go_enter Tryd.func22, Tryd.ntmps22
  go_wp2
  go_loopw [5] (fun s5 wr => ∃ (j : Nat) (X : Ext), s5 = .int .i64 (j : Int) ∧ j ≤ L.length ∧ wr = w.ext X) (fun s5 _ => ((L.length : Int) - intOf s5).toNat)
  case atStart => exact ⟨0, ⟨#[], w.drawn⟩, rfl, by omega, by simp [World.ext]⟩
  case round =>
    obtain ⟨j, X, rfl, hj, rfl⟩ := hrel
    by_cases hlt : j < L.length
    · obtain ⟨x, hx⟩ : ∃ x, L[j]? = some x := ⟨_, List.getElem?_eq_getElem hlt⟩
      obtain ⟨b, o, rfl, hbb, m0, m1, m2⟩ := h1.at_ hx
      obtain ⟨b', o', rfl, hbb', n0, n1, n2⟩ := h2.at_ hx
      have hji : (j : Int) < L.length := by omega
      clear h1 h2 hx
      go_wp2
      refine wp_region_ext_lit (by kernel_rfl) (by kernel_rfl) ?_
      (repeat (first | ((with_reducible refine wpQuiet_step (fun K hK => ?_)); go_simp; first | ((with_reducible refine hK _ ?_); clear hK K) | (apply Exists.intro; (with_reducible refine ⟨fun _ => ?_, hK _ ?_⟩); fail; clear hK K)) | ((with_reducible refine quiet_skipN ?_ (fun K hK => ?_)); (rfl); go_simp; (with_reducible refine hK _ ?_); clear hK K)))
      (with_reducible refine wpQuiet_nil ?_); intro _ hw'; obtain ⟨Y, hw''⟩ := hw'; subst hw''
      go_wp2
      go_roundw
      case rel => exact ⟨j + 1, _, by go_num, by omega, rfl⟩
      case measure => first | (simp [intOf]; done) | (simp [intOf]; omega)
    · obtain rfl : j = L.length := by omega
      go_wp2
      go_ret
      exact ⟨rfl, World.below_ext _ _⟩
end Go.Proofs.YtamnononemallaaDoor
