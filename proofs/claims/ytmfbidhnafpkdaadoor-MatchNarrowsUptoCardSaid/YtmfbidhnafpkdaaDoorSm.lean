import Derived.Test.YtmfbidhnafpkdaaDoorAl
import Derived.Test.YtmfbidhnafpkdaaDoorPq1
import Derived.Test.YtmfbidhnafpkdaaDoorPq3
import Derived.Test.YtmfbidhnafpkdaaDoorDraw
/-! Two lists of rules that are the same; the example of rules. -/
namespace Go.Proofs.YtmfbidhnafpkdaaDoor
open Go.RowKit
set_option linter.unusedVariables false
set_option linter.unusedSimpArgs false
@[go_sem ↓] theorem run_neq_rul6 (x : Rul) (w : World) : (binOp .neq 51 (.agg #[.string x.a, .int .i64 x.op, .string x.b]) (.agg #[.string x.a, .int .i64 x.op, .string x.b])).run Tryd.prog w = .ok (.bool false) w := by
  simp [go_sem]
set_option maxRecDepth 100000 in
set_option maxHeartbeats 1000000 in
theorem rsameR_any (v1 v2 : Value) (L : List Rul) (w : World) (h1 : Rz w v1 L) (h2 : Rz w v2 L) :
    Calls Tryd.prog 21 #[v1, v2] w fun e w' => e = .returned (.bool true) ∧ Below w.heap.size w w' := by
  obtain ⟨A1, c1, rfl⟩ := h1.shape
  obtain ⟨A2, c2, rfl⟩ := h2.shape
  have hn1 := h1.n.2
  go_enter Tryd.func21, Tryd.ntmps21
  go_wp2
  go_loopw [5] (fun s5 wr => ∃ (j : Nat) (X : Ext), s5 = .int .i64 (j : Int) ∧ j ≤ L.length ∧ wr = w.ext X) (fun s5 _ => ((L.length : Int) - intOf s5).toNat)
  case atStart => exact ⟨0, ⟨#[], w.drawn⟩, rfl, by omega, by simp [World.ext]⟩
  case round =>
    obtain ⟨j, X, rfl, hj, rfl⟩ := hrel
    by_cases hlt : j < L.length
    · obtain ⟨x, hx⟩ : ∃ x, L[j]? = some x := ⟨_, List.getElem?_eq_getElem hlt⟩
      obtain ⟨b, o, rfl, hbb, m0, m1, m2⟩ := h1.at_ hx
      obtain ⟨b', o', rfl, hbb', n0, n1, n2⟩ := h2.at_ hx
      have hji : (j : Int) < L.length := by omega
      clear h1 h2 hx
      go_wp2
      refine wp_region_ext_lit (by kernel_rfl) (by kernel_rfl) ?_
      (repeat (first | ((with_reducible refine wpQuiet_step (fun K hK => ?_)); go_simp; first | ((with_reducible refine hK _ ?_); clear hK K) | (apply Exists.intro; (with_reducible refine ⟨fun _ => ?_, hK _ ?_⟩); fail; clear hK K)) | ((with_reducible refine quiet_skipN ?_ (fun K hK => ?_)); (rfl); go_simp; (with_reducible refine hK _ ?_); clear hK K)))
      (with_reducible refine wpQuiet_nil ?_); intro _ hw'; obtain ⟨Y, hw''⟩ := hw'; subst hw''
      go_wp2
      go_roundw
      case rel => exact ⟨j + 1, _, by go_num, by omega, rfl⟩
      case measure => first | (simp [intOf]; done) | (simp [intOf]; omega)
    · obtain rfl : j = L.length := by omega
      go_wp2
      go_ret
      exact ⟨rfl, World.below_ext _ _⟩
def exR : Rul := ⟨⟨#[97]⟩, 1, ⟨#[120]⟩⟩
def exP : Par := ⟨⟨#[97]⟩, ⟨#[120]⟩⟩
theorem exR_psq : psq (⟨#[123, 97, 61, 34, 120, 34, 125, 46, 46]⟩ : ByteArray).data.toList = ([exR], 7) := by decide +kernel
theorem exR_all : allL [exR] [exP] = true := by decide +kernel
theorem exR_none : allL [exR] [] = false := by decide +kernel
set_option maxRecDepth 100000 in
set_option maxHeartbeats 4000000 in
theorem mawake_any (w : World) (hg : Sg w) : Calls Tryd.prog 8 #[] w fun e w' => e = .returned (.bool true) ∧ Below w.heap.size w w' := by
  have h1 := mparse_any ⟨#[123, 97, 61, 34, 120, 34, 125, 46, 46]⟩ (by decide) w hg
  rw [exR_psq] at h1
  have h2 : ∀ (u : Value) w, Rz w u [exR] → Sg w → Calls Tryd.prog 12 #[u, .slice (some ⟨w.heap.size, 0, none⟩) 1 1] (w.alloc (.cells #[.string ⟨#[97]⟩, .string ⟨#[120]⟩] 39)) fun e w' => e = .returned (.bool true) ∧ Below w.heap.size w w' := fun u w hu hgw => by
    have hB := Blk.new w 39 #[.string ⟨#[97]⟩, .string ⟨#[120]⟩]
    have hP : Pz (w.alloc (.cells #[.string ⟨#[97]⟩, .string ⟨#[120]⟩] 39)) (.slice (some ⟨w.heap.size, 0, none⟩) 1 1) [exP] :=
      Pz.own (base := 0) (n := 1) (t := 39) (hB.own (b := 0) (size := 2) (n := 1) (cap := 1) (Nat.zero_le _) (Nat.le_refl _) (by unfold maxLen; omega) rfl rfl rfl)
    have hb0 : Below w.heap.size w (w.alloc (.cells #[.string ⟨#[97]⟩, .string ⟨#[120]⟩] 39)) := Below.alloc (Below.refl _ _) (Nat.le_refl _) _
    have := mall_any u _ [exR] [exP] _ (hu.below hb0) hP (hgw.below hb0) (fun y hy => by rw [List.mem_singleton.1 hy]; decide)
    rw [exR_all] at this
    exact this.mono fun e w' h => ⟨h.1, hb0.trans (h.2.mono hb0.size)⟩
  have h3 : ∀ (u : Value) w, Rz w u [exR] → Sg w → Calls Tryd.prog 12 #[u, .slice none 0 0] w fun e w' => e = .returned (.bool false) ∧ Below w.heap.size w w' := fun u w hu hgw => by
    have := mall_any u _ [exR] [] w hu (Pz.nil w) hgw (fun y hy => by cases hy)
    rw [exR_none] at this
    exact this
  go_enter Tryd.func8, Tryd.ntmps8
  go_wp2_with (first
    | (go_at_call 17; (with_reducible refine h1.mono ?_); rintro e w1 ⟨⟨u, rfl, hu⟩, hb1⟩; obtain ⟨A, c, rfl⟩ := hu.shape; have hg1 := hg.below hb1; have hu : Rz w1 (.slice A 1 c) [exR] := hu)
    | (go_at_call 12; (with_reducible refine (h2 _ _ hu hg1).mono ?_); rintro e w2 ⟨rfl, hb2⟩; have hu2 := hu.below hb2; have hg2 := hg1.below hb2)
    | (go_at_call 12; (with_reducible refine (h3 _ _ hu2 hg2).mono ?_); rintro e w3 ⟨rfl, hb3⟩))
  go_ret
  exact ⟨rfl, (hb1.trans (hb2.mono hb1.size)).trans (hb3.mono (Nat.le_trans hb1.size hb2.size))⟩
end Go.Proofs.YtmfbidhnafpkdaaDoor
