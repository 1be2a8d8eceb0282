import Derived.Test.YtgojpcaoapbpaaaStamp
/-! The laws on stamps that need no bytes. -/
namespace Go.Proofs.Ytgojpcaoapbpaaa
open Go.RowKit
set_option linter.unusedVariables false
set_option linter.unusedSimpArgs false

set_option maxHeartbeats 400000 in
theorem law_orders (a b c a' b' c' : Int) (w : World) :
    Calls Try.prog 4 #[.agg #[.int .i64 a, .int .u32 b, .int .u32 c], .agg #[.int .i64 a', .int .u32 b', .int .u32 c']] w fun e w' => e = .returned (.bool true) ∧ Below w.heap.size w w' := by
  go_enter Try.func4, Try.ntmps4
  go_wp2
  refine wp_region_ext_lit (by kernel_rfl) (by kernel_rfl) ?_
  repeat (quiet_step ((first | (go_at_call 10; exact Calls.ext_of (to_any _ _ _ _)) | (go_at_call 12; exact Calls.ext_of (from_any _ _ _ _)) | (go_at_call 15; exact Calls.ext_of (right_any _ _ _ _)) | (go_at_call 16; exact Calls.ext_of (rright_any _ _ _ _)) | (go_at_call 17; exact Calls.ext_of (compare_any _ _ _ _ _ _ _)) | (go_at_call 18; exact Calls.ext_of (order_any _ _ _ _ _ _ _)) | (go_at_call 13; exact Calls.ext_of (last_any _ _ _ _)) | (go_at_call 14; exact Calls.ext_of (rlast_any _ _ _ _)))))
  refine wpQuiet_nil ?_; intro _ hw'; obtain ⟨X, hw''⟩ := hw'; subst hw''
  go_wp2
  go_ret
  refine ⟨rfl, ?_⟩
  (repeat' (first | with_reducible exact Below.refl _ _ | with_reducible refine Below.ext ?_ ?_ _ | with_reducible refine Below.alloc ?_ ?_ _ | with_reducible refine Below.setCell ?_ ?_ _ | with_reducible refine Below.drew ?_ | with_reducible assumption | (simp [World.size_ext]; done) | (simp [World.size_ext]; omega)))

set_option maxHeartbeats 400000 in
theorem law_nexts (a b c : Int) (w : World) (ha : I64 a) (hb : U32 b) :
    Calls Try.prog 3 #[.agg #[.int .i64 a, .int .u32 b, .int .u32 c]] w fun e w' => e = .returned (.bool true) ∧ Below w.heap.size w w' := by
  unfold I64 at ha
  unfold U32 at hb
  go_enter Try.func3, Try.ntmps3
  go_wp2_with (first | (go_at_call 10; refine (to_any _ _ _ _).mono ?_; rintro e w' ⟨rfl, hb⟩; obtain ⟨X, rfl⟩ := World.ext_of_below hb; clear hb) | (go_at_call 15; refine (right_any _ _ _ _).mono ?_; rintro e w' ⟨rfl, hb⟩; obtain ⟨X, rfl⟩ := World.ext_of_below hb; clear hb) | (go_at_call 17; refine (compare_any _ _ _ _ _ _ _).mono ?_; rintro e w' ⟨rfl, hb⟩; obtain ⟨X, rfl⟩ := World.ext_of_below hb; clear hb) | (go_at_call 9; refine (next_any _ _ _ _ (by omega)).mono ?_; rintro e w' ⟨rfl, hb⟩; obtain ⟨X, rfl⟩ := World.ext_of_below hb; clear hb) | (go_at_call 11; refine (rnext_any _ _ _ _ (by omega)).mono ?_; rintro e w' ⟨rfl, hb⟩; obtain ⟨X, rfl⟩ := World.ext_of_below hb; clear hb) | (go_at_call 13; refine (last_any _ _ _ _).mono ?_; rintro e w' ⟨rfl, hb⟩; obtain ⟨X, rfl⟩ := World.ext_of_below hb; clear hb))
  refine wp_region_ext_lit (by kernel_rfl) (by kernel_rfl) ?_
  repeat (quiet_step ((first | (go_at_call 10; exact Calls.ext_of (to_any _ _ _ _)) | (go_at_call 12; exact Calls.ext_of (from_any _ _ _ _)) | (go_at_call 15; exact Calls.ext_of (right_any _ _ _ _)) | (go_at_call 16; exact Calls.ext_of (rright_any _ _ _ _)) | (go_at_call 17; exact Calls.ext_of (compare_any _ _ _ _ _ _ _)) | (go_at_call 18; exact Calls.ext_of (order_any _ _ _ _ _ _ _)) | (go_at_call 13; exact Calls.ext_of (last_any _ _ _ _)) | (go_at_call 14; exact Calls.ext_of (rlast_any _ _ _ _)))))
  refine wpQuiet_nil ?_; intro _ hw'; obtain ⟨X, hw''⟩ := hw'; subst hw''
  go_wp2
  go_ret
  refine ⟨rfl, ?_⟩
  (repeat' (first | with_reducible exact Below.refl _ _ | with_reducible refine Below.ext ?_ ?_ _ | with_reducible refine Below.alloc ?_ ?_ _ | with_reducible refine Below.setCell ?_ ?_ _ | with_reducible refine Below.drew ?_ | with_reducible assumption | (simp [World.size_ext]; done) | (simp [World.size_ext]; omega)))

section
open Go.ChangeShapes Go.WideShapes Go.ChangeAt Go.Joins
variable {H : Type} {enc : TypeId × Value → H}
theorem stampOrders_walk : LawWalk enc Try.prog 4 Try.f4 := by
  intro W base args ds ps hval hA hlt _
  rw [Try.params4] at hA hval
  obtain ⟨v0, v1, d0, d1, p0, p1, rfl, rfl, rfl, h0, h1⟩ := trodAll_two hA
  obtain ⟨a, b, c, rfl, _, _, _⟩ := stamp_open (hval 0 _ v0 rfl rfl) h0
  obtain ⟨a', b', c', rfl, _, _, _⟩ := stamp_open (hval 1 _ v1 rfl rfl) h1
  exact law_orders _ _ _ _ _ _ W
set_option maxRecDepth 100000 in
theorem stampOrders_lifted (os : Os) (started : os.Started) (H : Type) (enc : TypeId × Value → H) :
    ReturnsInHanded {} Try.checked os 4 .any (Rows.stampOrdersSpec.pre6 enc Try.prog Try.f4 Rows.stampOrdersRow.domain false) (Rows.stampOrdersSpec.post enc Try.prog Try.f4 false true false false) :=
  law_lifted (C := Try.checked) own started (by kernel_rfl) Try.func4 laidOut (by kernel_rfl) rfl Try.underlying4 rfl
    (fun ds h => by obtain ⟨d0, d1, rfl⟩ := list2 h; rfl)
    (ChangeSpec.witness6 (enc := enc) (C := Try.checked) false ⟨#[], #[.agg #[.int .i64 0, .int .u32 0, .int .u32 0], .agg #[.int .i64 0, .int .u32 0, .int .u32 0]], []⟩ 8 (by kernel_rfl) (by kernel_rfl) (by kernel_rfl) (by kernel_rfl))
    stampOrders_walk
theorem stampOrders_holds : Rows.StampOrdersSaid :=
  OpenClaim.holds_of_wide 4 Try.f4 rfl rfl rfl rfl rfl rfl rfl ⟨rfl, rfl, rfl, rfl, rfl⟩ rfl rfl rfl rfl rfl (by kernel_rfl) Try.func4 (by kernel_rfl)
    (of_decide_eq_true (by kernel_rfl)) (by unfold Func.isWrapper; rw [if_neg (of_decide_eq_false (by kernel_rfl))]; exact ⟨rfl, rfl⟩)
    (fun os started H enc _ => stampOrders_lifted os started H enc)
#print axioms stampOrders_holds
theorem stampNexts_walk : LawWalk enc Try.prog 3 Try.f3 := by
  intro W base args ds ps hval hA hlt _
  rw [Try.params3] at hA hval
  obtain ⟨v0, d0, rfl, rfl, h0⟩ := trodAll_one hA
  obtain ⟨a, b, c, rfl, ha, hb, _⟩ := stamp_open (hval 0 _ v0 rfl rfl) h0
  exact law_nexts _ _ _ W ha hb
set_option maxRecDepth 100000 in
theorem stampNexts_lifted (os : Os) (started : os.Started) (H : Type) (enc : TypeId × Value → H) :
    ReturnsInHanded {} Try.checked os 3 .any (Rows.stampNextsSpec.pre6 enc Try.prog Try.f3 Rows.stampNextsRow.domain false) (Rows.stampNextsSpec.post enc Try.prog Try.f3 false true false false) :=
  law_lifted (C := Try.checked) own started (by kernel_rfl) Try.func3 laidOut (by kernel_rfl) rfl Try.underlying4 rfl
    (fun ds h => by obtain ⟨d0, rfl⟩ := list1 h; rfl)
    (ChangeSpec.witness6 (enc := enc) (C := Try.checked) false ⟨#[], #[.agg #[.int .i64 0, .int .u32 0, .int .u32 0]], []⟩ 8 (by kernel_rfl) (by kernel_rfl) (by kernel_rfl) (by kernel_rfl))
    stampNexts_walk
theorem stampNexts_holds : Rows.StampNextsSaid :=
  OpenClaim.holds_of_wide 3 Try.f3 rfl rfl rfl rfl rfl rfl rfl ⟨rfl, rfl, rfl, rfl, rfl⟩ rfl rfl rfl rfl rfl (by kernel_rfl) Try.func3 (by kernel_rfl)
    (of_decide_eq_true (by kernel_rfl)) (by unfold Func.isWrapper; rw [if_neg (of_decide_eq_false (by kernel_rfl))]; exact ⟨rfl, rfl⟩)
    (fun os started H enc _ => stampNexts_lifted os started H enc)
#print axioms stampNexts_holds
end
end Go.Proofs.Ytgojpcaoapbpaaa
