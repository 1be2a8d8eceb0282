import Derived.Test.YtgojpcaoapbpaaaStampLaws
import Derived.Test.YtgojpcaoapbpaaaGrow
/-! The laws on stamps that need no bytes: the order is one line; the gap. -/
namespace Go.Proofs.Ytgojpcaoapbpaaa
open Go.RowKit
set_option linter.unusedVariables false
set_option linter.unusedSimpArgs false

theorem cmp_bd (a b c a' b' c' : Int) : -1 ≤ cmpI a b c a' b' c' ∧ cmpI a b c a' b' c' ≤ 1 := by unfold cmpI; (repeat' split) <;> omega
theorem cmp_neg (a b c a' b' c' : Int) : (cmpI a b c a' b' c' != -cmpI a' b' c' a b c) = false := by
  unfold cmpI; simp only [bne_eq_false_iff_eq]; (repeat' split) <;> omega

theorem cmp_eq (a b c a' b' c' : Int) : ((cmpI a b c a' b' c' == 0) == stEq a b c a' b' c') = true := by
  unfold cmpI stEq; (repeat' split) <;> simp <;> omega
theorem cmp_trans (a b c a' b' c' a'' b'' c'' : Int) (h1 : cmpI a b c a' b' c' ≤ 0) (h2 : cmpI a' b' c' a'' b'' c'' ≤ 0) : cmpI a b c a'' b'' c'' ≤ 0 := by
  have e1 : a < a' ∨ (a = a' ∧ (b < b' ∨ (b = b' ∧ c ≤ c'))) := by unfold cmpI at h1; (repeat' split at h1) <;> omega
  have e2 : a' < a'' ∨ (a' = a'' ∧ (b' < b'' ∨ (b' = b'' ∧ c' ≤ c''))) := by unfold cmpI at h2; (repeat' split at h2) <;> omega
  clear h1 h2
  unfold cmpI; (repeat' split) <;> omega

set_option maxHeartbeats 800000 in
theorem law_line (a b c a' b' c' a'' b'' c'' : Int) (w : World) :
    Calls Try.prog 5 #[.agg #[.int .i64 a, .int .u32 b, .int .u32 c], .agg #[.int .i64 a', .int .u32 b', .int .u32 c'], .agg #[.int .i64 a'', .int .u32 b'', .int .u32 c'']] w fun e w' => e = .returned (.bool true) ∧ Below w.heap.size w w' := by
  have h1 := cmp_bd a' b' c' a b c
  have h2 := cmp_neg a b c a' b' c'
  have h4 := cmp_eq a b c a' b' c'
  have h3 : IntKind.i64.wrap (-cmpI a' b' c' a b c) = -cmpI a' b' c' a b c := IntWalk.i64_in _ (by omega)
  have h5 : rightB 0 = true := by decide
  go_enter Try.func5, Try.ntmps5
  go_wp2_with (first | (go_at_call 10; refine (to_any _ _ _ _).mono ?_; rintro e w' ⟨rfl, hb⟩; obtain ⟨X, rfl⟩ := World.ext_of_below hb; clear hb) | (go_at_call 15; refine (right_any _ _ _ _).mono ?_; rintro e w' ⟨rfl, hb⟩; obtain ⟨X, rfl⟩ := World.ext_of_below hb; clear hb) | (go_at_call 17; refine (compare_any _ _ _ _ _ _ _).mono ?_; rintro e w' ⟨rfl, hb⟩; obtain ⟨X, rfl⟩ := World.ext_of_below hb; clear hb) | (go_at_call 9; refine (next_any _ _ _ _ (by omega)).mono ?_; rintro e w' ⟨rfl, hb⟩; obtain ⟨X, rfl⟩ := World.ext_of_below hb; clear hb) | (go_at_call 11; refine (rnext_any _ _ _ _ (by omega)).mono ?_; rintro e w' ⟨rfl, hb⟩; obtain ⟨X, rfl⟩ := World.ext_of_below hb; clear hb) | (go_at_call 13; refine (last_any _ _ _ _).mono ?_; rintro e w' ⟨rfl, hb⟩; obtain ⟨X, rfl⟩ := World.ext_of_below hb; clear hb))
  refine Grow.wp_region_grow 9 [0, 1, 2, 3, 4, 5] [6, 7, 8] (fun _ => #[.int .i64 0, .int .u32 0, .int .u32 0]) (fun _ => 25) (by kernel_rfl) (by kernel_rfl) (by intro i hi ρ w; simp only [List.mem_cons, List.not_mem_nil, or_false] at hi; rcases hi with rfl | rfl | rfl <;> kernel_rfl) ?_; simp only [List.map_cons, List.map_nil, List.getD_cons_zero, List.getD_cons_succ]
  (repeat (refine Grow.wpG_step (fun K hK => ?_); go_simp; first | (refine hK _ ?_; clear hK K) | (apply Exists.intro; refine ⟨fun _ => ?_, hK _ ?_⟩; (first | (go_at_call 10; exact Calls.cat_of (to_any _ _ _ _)) | (go_at_call 12; exact Calls.cat_of (from_any _ _ _ _)) | (go_at_call 15; exact Calls.cat_of (right_any _ _ _ _)) | (go_at_call 16; exact Calls.cat_of (rright_any _ _ _ _)) | (go_at_call 17; exact Calls.cat_of (compare_any _ _ _ _ _ _ _)) | (go_at_call 18; exact Calls.cat_of (order_any _ _ _ _ _ _ _)) | (go_at_call 13; exact Calls.cat_of (last_any _ _ _ _)) | (go_at_call 14; exact Calls.cat_of (rlast_any _ _ _ _))); clear hK K)))
  refine Grow.wpG_nil ?_; intro p X hz hne; simp only [List.drop_succ_cons, List.drop_zero, Grow.putL, if_true, List.getD_cons_zero, List.getD_cons_succ]; have z1 := hz 6 (by simp); obtain ⟨z1, b1⟩ := z1; have c1 := blk_cell z1; have f1 := blk_frozen z1; have l1 := blk_lt z1; have z2 := hz 7 (by simp); obtain ⟨z2, b2⟩ := z2; have c2 := blk_cell z2; have f2 := blk_frozen z2; have l2 := blk_lt z2; have z3 := hz 8 (by simp); obtain ⟨z3, b3⟩ := z3; have c3 := blk_cell z3; have f3 := blk_frozen z3; have l3 := blk_lt z3; have n12 := hne 6 (by simp) 7 (by simp) (by decide); have n21 := n12.symm; have n13 := hne 6 (by simp) 8 (by simp) (by decide); have n31 := n13.symm; have n23 := hne 7 (by simp) 8 (by simp) (by decide); have n32 := n23.symm; clear hz hne; generalize p 6 = a1 at *; generalize p 7 = a2 at *; generalize p 8 = a3 at *; clear z1; clear z2; clear z3; (try simp only [World.size_ext, World.size_alloc, World.size_setCell] at *)
  go_wp2
  refine wp_region_ext_lit (by kernel_rfl) (by kernel_rfl) ?_
  (repeat (quiet_step ((first | (go_at_call 10; exact Calls.ext_of (to_any _ _ _ _)) | (go_at_call 12; exact Calls.ext_of (from_any _ _ _ _)) | (go_at_call 15; exact Calls.ext_of (right_any _ _ _ _)) | (go_at_call 16; exact Calls.ext_of (rright_any _ _ _ _)) | (go_at_call 17; exact Calls.ext_of (compare_any _ _ _ _ _ _ _)) | (go_at_call 18; exact Calls.ext_of (order_any _ _ _ _ _ _ _)) | (go_at_call 13; exact Calls.ext_of (last_any _ _ _ _)) | (go_at_call 14; exact Calls.ext_of (rlast_any _ _ _ _))))))
  refine wpQuiet_nil ?_; intro _ hw'; obtain ⟨Y, hw''⟩ := hw'; subst hw''
  clear h1 h2 h3 h4
  by_cases g1 : 0 < cmpI a b c a' b' c'
  · go_wp2_with (first | (go_at_call 10; refine (to_any _ _ _ _).mono ?_; rintro e w' ⟨rfl, hb⟩; obtain ⟨X, rfl⟩ := World.ext_of_below hb; clear hb) | (go_at_call 15; refine (right_any _ _ _ _).mono ?_; rintro e w' ⟨rfl, hb⟩; obtain ⟨X, rfl⟩ := World.ext_of_below hb; clear hb) | (go_at_call 17; refine (compare_any _ _ _ _ _ _ _).mono ?_; rintro e w' ⟨rfl, hb⟩; obtain ⟨X, rfl⟩ := World.ext_of_below hb; clear hb) | (go_at_call 9; refine (next_any _ _ _ _ (by omega)).mono ?_; rintro e w' ⟨rfl, hb⟩; obtain ⟨X, rfl⟩ := World.ext_of_below hb; clear hb) | (go_at_call 11; refine (rnext_any _ _ _ _ (by omega)).mono ?_; rintro e w' ⟨rfl, hb⟩; obtain ⟨X, rfl⟩ := World.ext_of_below hb; clear hb) | (go_at_call 13; refine (last_any _ _ _ _).mono ?_; rintro e w' ⟨rfl, hb⟩; obtain ⟨X, rfl⟩ := World.ext_of_below hb; clear hb))
    go_ret
    refine ⟨rfl, ?_⟩
    (repeat' (first | with_reducible exact Below.refl _ _ | with_reducible refine Below.ext ?_ ?_ _ | with_reducible refine Below.alloc ?_ ?_ _ | with_reducible refine Below.setCell ?_ ?_ _ | with_reducible refine Below.drew ?_ | with_reducible assumption | (simp [World.size_ext]; done) | (simp [World.size_ext]; omega)))
  · by_cases g2 : 0 < cmpI a' b' c' a'' b'' c''
    · go_wp2_with (first | (go_at_call 10; refine (to_any _ _ _ _).mono ?_; rintro e w' ⟨rfl, hb⟩; obtain ⟨X, rfl⟩ := World.ext_of_below hb; clear hb) | (go_at_call 15; refine (right_any _ _ _ _).mono ?_; rintro e w' ⟨rfl, hb⟩; obtain ⟨X, rfl⟩ := World.ext_of_below hb; clear hb) | (go_at_call 17; refine (compare_any _ _ _ _ _ _ _).mono ?_; rintro e w' ⟨rfl, hb⟩; obtain ⟨X, rfl⟩ := World.ext_of_below hb; clear hb) | (go_at_call 9; refine (next_any _ _ _ _ (by omega)).mono ?_; rintro e w' ⟨rfl, hb⟩; obtain ⟨X, rfl⟩ := World.ext_of_below hb; clear hb) | (go_at_call 11; refine (rnext_any _ _ _ _ (by omega)).mono ?_; rintro e w' ⟨rfl, hb⟩; obtain ⟨X, rfl⟩ := World.ext_of_below hb; clear hb) | (go_at_call 13; refine (last_any _ _ _ _).mono ?_; rintro e w' ⟨rfl, hb⟩; obtain ⟨X, rfl⟩ := World.ext_of_below hb; clear hb))
      go_ret
      refine ⟨rfl, ?_⟩
      (repeat' (first | with_reducible exact Below.refl _ _ | with_reducible refine Below.ext ?_ ?_ _ | with_reducible refine Below.alloc ?_ ?_ _ | with_reducible refine Below.setCell ?_ ?_ _ | with_reducible refine Below.drew ?_ | with_reducible assumption | (simp [World.size_ext]; done) | (simp [World.size_ext]; omega)))
    · have g3 := cmp_trans a b c a' b' c' a'' b'' c'' (by omega) (by omega)
      go_wp2_with (first | (go_at_call 10; refine (to_any _ _ _ _).mono ?_; rintro e w' ⟨rfl, hb⟩; obtain ⟨X, rfl⟩ := World.ext_of_below hb; clear hb) | (go_at_call 15; refine (right_any _ _ _ _).mono ?_; rintro e w' ⟨rfl, hb⟩; obtain ⟨X, rfl⟩ := World.ext_of_below hb; clear hb) | (go_at_call 17; refine (compare_any _ _ _ _ _ _ _).mono ?_; rintro e w' ⟨rfl, hb⟩; obtain ⟨X, rfl⟩ := World.ext_of_below hb; clear hb) | (go_at_call 9; refine (next_any _ _ _ _ (by omega)).mono ?_; rintro e w' ⟨rfl, hb⟩; obtain ⟨X, rfl⟩ := World.ext_of_below hb; clear hb) | (go_at_call 11; refine (rnext_any _ _ _ _ (by omega)).mono ?_; rintro e w' ⟨rfl, hb⟩; obtain ⟨X, rfl⟩ := World.ext_of_below hb; clear hb) | (go_at_call 13; refine (last_any _ _ _ _).mono ?_; rintro e w' ⟨rfl, hb⟩; obtain ⟨X, rfl⟩ := World.ext_of_below hb; clear hb))
      go_ret
      refine ⟨rfl, ?_⟩
      (repeat' (first | with_reducible exact Below.refl _ _ | with_reducible refine Below.ext ?_ ?_ _ | with_reducible refine Below.alloc ?_ ?_ _ | with_reducible refine Below.setCell ?_ ?_ _ | with_reducible refine Below.drew ?_ | with_reducible assumption | (simp [World.size_ext]; done) | (simp [World.size_ext]; omega)))

theorem gap_err (a b : Int) (h : (nextE a b != 0) = true) : stEq (nextW a b) (nextT a b) 0 0 0 0 = true := by
  unfold nextE nextW nextT at *
  simp only [bne_iff_ne, ne_eq] at h
  (repeat' split at h) <;> simp_all [stEq]
theorem gap_ok (a b : Int) (hb : 0 ≤ b ∧ b ≤ 4294967295) (h : (nextE a b != 0) = false) :
    (b ≠ 4294967295 ∧ nextW a b = a ∧ nextT a b = b + 1) ∨ (b = 4294967295 ∧ nextW a b = a + 1 ∧ nextT a b = 0) := by
  unfold nextE nextW nextT at *
  simp only [bne_eq_false_iff_eq] at h
  (repeat' split at h) <;> simp_all
theorem gap_lt (a b : Int) (hb : 0 ≤ b ∧ b ≤ 4294967295) (h : (nextE a b != 0) = false) : cmpI a b 4294967295 (nextW a b) (nextT a b) 0 < 0 := by
  rcases gap_ok a b hb h with ⟨h1, h2, h3⟩ | ⟨h1, h2, h3⟩ <;> rw [h2, h3] <;> unfold cmpI <;> (repeat' split) <;> omega
theorem gap_le (a b c : Int) (hc : c ≤ 4294967295) : cmpI a b c a b 4294967295 ≤ 0 := by
  unfold cmpI; (repeat' split) <;> omega
theorem gap_or (a b a' b' : Int) (hb : 0 ≤ b ∧ b ≤ 4294967295) (hb' : 0 ≤ b' ∧ b' ≤ 4294967295) (h : (nextE a b != 0) = false) (g : ¬ cmpI a' b' 0 a b 4294967295 ≤ 0) : cmpI (nextW a b) (nextT a b) 0 a' b' 0 ≤ 0 := by
  have g' : a < a' ∨ (a = a' ∧ b < b') := by
    rcases Int.lt_trichotomy a a' with h1 | h1 | h1
    · exact .inl h1
    · refine .inr ⟨h1, ?_⟩
      rcases Int.lt_or_le b b' with h2 | h2
      · exact h2
      · exact absurd (by unfold cmpI; (repeat' split) <;> omega) g
    · exact absurd (by unfold cmpI; (repeat' split) <;> omega) g
  rcases gap_ok a b hb h with ⟨h1, h2, h3⟩ | ⟨h1, h2, h3⟩ <;> rw [h2, h3] <;> unfold cmpI <;> (repeat' split) <;> omega

set_option maxHeartbeats 800000 in
theorem law_gap (a b c a' b' c' : Int) (w : World) (ha : I64 a) (hb : U32 b) (hc : U32 c) (hb' : U32 b') :
    Calls Try.prog 7 #[.agg #[.int .i64 a, .int .u32 b, .int .u32 c], .agg #[.int .i64 a', .int .u32 b', .int .u32 c']] w fun e w' => e = .returned (.bool true) ∧ Below w.heap.size w w' := by
  unfold I64 at ha
  unfold U32 at hb hc hb'
  have h5 : rightB 0 = true := by decide
  by_cases he : (nextE a b != 0) = true
  · have h6 := gap_err a b he
    go_enter Try.func7, Try.ntmps7
    go_wp2_with (first | (go_at_call 10; refine (to_any _ _ _ _).mono ?_; rintro e w' ⟨rfl, hb⟩; obtain ⟨X, rfl⟩ := World.ext_of_below hb; clear hb) | (go_at_call 15; refine (right_any _ _ _ _).mono ?_; rintro e w' ⟨rfl, hb⟩; obtain ⟨X, rfl⟩ := World.ext_of_below hb; clear hb) | (go_at_call 17; refine (compare_any _ _ _ _ _ _ _).mono ?_; rintro e w' ⟨rfl, hb⟩; obtain ⟨X, rfl⟩ := World.ext_of_below hb; clear hb) | (go_at_call 9; refine (next_any _ _ _ _ (by omega)).mono ?_; rintro e w' ⟨rfl, hb⟩; obtain ⟨X, rfl⟩ := World.ext_of_below hb; clear hb) | (go_at_call 11; refine (rnext_any _ _ _ _ (by omega)).mono ?_; rintro e w' ⟨rfl, hb⟩; obtain ⟨X, rfl⟩ := World.ext_of_below hb; clear hb) | (go_at_call 13; refine (last_any _ _ _ _).mono ?_; rintro e w' ⟨rfl, hb⟩; obtain ⟨X, rfl⟩ := World.ext_of_below hb; clear hb))
    go_ret
    refine ⟨by simp [h6], ?_⟩
    (repeat' (first | with_reducible exact Below.refl _ _ | with_reducible refine Below.ext ?_ ?_ _ | with_reducible refine Below.alloc ?_ ?_ _ | with_reducible refine Below.setCell ?_ ?_ _ | with_reducible refine Below.drew ?_ | with_reducible assumption | (simp [World.size_ext]; done) | (simp [World.size_ext]; omega)))
  · have he : (nextE a b != 0) = false := by simpa using he
    have h6 := gap_lt a b hb he
    have h7 := gap_le a b c hc.2
    by_cases g : cmpI a' b' 0 a b 4294967295 ≤ 0
    · go_enter Try.func7, Try.ntmps7
      go_wp2_with (first | (go_at_call 10; refine (to_any _ _ _ _).mono ?_; rintro e w' ⟨rfl, hb⟩; obtain ⟨X, rfl⟩ := World.ext_of_below hb; clear hb) | (go_at_call 15; refine (right_any _ _ _ _).mono ?_; rintro e w' ⟨rfl, hb⟩; obtain ⟨X, rfl⟩ := World.ext_of_below hb; clear hb) | (go_at_call 17; refine (compare_any _ _ _ _ _ _ _).mono ?_; rintro e w' ⟨rfl, hb⟩; obtain ⟨X, rfl⟩ := World.ext_of_below hb; clear hb) | (go_at_call 9; refine (next_any _ _ _ _ (by omega)).mono ?_; rintro e w' ⟨rfl, hb⟩; obtain ⟨X, rfl⟩ := World.ext_of_below hb; clear hb) | (go_at_call 11; refine (rnext_any _ _ _ _ (by omega)).mono ?_; rintro e w' ⟨rfl, hb⟩; obtain ⟨X, rfl⟩ := World.ext_of_below hb; clear hb) | (go_at_call 13; refine (last_any _ _ _ _).mono ?_; rintro e w' ⟨rfl, hb⟩; obtain ⟨X, rfl⟩ := World.ext_of_below hb; clear hb))
      refine wp_region_ext_lit (by kernel_rfl) (by kernel_rfl) ?_
      (repeat (quiet_step ((first | (go_at_call 10; exact Calls.ext_of (to_any _ _ _ _)) | (go_at_call 12; exact Calls.ext_of (from_any _ _ _ _)) | (go_at_call 15; exact Calls.ext_of (right_any _ _ _ _)) | (go_at_call 16; exact Calls.ext_of (rright_any _ _ _ _)) | (go_at_call 17; exact Calls.ext_of (compare_any _ _ _ _ _ _ _)) | (go_at_call 18; exact Calls.ext_of (order_any _ _ _ _ _ _ _)) | (go_at_call 13; exact Calls.ext_of (last_any _ _ _ _)) | (go_at_call 14; exact Calls.ext_of (rlast_any _ _ _ _))))))
      refine wpQuiet_nil ?_; intro _ hw'; obtain ⟨Y, hw''⟩ := hw'; subst hw''
      go_wp2
      go_ret
      refine ⟨rfl, ?_⟩
      (repeat' (first | with_reducible exact Below.refl _ _ | with_reducible refine Below.ext ?_ ?_ _ | with_reducible refine Below.alloc ?_ ?_ _ | with_reducible refine Below.setCell ?_ ?_ _ | with_reducible refine Below.drew ?_ | with_reducible assumption | (simp [World.size_ext]; done) | (simp [World.size_ext]; omega)))
    · have h8 := gap_or a b a' b' hb hb' he g
      have g : decide (cmpI a' b' 0 a b 4294967295 ≤ 0) = false := by simpa using g
      go_enter Try.func7, Try.ntmps7
      go_wp2_with (first | (go_at_call 10; refine (to_any _ _ _ _).mono ?_; rintro e w' ⟨rfl, hb⟩; obtain ⟨X, rfl⟩ := World.ext_of_below hb; clear hb) | (go_at_call 15; refine (right_any _ _ _ _).mono ?_; rintro e w' ⟨rfl, hb⟩; obtain ⟨X, rfl⟩ := World.ext_of_below hb; clear hb) | (go_at_call 17; refine (compare_any _ _ _ _ _ _ _).mono ?_; rintro e w' ⟨rfl, hb⟩; obtain ⟨X, rfl⟩ := World.ext_of_below hb; clear hb) | (go_at_call 9; refine (next_any _ _ _ _ (by omega)).mono ?_; rintro e w' ⟨rfl, hb⟩; obtain ⟨X, rfl⟩ := World.ext_of_below hb; clear hb) | (go_at_call 11; refine (rnext_any _ _ _ _ (by omega)).mono ?_; rintro e w' ⟨rfl, hb⟩; obtain ⟨X, rfl⟩ := World.ext_of_below hb; clear hb) | (go_at_call 13; refine (last_any _ _ _ _).mono ?_; rintro e w' ⟨rfl, hb⟩; obtain ⟨X, rfl⟩ := World.ext_of_below hb; clear hb))
      refine wp_region_ext_lit (by kernel_rfl) (by kernel_rfl) ?_
      (repeat (quiet_step ((first | (go_at_call 10; exact Calls.ext_of (to_any _ _ _ _)) | (go_at_call 12; exact Calls.ext_of (from_any _ _ _ _)) | (go_at_call 15; exact Calls.ext_of (right_any _ _ _ _)) | (go_at_call 16; exact Calls.ext_of (rright_any _ _ _ _)) | (go_at_call 17; exact Calls.ext_of (compare_any _ _ _ _ _ _ _)) | (go_at_call 18; exact Calls.ext_of (order_any _ _ _ _ _ _ _)) | (go_at_call 13; exact Calls.ext_of (last_any _ _ _ _)) | (go_at_call 14; exact Calls.ext_of (rlast_any _ _ _ _))))))
      refine wpQuiet_nil ?_; intro _ hw'; obtain ⟨Y, hw''⟩ := hw'; subst hw''
      go_wp2
      go_ret
      refine ⟨rfl, ?_⟩
      (repeat' (first | with_reducible exact Below.refl _ _ | with_reducible refine Below.ext ?_ ?_ _ | with_reducible refine Below.alloc ?_ ?_ _ | with_reducible refine Below.setCell ?_ ?_ _ | with_reducible refine Below.drew ?_ | with_reducible assumption | (simp [World.size_ext]; done) | (simp [World.size_ext]; omega)))

section
open Go.ChangeShapes Go.WideShapes Go.ChangeAt Go.Joins
variable {H : Type} {enc : TypeId × Value → H}
theorem stampLine_walk : LawWalk enc Try.prog 5 Try.f5 := by
  intro W base args ds ps hval hA hlt _
  rw [Try.params5] at hA hval
  obtain ⟨v0, v1, v2, d0, d1, d2, p0, p1, p2, rfl, rfl, rfl, h0, h1, h2⟩ := trodAll_three hA
  obtain ⟨a, b, c, rfl, _, _, _⟩ := stamp_open (hval 0 _ v0 rfl rfl) h0
  obtain ⟨a', b', c', rfl, _, _, _⟩ := stamp_open (hval 1 _ v1 rfl rfl) h1
  obtain ⟨a'', b'', c'', rfl, _, _, _⟩ := stamp_open (hval 2 _ v2 rfl rfl) h2
  exact law_line _ _ _ _ _ _ _ _ _ W
set_option maxRecDepth 100000 in
theorem stampLine_lifted (os : Os) (started : os.Started) (H : Type) (enc : TypeId × Value → H) :
    ReturnsInHanded {} Try.checked os 5 .any (Rows.stampLineSpec.pre6 enc Try.prog Try.f5 Rows.stampLineRow.domain false) (Rows.stampLineSpec.post enc Try.prog Try.f5 false true false false) :=
  law_lifted (C := Try.checked) own started (by kernel_rfl) Try.func5 laidOut (by kernel_rfl) rfl Try.underlying4 rfl
    (fun ds h => by obtain ⟨d0, d1, d2, rfl⟩ := list3 h; rfl)
    (ChangeSpec.witness6 (enc := enc) (C := Try.checked) false ⟨#[], #[.agg #[.int .i64 0, .int .u32 0, .int .u32 0], .agg #[.int .i64 0, .int .u32 0, .int .u32 0], .agg #[.int .i64 0, .int .u32 0, .int .u32 0]], []⟩ 8 (by kernel_rfl) (by kernel_rfl) (by kernel_rfl) (by kernel_rfl))
    stampLine_walk
theorem stampLine_holds : Rows.StampLineSaid :=
  OpenClaim.holds_of_wide 5 Try.f5 rfl rfl rfl rfl rfl rfl rfl ⟨rfl, rfl, rfl, rfl, rfl⟩ rfl rfl rfl rfl rfl (by kernel_rfl) Try.func5 (by kernel_rfl)
    (of_decide_eq_true (by kernel_rfl)) (by unfold Func.isWrapper; rw [if_neg (of_decide_eq_false (by kernel_rfl))]; exact ⟨rfl, rfl⟩)
    (fun os started H enc _ => stampLine_lifted os started H enc)
#print axioms stampLine_holds
theorem stampGap_walk : LawWalk enc Try.prog 7 Try.f7 := by
  intro W base args ds ps hval hA hlt _
  rw [Try.params7] at hA hval
  obtain ⟨v0, v1, d0, d1, p0, p1, rfl, rfl, rfl, h0, h1⟩ := trodAll_two hA
  obtain ⟨a, b, c, rfl, ha, hb, hc⟩ := stamp_open (hval 0 _ v0 rfl rfl) h0
  obtain ⟨a', b', c', rfl, _, hb', _⟩ := stamp_open (hval 1 _ v1 rfl rfl) h1
  exact law_gap _ _ _ _ _ _ W ha hb hc hb'
set_option maxRecDepth 100000 in
theorem stampGap_lifted (os : Os) (started : os.Started) (H : Type) (enc : TypeId × Value → H) :
    ReturnsInHanded {} Try.checked os 7 .any (Rows.stampGapSpec.pre6 enc Try.prog Try.f7 Rows.stampGapRow.domain false) (Rows.stampGapSpec.post enc Try.prog Try.f7 false true false false) :=
  law_lifted (C := Try.checked) own started (by kernel_rfl) Try.func7 laidOut (by kernel_rfl) rfl Try.underlying4 rfl
    (fun ds h => by obtain ⟨d0, d1, rfl⟩ := list2 h; rfl)
    (ChangeSpec.witness6 (enc := enc) (C := Try.checked) false ⟨#[], #[.agg #[.int .i64 0, .int .u32 0, .int .u32 0], .agg #[.int .i64 0, .int .u32 0, .int .u32 0]], []⟩ 8 (by kernel_rfl) (by kernel_rfl) (by kernel_rfl) (by kernel_rfl))
    stampGap_walk
theorem stampGap_holds : Rows.StampGapSaid :=
  OpenClaim.holds_of_wide 7 Try.f7 rfl rfl rfl rfl rfl rfl rfl ⟨rfl, rfl, rfl, rfl, rfl⟩ rfl rfl rfl rfl rfl (by kernel_rfl) Try.func7 (by kernel_rfl)
    (of_decide_eq_true (by kernel_rfl)) (by unfold Func.isWrapper; rw [if_neg (of_decide_eq_false (by kernel_rfl))]; exact ⟨rfl, rfl⟩)
    (fun os started H enc _ => stampGap_lifted os started H enc)
#print axioms stampGap_holds
end
end Go.Proofs.Ytgojpcaoapbpaaa
