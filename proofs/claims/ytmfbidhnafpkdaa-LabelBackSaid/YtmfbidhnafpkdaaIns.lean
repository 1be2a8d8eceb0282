import Derived.Test.YtmfbidhnafpkdaaRow
/-! The insertion sort of labels. -/
namespace Go.Proofs.Ytmfbidhnafpkdaa
open Go.RowKit
set_option linter.unusedVariables false
set_option linter.unusedSimpArgs false
set_option maxHeartbeats 1000000 in
theorem pmk_any (x y : Par) (w : World) :
    Calls Try.prog 36 #[.agg #[.string x.a, .string x.b], .agg #[.string y.a, .string y.b]] w fun e w' => e = .returned (.int .i64 (cmpB x.a y.a)) ∧ Below w.heap.size w w' := by
  have h1 := fun w => Try.strings_Compare x.a y.a w
  change ∀ w, Calls _ _ _ _ fun e w' => e = .returned (.int .i64 (cmpB x.a y.a)) ∧ w' = w at h1
  generalize cmpB x.a y.a = p at *
  go_enter Try.func36, Try.ntmps36
  go_wp2_with (go_at_call 37; (with_reducible refine (h1 _).mono ?_); rintro e w1 ⟨rfl, rfl⟩)
  go_ret
  exact ⟨rfl, by (repeat' (first | with_reducible exact Below.refl _ _ | with_reducible refine Below.ext ?_ ?_ _ | with_reducible refine Below.alloc ?_ ?_ _ | with_reducible refine Below.setCell ?_ ?_ _ | with_reducible refine Below.drew ?_ | with_reducible assumption | (simp [World.size_ext]; done) | (simp [World.size_ext]; omega)))⟩
set_option maxRecDepth 100000 in
set_option maxHeartbeats 16000000 in
theorem ins_any (g n c a b : Nat) (P : List Par) (w : World) (hrow : Row2 w g n P) (hb : b ≤ n) (hn : n ≤ 4611686018427387904) (ha : a ≤ 4611686018427387904) :
    Calls Try.prog 51 #[.slice (some ⟨g, 0, none⟩) n c, .int .i64 (a : Int), .int .i64 (b : Int), .func (.func 36) #[] #[]] w
      fun e w' => e = .returned (.tuple #[]) ∧ (∃ Q, Row2 w' g n Q ∧ Seg a b P Q ∧ SrtS Q a b) ∧ Only w w' g := by
  go_enter Try.func51, Try.ntmps51
  go_wp2
  go_loopw [8] (fun s8 wr => ∃ (i : Nat) (Q : List Par), a + 1 ≤ i ∧ (i ≤ b ∨ i = a + 1) ∧ s8 = .int .i64 (i : Int) ∧ Row2 wr g n Q ∧ Seg a b P Q ∧ SrtS Q a i ∧ Only w wr g) (fun s8 _ => ((b : Int) - intOf s8).toNat)
  case atStart => exact ⟨a + 1, P, by omega, .inr rfl, by simp, hrow, Seg.refl _ _ _, SrtS.one _ _, Only.refl _ _⟩
  case round =>
    clear hrow
    obtain ⟨i, Q, hai, hib, rfl, hrow, hseg, hsrt, hon⟩ := hrel
    by_cases hlt : i < b
    · have hii : (i : Int) < b := by omega
      have hX := SrtX.start hsrt
      clear hsrt hib
      go_wp2
      go_loopw [9] (fun s9 U => ∃ (j : Nat) (Q : List Par), a ≤ j ∧ j ≤ i ∧ s9 = .int .i64 (j : Int) ∧ Row2 U g n Q ∧ Seg a b P Q ∧ SrtX Q a (i + 1) j ∧ Only w U g) (fun s9 _ => (intOf s9 - (a : Int)).toNat)
      case atStart => exact ⟨i, Q, by omega, by omega, rfl, hrow, hseg, hX, hon⟩
      case round =>
        clear hrow hseg hX hon
        obtain ⟨j, Q, haj, hji, rfl, hrow, hseg, hX, hon⟩ := hrel
        have hql := hrow.len
        have lg := hrow.lt
        by_cases hja : a < j
        · obtain ⟨x, hx⟩ : ∃ x, Q[j]? = some x := ⟨_, List.getElem?_eq_getElem (by omega)⟩
          obtain ⟨y, hy⟩ : ∃ y, Q[j - 1]? = some y := ⟨_, List.getElem?_eq_getElem (by omega)⟩
          obtain ⟨k, rfl⟩ : ∃ k, j = k + 1 := ⟨j - 1, by omega⟩
          rw [Nat.add_sub_cancel] at hy
          obtain ⟨m0, m1⟩ := hrow.at_ hx
          obtain ⟨n0, n1⟩ := hrow.at_ hy
          have hC := fun w => pmk_any x y w
          have hle := cmpB_cmp.swap x.a y.a
          generalize hp : cmpB x.a y.a = p at *
          have haj' : (a : Int) < (k : Int) + 1 := by omega
          have hkn : (k : Int) + 1 < n := by omega
          have hkn' : (k : Int) < n := by omega
          have hk0 : (0 : Int) ≤ (k : Int) + 1 := by omega
          have hwk : IntKind.i64.wrap (k : Int) = (k : Int) := by rw [IntKind.wrap_i64]; omega
          have H := hide (⟨hrow, hseg, hX, hon, hx, hy, hle⟩ : _ ∧ _ ∧ _ ∧ _ ∧ _ ∧ _ ∧ _)
          clear hrow hseg hX hon hx hy hle
          by_cases hp0 : p < 0
          · go_wp2
            refine wp_region_ext_lit (by kernel_rfl) (by kernel_rfl) ?_
            (repeat (first | ((with_reducible refine wpQuiet_step (fun K hK => ?_)); go_simp; first | ((with_reducible refine hK _ ?_); clear hK K) | (apply Exists.intro; (with_reducible refine ⟨fun _ => ?_, hK _ ?_⟩); (go_at_call 36; exact Calls.ext_of (hC _)); clear hK K)) | ((with_reducible refine quiet_skipN ?_ (fun K hK => ?_)); (rfl); go_simp; (with_reducible refine hK _ ?_); clear hK K)))
            (with_reducible refine wpQuiet_nil ?_); intro _ hw'; obtain ⟨X, hw''⟩ := hw'; subst hw''
            go_wp2
            refine First.wp_region_first_ext [9, 13] [0, 1, 2, 3, 4, 5, 6, 7, 8, 10, 11, 12, 14, 16] [(true, false, 0), (true, false, 1), (true, false, 2), (true, false, 3), (true, false, 4), (true, false, 5), (true, false, 6), (true, false, 7), (true, false, 8), (true, true, 9), (true, false, 10), (true, false, 11), (true, false, 12), (true, true, 13), (true, false, 14), (false, false, 15), (true, false, 16), (false, false, 17)] (by kernel_rfl) (by kernel_rfl) (fun Z => ?_); simp only [List.map_cons, List.map_nil, List.getD_cons_zero, List.getD_cons_succ]
            (repeat (first | (refine First.wpF_pure (fun K hK => ?_); go_simp; first | (refine hK _ _ ?_; clear hK K) | (apply Exists.intro; refine ⟨fun _ => ?_, hK _ _ ?_⟩; fail)) | (refine First.wpF_free (fun K hK => ?_); go_simp; first | (refine hK _ _ ?_; clear hK K))))
            have hrZ : Row2 (wr.ext (X.cat Z)) g n Q := H.out.1.below (World.below_ext _ _) lg
            have hoZ : Only w (wr.ext (X.cat Z)) g := H.out.2.2.2.1.ext _
            generalize wr.ext (X.cat Z) = W0 at *
            refine First.wpF_must (fun K hK => ?_)
            refine wpList_storeP rfl (.tmp 51) (.tmp 46) rfl g ((k + 1) * 2) y rfl rfl (fun j hj => hrZ.some (by omega)) (fun j hj => hrZ.frozen _) ?_
            have hr1 := hrZ.set (a := k + 1) (by omega) y
            have ho1 := hoZ.trans (only_setCells y.cells ((k + 1) * 2) W0)
            have hsw := hrZ.swap H.out.2.2.2.2.1 H.out.2.2.2.2.2.1
            generalize W0.setCells g ((k + 1) * 2) y.cells = W1 at *
            refine hK _ _ (fun hnd => Bool.noConfusion hnd) ?_
            clear hK K
            (repeat (first | (refine First.wpF_pure (fun K hK => ?_); go_simp; first | (refine hK _ _ ?_; clear hK K) | (apply Exists.intro; refine ⟨fun _ => ?_, hK _ _ ?_⟩; fail)) | (refine First.wpF_free (fun K hK => ?_); go_simp; first | (refine hK _ _ ?_; clear hK K))))
            refine First.wpF_must (fun K hK => ?_)
            refine wpList_storeP rfl (.tmp 52) (.tmp 50) rfl g (k * 2) x rfl rfl (fun j hj => hr1.some (by omega)) (fun j hj => hr1.frozen _) ?_
            have ho2 := ho1.trans (only_setCells x.cells (k * 2) W1)
            generalize W1.setCells g (k * 2) x.cells = W2 at *
            refine hK _ _ (fun hnd => Bool.noConfusion hnd) ?_
            clear hK K
            refine First.wpF_nil ?_
            obtain ⟨hrow, hseg, hX, hon, hx, hy, hle⟩ := H.out
            have hql := hrow.len
            have hX2 := hX.step (by omega) (by omega) (by omega) hx (by simpa using hy) (by unfold leN; omega)
            have hs2 := hseg.trans (swp_seg (P := Q) (i := k + 1) (j := k) (a := a) (b := b) (by omega) (by omega) (by omega))
            have HH := hide (⟨hsw, hs2, hX2, ho2⟩ : _ ∧ _ ∧ _ ∧ _)
            clear hrow hseg hX hon hx hy hle H hrZ hoZ hr1 ho1 hsw hs2 hX2 ho2
            go_wp2
            go_roundw
            case rel =>
              obtain ⟨h1, h2, h3, h4⟩ := HH.out
              exact ⟨k, _, by omega, by omega, by go_num, h1, h2, h3, h4⟩
            case measure => simp [intOf]; omega
          · go_wp2
            refine wp_region_ext_lit (by kernel_rfl) (by kernel_rfl) ?_
            (repeat (first | ((with_reducible refine wpQuiet_step (fun K hK => ?_)); go_simp; first | ((with_reducible refine hK _ ?_); clear hK K) | (apply Exists.intro; (with_reducible refine ⟨fun _ => ?_, hK _ ?_⟩); (go_at_call 36; exact Calls.ext_of (hC _)); clear hK K)) | ((with_reducible refine quiet_skipN ?_ (fun K hK => ?_)); (rfl); go_simp; (with_reducible refine hK _ ?_); clear hK K)))
            (with_reducible refine wpQuiet_nil ?_); intro _ hw'; obtain ⟨X, hw''⟩ := hw'; subst hw''
            go_wp2
            obtain ⟨hrow, hseg, hX, hon, hx, hy, hle⟩ := H.out
            have hS := hX.done (.inr ⟨y, x, by simpa using hy, hx, by unfold leN; omega⟩)
            have HH := hide (⟨hrow.below (World.below_ext _ X) lg, hseg, hS, hon.ext X⟩ : _ ∧ _ ∧ _ ∧ _)
            clear hrow hseg hX hon hx hy hle H hS
            go_roundw
            case rel =>
              obtain ⟨h1, h2, h3, h4⟩ := HH.out
              exact ⟨i + 1, Q, by omega, .inl (by omega), by go_num, h1, h2, h3, h4⟩
            case measure => simp [intOf]; omega
        · obtain rfl : j = a := by omega
          have hS := hX.done (.inl (Nat.le_refl _))
          have HH := hide (⟨hrow, hseg, hS, hon⟩ : _ ∧ _ ∧ _ ∧ _)
          clear hrow hseg hX hon hS
          go_wp2
          refine wp_region_ext_lit (by kernel_rfl) (by kernel_rfl) ?_
          (repeat (first | ((with_reducible refine wpQuiet_step (fun K hK => ?_)); go_simp; first | ((with_reducible refine hK _ ?_); clear hK K) | (apply Exists.intro; (with_reducible refine ⟨fun _ => ?_, hK _ ?_⟩); fail; clear hK K)) | ((with_reducible refine quiet_skipN ?_ (fun K hK => ?_)); (rfl); go_simp; (with_reducible refine hK _ ?_); clear hK K)))
          (with_reducible refine wpQuiet_nil ?_); intro _ hw'; obtain ⟨X, hw''⟩ := hw'; subst hw''
          go_wp2
          go_roundw
          case rel =>
            obtain ⟨h1, h2, h3, h4⟩ := HH.out
            exact ⟨i + 1, Q, by omega, .inl (by omega), by go_num, h1.below (World.below_ext _ X) lg, h2, h3, h4.ext X⟩
          case measure => simp [intOf]; omega
    · have hS : SrtS Q a b := hsrt.part (Nat.le_refl _) (by omega)
      have HH := hide (⟨⟨Q, hrow, hseg, hS⟩, hon⟩ : (∃ Q, Row2 wr g n Q ∧ Seg a b P Q ∧ SrtS Q a b) ∧ _)
      clear hrow hseg hsrt hS hon
      have hii : ¬ ((i : Int) < b) := by omega
      go_wp2
      refine bodyPost_end (v := .tuple #[]) (by simp [results, Try.results51, go_sem] <;> rfl) rfl ⟨rfl, ?_⟩
      exact HH.out
end Go.Proofs.Ytmfbidhnafpkdaa
