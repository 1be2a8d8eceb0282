import Derived.Test.YthajbeooemngpaaVPut
/-! The document's Put of a view. -/
namespace Go.Proofs.Ythajbeooemngpaa
open Go.RowKit
set_option linter.unusedVariables false
set_option linter.unusedSimpArgs false
theorem wp_region_below (B : Nat) {P : Program} {id : Nat} {Q : Exit → Act → World → Prop} {a : Act} {w : World} {l : List Oper} (Vs Ps : List Nat) (ks : List (Bool × Bool × Nat)) (hm : P.follows .mixedOrders = true)
    (hB : (Region.noSelect l.toArray && decide (ks.length = l.length) && First.orderB .any l.toArray Vs Ps ks (Array.replicate l.length false)) = true)
    (h : ∀ X, First.wpF P l.toArray (fun w w' => Below B w w') (Q .normal) (ks.map fun k => (k.1, k.2.1, l.getD k.2.2 default)) a (w.ext X)) : (Code.region id l.toArray true).wp P Q a w := by
  have hw₁ : ({ w with drawn := w.drawn + 1 } : World) = w.ext ⟨#[], w.drawn + 1⟩ := by simp [World.ext]
  exact First.wp_region_first _ (fun w => Below.refl B w) (fun w w' w'' h h' => h.trans h') Vs Ps ks hm hB (hw₁ ▸ h _)
set_option maxRecDepth 100000 in
set_option maxHeartbeats 4000000 in
theorem rvput_any (e p : Int) (A : Option Addr) (n c : Nat) (l : List Int) (w : World) (hr : Reads w w.heap.size 1 A n (ints l)) (he : I64 e) (hp : I64 p) (hl64 : ∀ x ∈ l, I64 x) (hn : n ≤ 50) :
    Calls Try.prog 65 #[.slice none 0 0, .agg #[.int .i64 e, .int .i64 p, .slice A n c]] w fun r w' => (∃ u, r = .returned u ∧ Row w' w.heap.size u (viewB e p l)) ∧ Below w.heap.size w w' := by
  have hl := reads_len hr
  have hB := Blk.new w 66 #[.int .i64 e, .int .i64 p, .slice A n c]
  have hb0 : Below w.heap.size w (w.alloc (.cells #[.int .i64 e, .int .i64 p, .slice A n c] 66)) := Below.alloc (Below.refl _ _) (Nat.le_refl _) _
  have l1 := numB_le _ (zig_lt _ he)
  have l2 := numB_le _ (zig_lt _ hp)
  have l3 := numB_le n (by omega)
  have k1 : IntKind.u64.wrap (n : Int) = (n : Int) := by show (n : Int) % 18446744073709551616 = _; omega
  have hu : U64 (n : Int) := by unfold U64; omega
  go_enter Try.func65, Try.ntmps65
  go_wp2
  refine wp_region_below (w.heap.size + 1) [2, 5] [0, 1, 4] [(true, false, 0), (true, false, 1), (true, true, 2), (true, false, 4), (true, true, 5), (false, true, 3), (false, false, 6), (false, false, 7)] (by kernel_rfl) (by kernel_rfl) (fun Y => ?_); simp only [List.map_cons, List.map_nil, List.getD_cons_zero, List.getD_cons_succ]
  have hBY := Blk.ext hB Y
  have lt1 : w.heap.size < w.heap.size + 1 := by omega
  (repeat (first | (refine First.wpF_pure (fun K hK => ?_); go_simp; first | (refine hK _ _ ?_; clear hK K) | (apply Exists.intro; refine ⟨fun _ => ?_, hK _ _ ?_⟩; fail)) | (refine First.wpF_free (fun K hK => ?_); go_simp; first | (refine hK _ _ ?_; clear hK K))))
  (refine first_read rfl (v := .int .i64 e) (fun w' hw' => ?_) (fun K hK => ?_); rotate_left 1; go_simp; refine hK _ _ ?_; clear hK K; rotate_left 1; (have hB' := Blk.below hBY hw' lt1; have c' := Blk.cell hB'; go_simp))
  (repeat (first | (refine First.wpF_pure (fun K hK => ?_); go_simp; first | (refine hK _ _ ?_; clear hK K) | (apply Exists.intro; refine ⟨fun _ => ?_, hK _ _ ?_⟩; fail)) | (refine First.wpF_free (fun K hK => ?_); go_simp; first | (refine hK _ _ ?_; clear hK K))))
  (refine first_read rfl (v := .int .i64 p) (fun w' hw' => ?_) (fun K hK => ?_); rotate_left 1; go_simp; refine hK _ _ ?_; clear hK K; rotate_left 1; (have hB' := Blk.below hBY hw' lt1; have c' := Blk.cell hB'; go_simp))
  (repeat (first | (refine First.wpF_pure (fun K hK => ?_); go_simp; first | (refine hK _ _ ?_; clear hK K) | (apply Exists.intro; refine ⟨fun _ => ?_, hK _ _ ?_⟩; fail)) | (refine First.wpF_free (fun K hK => ?_); go_simp; first | (refine hK _ _ ?_; clear hK K))))
  refine First.wpF_must (fun K hK => ?_)
  go_wp2_with (go_at_call 68; (with_reducible refine (rint_any (w.heap.size + 1) _ [] e _ (Row.nil _ _) (by simp [World.size_ext] <;> omega) he (by simp)).mono ?_); rintro r w1 ⟨v1, rfl, hr1, hc1⟩; rw [List.nil_append] at hr1; have hb1 := Chg.below hc1 (Row.nil _ (w.heap.size + 1)) (by simp [World.size_ext] <;> omega))
  (refine hK _ _ (fun _ => hb1) ?_; clear hK K)
  (repeat (first | (refine First.wpF_pure (fun K hK => ?_); go_simp; first | (refine hK _ _ ?_; clear hK K) | (apply Exists.intro; refine ⟨fun _ => ?_, hK _ _ ?_⟩; fail)) | (refine First.wpF_free (fun K hK => ?_); go_simp; first | (refine hK _ _ ?_; clear hK K))))
  refine First.wpF_must (fun K hK => ?_)
  go_wp2_with (go_at_call 68; (with_reducible refine (rint_any (w.heap.size + 1) _ _ p _ hr1 (by have := hb1.size; simp [World.size_ext] at this; omega) hp (by omega)).mono ?_); rintro r w2 ⟨v2, rfl, hr2, hc2⟩; have hb2 := Chg.below hc2 hr1 (by have := hb1.size; simp [World.size_ext] at this; omega))
  (refine hK _ _ (fun _ => hb2) ?_; clear hK K)
  (repeat (first | (refine First.wpF_pure (fun K hK => ?_); go_simp; first | (refine hK _ _ ?_; clear hK K) | (apply Exists.intro; refine ⟨fun _ => ?_, hK _ _ ?_⟩; fail)) | (refine First.wpF_free (fun K hK => ?_); go_simp; first | (refine hK _ _ ?_; clear hK K))))
  refine First.wpF_must (fun K hK => ?_)
  go_wp2
  (refine hK _ _ (fun _ => Below.refl _ _) ?_; clear hK K)
  refine First.wpF_nil ?_
  have hB2 := Blk.below (Blk.below hBY hb1 lt1) hb2 lt1
  have cB2 := hB2.cell
  have lB2 := hB2.lt
  have hb02 : Below w.heap.size w w2 := ((Below.ext hb0 (by simp) Y).trans (hb1.mono (by omega))).trans (hb2.mono (by omega))
  have hs2 := hb2.size
  have hs1 := hb1.size
  simp only [World.size_ext, World.size_alloc] at hs1
  have hsz : w.heap.size + 1 ≤ w2.heap.size := by omega
  clear hr1 hc1 hb1 hc2 hb2 hBY
  go_wp2_with (go_at_call 67; (with_reducible refine (rnum_any (w.heap.size + 1) _ _ (n : Int) _ hr2 hsz hu (by simp only [List.length_append]; omega)).mono ?_); rintro r w3 ⟨v3, rfl, hr3, hc3⟩; rw [Int.toNat_natCast] at hr3; have hb3 := Chg.below hc3 hr2 hsz; have hB3 := Blk.below hB2 hb3 lt1; have cB3 := hB3.cell; have lB3 := hB3.lt)
  have hb03 : Below w.heap.size w w3 := hb02.trans (hb3.mono (by omega))
  clear hr2 hB2 cB2 lB2 hb02 hc3 hb3 cB3 lB3 hB hb0
  go_loopw [0, 5] (fun vu vi wr => ∃ j : Nat, j ≤ n ∧ vi = .int .i64 (j : Int) ∧ Row wr (w.heap.size + 1) vu (numB (zig e) ++ numB (zig p) ++ numB n ++ tailB (l.take j)) ∧ Blk wr w.heap.size 66 #[.int .i64 e, .int .i64 p, .slice A n c] ∧ Below w.heap.size w wr) (fun _ vi _ => ((n : Int) - intOf vi).toNat)
  case atStart => exact ⟨0, by omega, rfl, by simpa [tailB] using hr3, hB3, hb03⟩
  case round =>
    clear hr3 hB3 hb03
    obtain ⟨j, hj, rfl, hu', hBw, hb⟩ := hrel
    obtain ⟨wo, rfl⟩ : ∃ wo : World, wo = wr := ⟨_, rfl⟩
    have cB := hBw.cell
    have lB := hBw.lt
    have hs0 := hb.size
    have htl := tailB_le (l := l.take j) (fun x hx => hl64 x (List.mem_of_mem_take hx))
    have htk : (l.take j).length ≤ 50 := by rw [List.length_take]; omega
    by_cases hlt : j < n
    · obtain ⟨b, o, rfl, hbb, hcc⟩ := hr.plain (by omega) (by omega)
      have hg : l[j]? = some l[j] := List.getElem?_eq_getElem (by omega)
      have m1 : wo.cell? ⟨b, o + j, none⟩ = some (.int .i64 l[j]) := by rw [hb.cell (p := ⟨b, _, none⟩) hbb]; exact hcc _ _ (ints_get hg)
      have hx := hl64 _ (List.getElem_mem (by omega : j < l.length))
      have hlj : (j : Int) < n := by omega
      have hbw : b < wo.heap.size := by omega
      have hT := hide (tailB_take hg)
      generalize l[j] = x at *
      have hI := rint_any (w.heap.size + 1) _ _ x wo hu' (by omega) hx (by simp only [List.length_append]; omega)
      clear hcc hg
      go_wp2_with (go_at_call 68; (with_reducible refine hI.mono ?_); rintro r w5 ⟨v5, rfl, hr5, hc5⟩; have hb5 := Chg.below hc5 hu' (by omega))
      go_roundw
      case rel => exact ⟨j + 1, by omega, by go_num, by rw [hT.out, ← List.append_assoc]; exact hr5, Blk.below hBw hb5 lt1, hb.trans (hb5.mono (by omega))⟩
      case measure => simp [intOf]; omega
    · obtain rfl : n = j := by omega
      go_wp2
      go_ret
      refine ⟨⟨_, rfl, ?_⟩, hb⟩
      rw [List.take_of_length_le (by omega)] at hu'
      have h2 := own_low hu' (Nat.le_succ w.heap.size)
      unfold Row
      simpa [viewB, List.append_assoc, hl] using h2
end Go.Proofs.Ythajbeooemngpaa
