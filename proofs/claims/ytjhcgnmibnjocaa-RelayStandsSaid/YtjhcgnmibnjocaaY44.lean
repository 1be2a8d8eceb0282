import Derived.Test.YtjhcgnmibnjocaaY43
/-! A message's bytes: the document's. -/
namespace Go.Proofs.Ytjhcgnmibnjocaa
open Go.RowKit Go.Maps
set_option linter.unusedVariables false
set_option linter.unusedSimpArgs false
set_option maxRecDepth 100000 in
set_option maxHeartbeats 4000000 in
theorem dencode_any {T : Nat → Prop} (m : Mg) (vm vl : Value) (w : World) (h : MgW w T vm vl m) (hm : m.num) :
    Calls Try.prog 27 #[.agg #[.int .i64 m.k, .int .i64 m.e, .int .i64 m.v.e, .int .i64 m.v.p, vm, .int .i64 m.i, .int .i64 m.s, vl]] w fun o w' => ∃ u, o = .returned u ∧ Row w' w.heap.size u (mgB m) ∧ Below w.heap.size w w' := by
  obtain ⟨Av, cv, Bv, dv, rfl, rfl, hrm, _, hEm⟩ := h.sl
  have hok := hEm.okAll
  have h1 := numB_le _ (zig_lt _ hm.k)
  have h2 := numB_le _ (zig_lt _ hm.e)
  have h3 := viewB_le hm.v.e hm.v.p hm.v.l hm.vn
  have h4 := numB_le _ (zig_lt _ hm.i)
  have h5 := numB_le _ (zig_lt _ hm.s)
  have h6 := logB_le hok (by have := hm.ln; omega)
  have hln := hm.ln
  have hvn := hm.vn
  have hB := Blk.new w 35 #[.int .i64 m.k, .int .i64 m.e, .int .i64 m.v.e, .int .i64 m.v.p, (.slice Av m.v.l.length cv), .int .i64 m.i, .int .i64 m.s, (.slice Bv m.log.length dv)]
  have hb0 : Below w.heap.size w (w.alloc (.cells #[.int .i64 m.k, .int .i64 m.e, .int .i64 m.v.e, .int .i64 m.v.p, (.slice Av m.v.l.length cv), .int .i64 m.i, .int .i64 m.s, (.slice Bv m.log.length dv)] 35)) := Below.alloc (Below.refl _ _) (Nat.le_refl _) _
  go_enter Try.func27, Try.ntmps27
  go_wp2
  refine wp_region_below (w.heap.size + 1) [1, 4] [0, 3] [(true, false, 0), (true, true, 1), (true, false, 3), (true, true, 4), (false, true, 2), (false, false, 5), (false, false, 6)] (by kernel_rfl) (by kernel_rfl) (fun Y => ?_); simp only [List.map_cons, List.map_nil, List.getD_cons_zero, List.getD_cons_succ]
  have hBY := Blk.ext hB Y
  have lt1 : w.heap.size < w.heap.size + 1 := by omega
  (repeat (first | (refine First.wpF_pure (fun K hK => ?_); go_simp; first | (refine hK _ _ ?_; clear hK K) | (apply Exists.intro; refine ⟨fun _ => ?_, hK _ _ ?_⟩; fail)) | (refine First.wpF_free (fun K hK => ?_); go_simp; first | (refine hK _ _ ?_; clear hK K))))
  (refine first_read rfl (v := .int .i64 m.k) (fun w' hw' => ?_) (fun K hK => ?_); rotate_left 1; go_simp; refine hK _ _ ?_; clear hK K; rotate_left 1; (have hB' := Blk.below hBY hw' lt1; have c' := Blk.cell hB'; go_simp))
  (repeat (first | (refine First.wpF_pure (fun K hK => ?_); go_simp; first | (refine hK _ _ ?_; clear hK K) | (apply Exists.intro; refine ⟨fun _ => ?_, hK _ _ ?_⟩; fail)) | (refine First.wpF_free (fun K hK => ?_); go_simp; first | (refine hK _ _ ?_; clear hK K))))
  (refine first_read rfl (v := .int .i64 m.e) (fun w' hw' => ?_) (fun K hK => ?_); rotate_left 1; go_simp; refine hK _ _ ?_; clear hK K; rotate_left 1; (have hB' := Blk.below hBY hw' lt1; have c' := Blk.cell hB'; go_simp))
  (repeat (first | (refine First.wpF_pure (fun K hK => ?_); go_simp; first | (refine hK _ _ ?_; clear hK K) | (apply Exists.intro; refine ⟨fun _ => ?_, hK _ _ ?_⟩; fail)) | (refine First.wpF_free (fun K hK => ?_); go_simp; first | (refine hK _ _ ?_; clear hK K))))
  refine First.wpF_must (fun K hK => ?_)
  go_wp2_with (go_at_call 69; (with_reducible refine (rint_any (w.heap.size + 1) _ [] m.k _ (Row.nil _ _) (by simp [World.size_ext] <;> omega) hm.k (by simp)).mono ?_); rintro r w1 ⟨v1, rfl, hr1, hc1⟩; rw [List.nil_append] at hr1; have hb1 := Chg.below hc1 (Row.nil _ (w.heap.size + 1)) (by simp [World.size_ext] <;> omega))
  (refine hK _ _ (fun _ => hb1) ?_; clear hK K)
  (repeat (first | (refine First.wpF_pure (fun K hK => ?_); go_simp; first | (refine hK _ _ ?_; clear hK K) | (apply Exists.intro; refine ⟨fun _ => ?_, hK _ _ ?_⟩; fail)) | (refine First.wpF_free (fun K hK => ?_); go_simp; first | (refine hK _ _ ?_; clear hK K))))
  refine First.wpF_must (fun K hK => ?_)
  go_wp2_with (go_at_call 69; (with_reducible refine (rint_any (w.heap.size + 1) _ _ m.e _ hr1 (by have := hb1.size; simp [World.size_ext] at this; omega) hm.e (by omega)).mono ?_); rintro r w2 ⟨v2, rfl, hr2, hc2⟩; have hb2 := Chg.below hc2 hr1 (by have := hb1.size; simp [World.size_ext] at this; omega))
  (refine hK _ _ (fun _ => hb2) ?_; clear hK K)
  (repeat (first | (refine First.wpF_pure (fun K hK => ?_); go_simp; first | (refine hK _ _ ?_; clear hK K) | (apply Exists.intro; refine ⟨fun _ => ?_, hK _ _ ?_⟩; fail)) | (refine First.wpF_free (fun K hK => ?_); go_simp; first | (refine hK _ _ ?_; clear hK K))))
  refine First.wpF_must (fun K hK => ?_)
  go_wp2
  (refine hK _ _ (fun _ => Below.refl _ _) ?_; clear hK K)
  refine First.wpF_nil ?_
  have hB2 := Blk.below (Blk.below hBY hb1 lt1) hb2 lt1
  have hb02 : Below w.heap.size w w2 := ((Below.ext hb0 (by simp) Y).trans (hb1.mono (by omega))).trans (hb2.mono (by omega))
  have hs2 := hb2.size
  have hs1 := hb1.size
  simp only [World.size_ext, World.size_alloc] at hs1
  have hsz : w.heap.size + 1 ≤ w2.heap.size := by omega
  clear hr1 hc1 hb1 hc2 hb2 hBY
  have cB2 := hB2.cell
  have lB2 := hB2.lt
  have hAv : 0 < m.v.l.length → ∀ a, Av = some a → a.block < w.heap.size + 1 := fun h0 a ha => by
    obtain ⟨a', e', hl', _⟩ := hrm.2 (by omega)
    rw [ha] at e'; cases e'
    omega
  have hrd := Reads.kp hrm (Kp.of_below (S := fun _ => False) hb02) (fun _ _ _ h => h)
  go_upto_region 3 with (go_at_call 70; (with_reducible refine (rvputG_any (w.heap.size + 1) _ _ m.v.e m.v.p Av _ cv m.v.l w2 hr2 hsz hrd hAv hm.v.e hm.v.p hm.v.l (by omega) (by simp only [List.length_append]; omega)).mono ?_); rintro r w3 ⟨⟨v3, rfl, hr3⟩, hb3⟩; have hB3 := Blk.below hB2 hb3 lt1; have cB3 := hB3.cell; have lB3 := hB3.lt)
  have hb03 : Below w.heap.size w w3 := hb02.trans (hb3.mono (by omega))
  have hs3 := hb3.size
  clear hr2 hB2 cB2 lB2 hb3 cB3 lB3
  refine wp_region_below (w.heap.size + 1) [2, 5] [0, 1, 4] [(true, false, 0), (true, false, 1), (true, true, 2), (true, false, 4), (true, true, 5), (false, true, 3), (false, false, 6), (false, false, 7)] (by kernel_rfl) (by kernel_rfl) (fun Z => ?_); simp only [List.map_cons, List.map_nil, List.getD_cons_zero, List.getD_cons_succ]
  have hBZ := Blk.ext hB3 Z
  have hbZ : Below (w.heap.size + 1) w3 (w3.ext Z) := (World.below_ext w3 Z).mono (by omega)
  have hrZ : Row (w3.ext Z) (w.heap.size + 1) v3 (numB (zig m.k) ++ numB (zig m.e) ++ viewB m.v.e m.v.p m.v.l) := own_keep hr3 (fun k _ hk => (World.below_ext w3 Z).block k hk)
  have hsZ := hbZ.size
  (repeat (first | (refine First.wpF_pure (fun K hK => ?_); go_simp; first | (refine hK _ _ ?_; clear hK K) | (apply Exists.intro; refine ⟨fun _ => ?_, hK _ _ ?_⟩; fail)) | (refine First.wpF_free (fun K hK => ?_); go_simp; first | (refine hK _ _ ?_; clear hK K))))
  (refine first_read rfl (v := .int .i64 m.i) (fun w' hw' => ?_) (fun K hK => ?_); rotate_left 1; go_simp; refine hK _ _ ?_; clear hK K; rotate_left 1; (have hB' := Blk.below hBZ hw' lt1; have c' := Blk.cell hB'; go_simp))
  (repeat (first | (refine First.wpF_pure (fun K hK => ?_); go_simp; first | (refine hK _ _ ?_; clear hK K) | (apply Exists.intro; refine ⟨fun _ => ?_, hK _ _ ?_⟩; fail)) | (refine First.wpF_free (fun K hK => ?_); go_simp; first | (refine hK _ _ ?_; clear hK K))))
  (refine first_read rfl (v := .int .i64 m.s) (fun w' hw' => ?_) (fun K hK => ?_); rotate_left 1; go_simp; refine hK _ _ ?_; clear hK K; rotate_left 1; (have hB' := Blk.below hBZ hw' lt1; have c' := Blk.cell hB'; go_simp))
  (repeat (first | (refine First.wpF_pure (fun K hK => ?_); go_simp; first | (refine hK _ _ ?_; clear hK K) | (apply Exists.intro; refine ⟨fun _ => ?_, hK _ _ ?_⟩; fail)) | (refine First.wpF_free (fun K hK => ?_); go_simp; first | (refine hK _ _ ?_; clear hK K))))
  refine First.wpF_must (fun K hK => ?_)
  go_wp2_with (go_at_call 69; (with_reducible refine (rint_any (w.heap.size + 1) _ _ m.i _ hrZ (by omega) hm.i (by simp only [List.length_append]; omega)).mono ?_); rintro r w4 ⟨v4, rfl, hr4, hc4⟩; have hb4 := Chg.below hc4 hrZ (by omega))
  (refine hK _ _ (fun _ => hb4) ?_; clear hK K)
  (repeat (first | (refine First.wpF_pure (fun K hK => ?_); go_simp; first | (refine hK _ _ ?_; clear hK K) | (apply Exists.intro; refine ⟨fun _ => ?_, hK _ _ ?_⟩; fail)) | (refine First.wpF_free (fun K hK => ?_); go_simp; first | (refine hK _ _ ?_; clear hK K))))
  have hs4 := hb4.size
  refine First.wpF_must (fun K hK => ?_)
  go_wp2_with (go_at_call 69; (with_reducible refine (rint_any (w.heap.size + 1) _ _ m.s _ hr4 (by omega) hm.s (by simp only [List.length_append]; omega)).mono ?_); rintro r w5 ⟨v5, rfl, hr5, hc5⟩; have hb5 := Chg.below hc5 hr4 (by omega))
  (refine hK _ _ (fun _ => hb5) ?_; clear hK K)
  (repeat (first | (refine First.wpF_pure (fun K hK => ?_); go_simp; first | (refine hK _ _ ?_; clear hK K) | (apply Exists.intro; refine ⟨fun _ => ?_, hK _ _ ?_⟩; fail)) | (refine First.wpF_free (fun K hK => ?_); go_simp; first | (refine hK _ _ ?_; clear hK K))))
  refine First.wpF_must (fun K hK => ?_)
  go_wp2
  (refine hK _ _ (fun _ => Below.refl _ _) ?_; clear hK K)
  refine First.wpF_nil ?_
  have hB5 := Blk.below (Blk.below hBZ hb4 lt1) hb5 lt1
  have cB5 := hB5.cell
  have lB5 := hB5.lt
  have hb05 : Below w.heap.size w w5 := ((hb03.trans (hbZ.mono (by omega))).trans (hb4.mono (by omega))).trans (hb5.mono (by omega))
  have hs5 := hb5.size
  have hE5 : Ents w5 (fun k => w.heap.size + 1 ≤ k) Bv m.log.length m.log := (hEm.later hb05).sub fun k _ hk => by omega
  go_wp2_with (go_at_call 71; (with_reducible refine (dputLog_any (w.heap.size + 1) _ _ Bv _ dv m.log w5 hr5 (by omega) hE5 (by omega) (by simp only [List.length_append]; omega)).mono ?_); rintro r w6 ⟨⟨v6, rfl, hr6⟩, hb6⟩)
  go_ret
  refine ⟨v6, rfl, ?_, hb05.trans (hb6.mono (by omega))⟩
  have h7 := own_low hr6 (Nat.le_succ w.heap.size)
  unfold Row
  simpa [mgB, List.append_assoc] using h7
end Go.Proofs.Ytjhcgnmibnjocaa
