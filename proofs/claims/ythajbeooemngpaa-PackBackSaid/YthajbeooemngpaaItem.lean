import Derived.Test.YthajbeooemngpaaPut
/-! Things that are laid: the program's writer and the document's beside each other. -/
namespace Go.Proofs.Ythajbeooemngpaa
open Go.RowKit
set_option linter.unusedVariables false
set_option linter.unusedSimpArgs false
set_option maxRecDepth 100000 in
set_option maxHeartbeats 2000000 in
theorem stampw_any (base g : Nat) (v : Value) (xs : List Nat) (a b c : Int) (w : World) (hw : Wrt w base g 124 v xs) (ha : I64 a) (hb : U32 b) (hc : U32 c) (hlen : xs.length + 16 ≤ 140737488355328) :
    Calls Try.prog 48 #[.pointer (some ⟨g, 0, none⟩), .agg #[.int .i64 a, .int .u32 b, .int .u32 c]] w fun e w' => e = .returned (.tuple #[]) ∧ ∃ v', Wrt w' base g 124 v' (xs ++ stampBytes a b c) ∧ Chw w w' g v v' := by
  have hw0 := hw.below (Below.alloc (Below.refl _ _) (Nat.le_refl _) (.cells #[.int .i64 a, .int .u32 b, .int .u32 c] 93))
  have hg0 : Chw w (w.alloc (.cells #[.int .i64 a, .int .u32 b, .int .u32 c] 93)) g v v := Chw.of_below (Below.alloc (Below.refl _ _) (Nat.le_refl _) _)
  have c0 := hw0.blk.cell
  have f0 := hw0.blk.frozen
  have l0 := hw0.blk.lt
  have hgl := hw.blk.lt
  have hne : g ≠ w.heap.size := by omega
  go_enter Try.func48, Try.ntmps48
  go_wp2
  refine First.wp_region_first_ext [4, 5] [0, 1, 2, 3, 8, 9] [(true, false, 0), (true, false, 1), (true, false, 2), (true, false, 3), (true, true, 4), (true, true, 5), (false, true, 6), (false, false, 7), (true, false, 8), (true, false, 9), (false, false, 10)] (by kernel_rfl) (by kernel_rfl) (fun Y => ?_); simp only [List.map_cons, List.map_nil, List.getD_cons_zero, List.getD_cons_succ]
  (repeat (first | (refine First.wpF_pure (fun K hK => ?_); go_simp; first | (refine hK _ _ ?_; clear hK K) | (apply Exists.intro; refine ⟨fun _ => ?_, hK _ _ ?_⟩; fail)) | (refine First.wpF_free (fun K hK => ?_); go_simp; first | (refine hK _ _ ?_; clear hK K))))
  refine First.wpF_must (fun K hK => ?_)
  go_wp2_with (go_at_call 81; (with_reducible refine (put_any _ _ _ _ ha hb hc).mono ?_); rintro e w1 ⟨u, rfl, hu, hb1⟩)
  have hgr : First.Grown _ w1 := World.ext_of_below hb1
  (refine hK _ _ (fun hnd => by first | exact Bool.noConfusion hnd | assumption | with_reducible exact grown_alloc _ _ | with_reducible exact First.Grown.refl _ | with_reducible exact First.Grown.cat _ _ _ | with_reducible exact First.Grown.ext _ _) ?_; clear hK K)
  obtain ⟨B0, hu'⟩ : ∃ B, Row w1 B u (stampBytes a b c) := ⟨_, by unfold Row; rw [stampBytes_length]; exact hu⟩
  have hw1 := (hw0.below (World.below_ext _ Y)).below hb1
  have hg1 := (hg0.trans (Chw.of_below (World.below_ext _ Y))).trans (Chw.of_below hb1)
  clear hw0 hg0 hb1 hgr c0 f0
  obtain ⟨A1, k1, rfl, _, _, hnil, hru⟩ := hu'.slice
  refine First.wpF_must (fun K hK => ?_)
  (at_builtin; go_must (refine app_row rfl (.tmp 10) (.tmp 12) 23 rfl Try.underlying23 infoU8 base v (xs) (stampBytes a b c) A1 _ k1 rfl hw1.row rfl ?c0 ?c1 ?c2 ?c3 ?c4 ?_))
  case c0 => rfl
  case c1 => exact hru
  case c2 => exact hnil
  case c3 => rw [stampBytes_length]; omega
  case c4 => have := hg1.size; have := hw.ge; omega
  intro v2 w2 hr2 hc2
  have c2 := (hw1.chg hc2).cell
  have f2 := (hw1.chg hc2).frozen
  have l2 := (hw1.chg hc2).lt
  obtain ⟨hw3, hg3⟩ := hw1.set_ hc2 hr2
  obtain ⟨A2, n2, k2, rfl⟩ := hr2.shape
  go_wp2
  (refine hK _ _ (fun hnd => by first | exact Bool.noConfusion hnd | assumption | with_reducible exact grown_alloc _ _ | with_reducible exact First.Grown.refl _ | with_reducible exact First.Grown.cat _ _ _ | with_reducible exact First.Grown.ext _ _) ?_; clear hK K)
  (repeat (first | (refine First.wpF_pure (fun K hK => ?_); go_simp; first | (refine hK _ _ ?_; clear hK K) | (apply Exists.intro; refine ⟨fun _ => ?_, hK _ _ ?_⟩; fail)) | (refine First.wpF_free (fun K hK => ?_); go_simp; first | (refine hK _ _ ?_; clear hK K))))
  refine First.wpF_must (fun K hK => ?_)
  go_wp2
  (refine hK _ _ (fun hnd => by first | exact Bool.noConfusion hnd | assumption | with_reducible exact grown_alloc _ _ | with_reducible exact First.Grown.refl _ | with_reducible exact First.Grown.cat _ _ _ | with_reducible exact First.Grown.ext _ _) ?_; clear hK K)
  refine First.wpF_nil ?_
  go_wp2
  refine bodyPost_end (v := .tuple #[]) (by simp [results, Try.results48, go_sem] <;> rfl) rfl ⟨rfl, ?_⟩
  exact ⟨_, hw3, hg1.trans hg3⟩
set_option maxRecDepth 100000 in
set_option maxHeartbeats 1000000 in
theorem rstamp_any (base : Nat) (v : Value) (xs : List Nat) (a b c : Int) (w : World) (hw : Row w base v xs) (hbase : base ≤ w.heap.size) (ha : I64 a) (hb : U32 b) (hc : U32 c) (hlen : xs.length + 16 ≤ 140737488355328) :
    Calls Try.prog 73 #[v, .agg #[.int .i64 a, .int .u32 b, .int .u32 c]] w fun e w' => ∃ v', e = .returned v' ∧ Row w' base v' (xs ++ stampBytes a b c) ∧ Chg w w' v v' := by
  have hb0 : Below w.heap.size w (w.alloc (.cells #[.int .i64 a, .int .u32 b, .int .u32 c] 49)) := Below.alloc (Below.refl _ _) (Nat.le_refl _) _
  go_enter Try.func73, Try.ntmps73
  go_wp2_with (first | (go_at_call 91; (with_reducible refine (rput_any _ _ _ _ ha hb hc).mono ?_); rintro e w1 ⟨u, rfl, hu, hb1⟩; obtain ⟨B0, hu'⟩ : ∃ B, Row w1 B u (stampBytes a b c) := ⟨_, by unfold Row; rw [stampBytes_length]; exact hu⟩; obtain ⟨A1, k1, rfl, _, _, hnil, hru⟩ := hu'.slice; have hb01 : Below w.heap.size w w1 := hb0.trans (hb1.mono (by simp)); have hw1 := hw.below hb01; have hs01 := hb01.size) | (at_builtin; go_must (refine app_row rfl (.tmp 5) (.tmp 7) 23 rfl Try.underlying23 infoU8 base v (xs) (stampBytes a b c) A1 _ k1 rfl hw1 rfl ?c0 ?c1 ?c2 ?c3 ?c4 ?_)))
  case c0 => rfl
  case c1 => exact hru
  case c2 => exact hnil
  case c3 => rw [stampBytes_length]; omega
  case c4 => omega
  intro v2 w2 hr2 hc2
  go_wp2
  refine bodyPost_ret (v := v2) (by simp [results, Try.results73, go_sem] <;> rfl) rfl ⟨_, rfl, hr2, (Chg.of_below hb01).trans hc2⟩
end Go.Proofs.Ythajbeooemngpaa
