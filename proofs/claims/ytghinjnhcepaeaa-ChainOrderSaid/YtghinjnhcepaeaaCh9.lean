import Derived.Test.YtghinjnhcepaeaaCh8
/-! The document's chain: Last, Get. -/
namespace Go.Proofs.Ytghinjnhcepaeaa
open Go.RowKit
set_option linter.unusedVariables false
set_option linter.unusedSimpArgs false
theorem cntLe_all {l : List Ver} {k : Int} {j : Nat} {x : Ver} (hs : Srt l) (hx : l[j]? = some x) (hk : x.k ≤ k) : cntLe (l.take (j + 1)) k = j + 1 := by
  have hj := (List.getElem?_eq_some_iff.1 hx).1
  unfold cntLe
  rw [List.countP_eq_length.2, List.length_take]
  · omega
  · intro y hy
    obtain ⟨i, hi⟩ := List.getElem?_of_mem hy
    have hij : i < j + 1 := by have := (List.getElem?_eq_some_iff.1 hi).1; rw [List.length_take] at this; omega
    rw [List.getElem?_take_of_lt hij] at hi
    rcases Nat.lt_or_ge i j with h | h
    · have := hs.lt h hi hx; simp; omega
    · obtain rfl : i = j := by omega
      rw [hx] at hi; cases hi; simpa using hk
theorem cntLe_keep {l : List Ver} {k : Int} {j : Nat} {x : Ver} (hx : l[j]? = some x) (hk : k < x.k) : cntLe (l.take (j + 1)) k = cntLe (l.take j) k := by
  unfold cntLe
  rw [List.take_add_one, hx, List.countP_append]
  simp; omega
set_option maxRecDepth 100000 in
set_option maxHeartbeats 4000000 in
theorem rlast_any (A : Option Addr) (n c : Nat) (l : List Ver) (t : Ver) (w : World) (hr : Reads w w.heap.size 6 A n (vsV l)) (hn : n ≤ 4611686018427387904) (hs : Srt l) (hok : ∀ x ∈ l, x.ok) (ht : t.ok) :
    Calls Try.prog 28 #[.slice A n c, .agg #[.int .i64 t.a, .int .u32 t.b, .int .u32 t.c]] w fun e w' => e = .returned (.int .i64 ((cntLe l t.k : Int) - 1)) ∧ Below w.heap.size w w' := by
  have hl := vreads_len hr
  go_enter Try.func28, Try.ntmps28
  go_wp2
  obtain ⟨w1, hw1⟩ : ∃ w1, w1 = w.alloc (.cells #[.int .i64 t.a, .int .u32 t.b, .int .u32 t.c] 24) := ⟨_, rfl⟩
  have hB := Blk.new w 24 #[.int .i64 t.a, .int .u32 t.b, .int .u32 t.c]
  have hb01 : Below w.heap.size w w1 := hw1 ▸ Below.alloc (Below.refl _ _) (Nat.le_refl _) _
  rw [← hw1] at hB ⊢
  clear hw1
  generalize hq : w.heap.size = q at *
  go_loopw [5, 6] (fun s5 s6 wr => ∃ (j : Nat) (X : Ext), s5 = .int .i64 ((cntLe (l.take j) t.k : Int) - 1) ∧ s6 = .int .i64 (j : Int) ∧ j ≤ n ∧ wr = w1.ext X) (fun _ s6 _ => ((n : Int) - intOf s6).toNat)
  case atStart => exact ⟨0, ⟨#[], w1.drawn⟩, rfl, rfl, by omega, by simp [World.ext]⟩
  case round =>
    obtain ⟨j, X, rfl, rfl, hj, rfl⟩ := hrel
    by_cases hlt : j < n
    · obtain ⟨b, o, rfl, hbb, hc⟩ := hr.plain (by omega) (by omega)
      have hcw : ∀ (j : Nat) (u : Value), (vsV l)[j]? = some u → w1.cell? ⟨b, o + j, none⟩ = some u := fun j u hu => (hb01.cell (p := ⟨b, _, none⟩) hbb).trans (hc j u hu)
      obtain ⟨x, hg⟩ : ∃ x, l[j]? = some x := ⟨l[j]'(by omega), List.getElem?_eq_getElem (by omega)⟩
      have hxo := hok x (List.mem_of_getElem? hg)
      have m0 : (w1).cell? ⟨b, o + j * 6, none⟩ = some (.int .i64 (x).a) := hcw _ _ (vsV_get hg 0 _ rfl); have m1 : (w1).cell? ⟨b, o + j * 6 + 1, none⟩ = some (.int .u32 (x).b) := hcw _ _ (vsV_get hg 1 _ rfl); have m2 : (w1).cell? ⟨b, o + j * 6 + 2, none⟩ = some (.int .u32 (x).c) := hcw _ _ (vsV_get hg 2 _ rfl); have m3 : (w1).cell? ⟨b, o + j * 6 + 3, none⟩ = some (.int .i64 (x).kd) := hcw _ _ (vsV_get hg 3 _ rfl); have m4 : (w1).cell? ⟨b, o + j * 6 + 4, none⟩ = some (.int .i64 (x).num) := hcw _ _ (vsV_get hg 4 _ rfl); have m5 : (w1).cell? ⟨b, o + j * 6 + 5, none⟩ = some (.string (x).text) := hcw _ _ (vsV_get hg 5 _ rfl)
      have cB := hB.cell
      have lB := hB.lt
      have hbw : b < w1.heap.size := by omega
      have hji : (j : Int) < n := by omega
      have hP := below_any t.a t.b t.c x.a x.b x.c
      rw [belowV ht hxo] at hP
      by_cases hx : t.k < x.k
      · rw [decide_eq_true hx] at hP
        have H := hide (cntLe_keep hg hx)
        clear hc hcw hr hok
        generalize cntLe (l.take j) t.k = m at *
        go_wp2
        refine First.wp_region_first_ext [0, 5] [1, 2, 3, 4, 7] [(true, true, 0), (true, false, 1), (true, false, 2), (true, false, 3), (true, false, 4), (true, true, 5), (false, false, 6), (true, false, 7)] (by kernel_rfl) (by kernel_rfl) (fun Y => ?_); simp only [List.map_cons, List.map_nil, List.getD_cons_zero, List.getD_cons_succ]
        (repeat (first | (refine First.wpF_pure (fun K hK => ?_); go_simp; first | (refine hK _ _ ?_; clear hK K) | (apply Exists.intro; refine ⟨fun _ => ?_, hK _ _ ?_⟩; fail)) | (refine First.wpF_free (fun K hK => ?_); go_simp; first | (refine hK _ _ ?_; clear hK K))))
        refine First.wpF_must (fun K hK => ?_)
        go_wp2_with (go_at_call 23; (with_reducible refine (hP _).mono ?_); rintro e w' ⟨rfl, hb⟩; obtain ⟨X, rfl⟩ := World.ext_of_below hb; clear hb)
        (refine hK _ _ (fun hnd => by first | exact Bool.noConfusion hnd | assumption | with_reducible exact grown_alloc _ _ | with_reducible exact First.Grown.refl _ | with_reducible exact First.Grown.cat _ _ _ | with_reducible exact First.Grown.ext _ _) ?_; clear hK K)
        (repeat (first | (refine First.wpF_pure (fun K hK => ?_); go_simp; first | (refine hK _ _ ?_; clear hK K) | (apply Exists.intro; refine ⟨fun _ => ?_, hK _ _ ?_⟩; fail)) | (refine First.wpF_free (fun K hK => ?_); go_simp; first | (refine hK _ _ ?_; clear hK K))))
        refine First.wpF_nil ?_
        go_wp2
        go_roundw
        case rel => exact ⟨j + 1, _, by rw [H.out], by go_num, by omega, rfl⟩
        case measure => simp [intOf]; omega
      · rw [decide_eq_false hx] at hP
        have H := hide (cntLe_all (k := t.k) hs hg (by omega))
        clear hc hcw hr hok
        generalize cntLe (l.take j) t.k = m at *
        go_wp2
        refine First.wp_region_first_ext [0, 5] [1, 2, 3, 4, 7] [(true, true, 0), (true, false, 1), (true, false, 2), (true, false, 3), (true, false, 4), (true, true, 5), (false, false, 6), (true, false, 7)] (by kernel_rfl) (by kernel_rfl) (fun Y => ?_); simp only [List.map_cons, List.map_nil, List.getD_cons_zero, List.getD_cons_succ]
        (repeat (first | (refine First.wpF_pure (fun K hK => ?_); go_simp; first | (refine hK _ _ ?_; clear hK K) | (apply Exists.intro; refine ⟨fun _ => ?_, hK _ _ ?_⟩; fail)) | (refine First.wpF_free (fun K hK => ?_); go_simp; first | (refine hK _ _ ?_; clear hK K))))
        refine First.wpF_must (fun K hK => ?_)
        go_wp2_with (go_at_call 23; (with_reducible refine (hP _).mono ?_); rintro e w' ⟨rfl, hb⟩; obtain ⟨X, rfl⟩ := World.ext_of_below hb; clear hb)
        (refine hK _ _ (fun hnd => by first | exact Bool.noConfusion hnd | assumption | with_reducible exact grown_alloc _ _ | with_reducible exact First.Grown.refl _ | with_reducible exact First.Grown.cat _ _ _ | with_reducible exact First.Grown.ext _ _) ?_; clear hK K)
        (repeat (first | (refine First.wpF_pure (fun K hK => ?_); go_simp; first | (refine hK _ _ ?_; clear hK K) | (apply Exists.intro; refine ⟨fun _ => ?_, hK _ _ ?_⟩; fail)) | (refine First.wpF_free (fun K hK => ?_); go_simp; first | (refine hK _ _ ?_; clear hK K))))
        refine First.wpF_nil ?_
        go_wp2
        go_roundw
        case rel => exact ⟨j + 1, _, by rw [H.out]; go_num, by go_num, by omega, rfl⟩
        case measure => simp [intOf]; omega
    · obtain rfl : j = n := by omega
      rw [List.take_of_length_le (by omega)]
      go_wp2
      go_ret
      exact ⟨rfl, by rw [hq]; exact hb01.trans ((World.below_ext _ _).mono (Nat.le_of_lt hB.lt))⟩
end Go.Proofs.Ytghinjnhcepaeaa
