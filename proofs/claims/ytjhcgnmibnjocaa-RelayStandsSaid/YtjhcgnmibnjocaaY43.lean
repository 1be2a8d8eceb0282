import Derived.Test.YtjhcgnmibnjocaaY42
/-! A message's bytes: the document's. -/
namespace Go.Proofs.Ytjhcgnmibnjocaa
open Go.RowKit Go.Maps
set_option linter.unusedVariables false
set_option linter.unusedSimpArgs false
theorem chg_box {w w' : World} {q : Nat} {u u' : Value} (hc : Chg w w' u u') (hq : u.ownBlock ≠ some q) (hl : q < w.heap.size) : u'.ownBlock ≠ some q ∧ Kp (fun k => k ≠ q) w w' := by
  refine ⟨fun e => ?_, ⟨hc.os, hc.tape, hc.output, hc.size, fun k hk hn => hc.block k hk ?_⟩⟩
  · rcases hc.lies with e' | ⟨b, e', hb⟩
    · rw [e'] at e; exact hq e
    · rw [e'] at e; cases e; omega
  · obtain rfl : k = q := Classical.not_not.1 hn
    exact hq
theorem row_far {w : World} {base : Nat} {u : Value} {xs : List Nat} (h : Row w base u xs) : u.ownBlock ≠ some w.heap.size := fun e => by
  have := (h.ge e).2
  omega
set_option maxRecDepth 100000 in
set_option maxHeartbeats 4000000 in
theorem rvputG_any (base : Nat) (v : Value) (xs : List Nat) (e p : Int) (A : Option Addr) (n c : Nat) (l : List Int) (w : World) (hw : Row w base v xs) (hbase : base ≤ w.heap.size) (hr : Reads w w.heap.size 1 A n (ints l)) (hA : 0 < n → ∀ a, A = some a → a.block < base)
    (he : I64 e) (hp : I64 p) (hl64 : ∀ x ∈ l, I64 x) (hn : n ≤ 50) (hlen : xs.length ≤ 1000) :
    Calls Try.prog 70 #[v, .agg #[.int .i64 e, .int .i64 p, .slice A n c]] w fun r w' => (∃ u, r = .returned u ∧ Row w' base u (xs ++ viewB e p l)) ∧ Below base w w' := by
  have hl := reads_len hr
  have hfar := row_far hw
  obtain ⟨vA, vc, rfl, _⟩ := own_sl hw
  have hB := Blk.new w 31 #[.int .i64 e, .int .i64 p, .slice A n c]
  have hb0 : Below w.heap.size w (w.alloc (.cells #[.int .i64 e, .int .i64 p, .slice A n c] 31)) := Below.alloc (Below.refl _ _) (Nat.le_refl _) _
  have l1 := numB_le _ (zig_lt _ he)
  have l2 := numB_le _ (zig_lt _ hp)
  have l3 := numB_le n (by omega)
  have k1 : IntKind.u64.wrap (n : Int) = (n : Int) := by show (n : Int) % 18446744073709551616 = _; omega
  have hu : U64 (n : Int) := by unfold U64; omega
  go_enter Try.func70, Try.ntmps70
  go_wp2
  refine wp_region_kp (fun k => k ≠ w.heap.size) [2, 5] [0, 1, 4] [(true, false, 0), (true, false, 1), (true, true, 2), (true, false, 4), (true, true, 5), (false, true, 3), (false, false, 6), (false, false, 7)] (by kernel_rfl) (by kernel_rfl) (fun Y => ?_); simp only [List.map_cons, List.map_nil, List.getD_cons_zero, List.getD_cons_succ]
  have hnq : ¬(w.heap.size ≠ w.heap.size) := fun h => h rfl
  have hbY : Below w.heap.size w ((w.alloc (.cells #[.int .i64 e, .int .i64 p, .slice A n c] 31)).ext Y) := hb0.trans ((World.below_ext _ Y).mono (by simp))
  have hwY : Row ((w.alloc (.cells #[.int .i64 e, .int .i64 p, .slice A n c] 31)).ext Y) base (.slice vA xs.length vc) xs := own_keep hw (fun k _ hk => hbY.block k hk)
  have hsY : w.heap.size < ((w.alloc (.cells #[.int .i64 e, .int .i64 p, .slice A n c] 31)).ext Y).heap.size := by simp only [World.size_ext, World.size_alloc]; omega
  (repeat (first | (refine First.wpF_pure (fun K hK => ?_); go_simp; first | (refine hK _ _ ?_; clear hK K) | (apply Exists.intro; refine ⟨fun _ => ?_, hK _ _ ?_⟩; fail)) | (refine First.wpF_free (fun K hK => ?_); go_simp; first | (refine hK _ _ ?_; clear hK K))))
  (refine first_readG rfl (v := .int .i64 e) (fun w' hw' => ?_) (fun K hK => ?_); rotate_left 1; go_simp; refine hK _ _ ?_; clear hK K; rotate_left 1; (have hB' := Blk.kp (Blk.ext hB _) hw' hnq; have c' := Blk.cell hB'; go_simp))
  (repeat (first | (refine First.wpF_pure (fun K hK => ?_); go_simp; first | (refine hK _ _ ?_; clear hK K) | (apply Exists.intro; refine ⟨fun _ => ?_, hK _ _ ?_⟩; fail)) | (refine First.wpF_free (fun K hK => ?_); go_simp; first | (refine hK _ _ ?_; clear hK K))))
  (refine first_readG rfl (v := .int .i64 p) (fun w' hw' => ?_) (fun K hK => ?_); rotate_left 1; go_simp; refine hK _ _ ?_; clear hK K; rotate_left 1; (have hB' := Blk.kp (Blk.ext hB _) hw' hnq; have c' := Blk.cell hB'; go_simp))
  (repeat (first | (refine First.wpF_pure (fun K hK => ?_); go_simp; first | (refine hK _ _ ?_; clear hK K) | (apply Exists.intro; refine ⟨fun _ => ?_, hK _ _ ?_⟩; fail)) | (refine First.wpF_free (fun K hK => ?_); go_simp; first | (refine hK _ _ ?_; clear hK K))))
  refine First.wpF_must (fun K hK => ?_)
  go_wp2_with (go_at_call 69; (with_reducible refine (rint_any base _ _ e _ hwY (by omega) he (by omega)).mono ?_); rintro r w1 ⟨v1, rfl, hr1, hc1⟩; have hx1 := chg_box hc1 hfar hsY; have hb1 := Chg.below hc1 hwY (by omega))
  (refine hK _ _ (fun _ => hx1.2) ?_; clear hK K)
  (repeat (first | (refine First.wpF_pure (fun K hK => ?_); go_simp; first | (refine hK _ _ ?_; clear hK K) | (apply Exists.intro; refine ⟨fun _ => ?_, hK _ _ ?_⟩; fail)) | (refine First.wpF_free (fun K hK => ?_); go_simp; first | (refine hK _ _ ?_; clear hK K))))
  have hs1 := hb1.size
  refine First.wpF_must (fun K hK => ?_)
  go_wp2_with (go_at_call 69; (with_reducible refine (rint_any base _ _ p _ hr1 (by omega) hp (by simp only [List.length_append]; omega)).mono ?_); rintro r w2 ⟨v2, rfl, hr2, hc2⟩; have hx2 := chg_box hc2 hx1.1 (by omega); have hb2 := Chg.below hc2 hr1 (by omega))
  (refine hK _ _ (fun _ => hx2.2) ?_; clear hK K)
  (repeat (first | (refine First.wpF_pure (fun K hK => ?_); go_simp; first | (refine hK _ _ ?_; clear hK K) | (apply Exists.intro; refine ⟨fun _ => ?_, hK _ _ ?_⟩; fail)) | (refine First.wpF_free (fun K hK => ?_); go_simp; first | (refine hK _ _ ?_; clear hK K))))
  refine First.wpF_must (fun K hK => ?_)
  go_wp2
  (refine hK _ _ (fun _ => Kp.refl _ _) ?_; clear hK K)
  refine First.wpF_nil ?_
  have hB2 := Blk.kp (Blk.kp (Blk.ext hB Y) hx1.2 hnq) hx2.2 hnq
  have cB2 := hB2.cell
  have lB2 := hB2.lt
  have hb02 : Below base w w2 := ((hbY.mono hbase).trans hb1).trans hb2
  have hs2 := hb2.size
  have hsz : base ≤ w2.heap.size := by omega
  have hf2 := hx2.1
  clear hr1 hc1 hb1 hc2 hb2 hwY hbY hx1 hx2
  go_wp2_with (go_at_call 105; (with_reducible refine (rnum_any base _ _ (n : Int) _ hr2 hsz hu (by simp only [List.length_append]; omega)).mono ?_); rintro r w3 ⟨v3, rfl, hr3, hc3⟩; rw [Int.toNat_natCast] at hr3; have hb3 := Chg.below hc3 hr2 hsz; have hx3 := chg_box hc3 hf2 lB2; have hB3 := Blk.kp hB2 hx3.2 hnq; have cB3 := hB3.cell; have lB3 := hB3.lt)
  have hb03 : Below base w w3 := hb02.trans hb3
  have hf3 := hx3.1
  clear hr2 hB2 cB2 lB2 hb02 hc3 hb3 cB3 lB3 hB hb0 hx3 hf2
  go_loopw [0, 5] (fun vu vi wr => ∃ j : Nat, j ≤ n ∧ vi = .int .i64 (j : Int) ∧ Row wr base vu (xs ++ numB (zig e) ++ numB (zig p) ++ numB n ++ tailB (l.take j)) ∧ Blk wr w.heap.size 31 #[.int .i64 e, .int .i64 p, .slice A n c] ∧ vu.ownBlock ≠ some w.heap.size ∧ Below base w wr) (fun _ vi _ => ((n : Int) - intOf vi).toNat)
  case atStart => exact ⟨0, by omega, rfl, by simpa [tailB] using hr3, hB3, hf3, hb03⟩
  case round =>
    clear hr3 hB3 hb03 hf3
    obtain ⟨j, hj, rfl, hu', hBw, hfu, hb⟩ := hrel
    obtain ⟨wo, rfl⟩ : ∃ wo : World, wo = wr := ⟨_, rfl⟩
    have cB := hBw.cell
    have lB := hBw.lt
    have hs0 := hb.size
    have htl := tailB_le (l := l.take j) (fun x hx => hl64 x (List.mem_of_mem_take hx))
    have htk : (l.take j).length ≤ 50 := by rw [List.length_take]; omega
    by_cases hlt : j < n
    · obtain ⟨b, o, rfl, hbb, hcc⟩ := hr.plain (by omega) (by omega)
      have hbb2 := hA (by omega) _ rfl
      have hg : l[j]? = some l[j] := List.getElem?_eq_getElem (by omega)
      have m1 : wo.cell? ⟨b, o + j, none⟩ = some (.int .i64 l[j]) := by rw [hb.cell (p := ⟨b, o + j, none⟩) hbb2]; exact hcc _ _ (ints_get hg)
      have hx := hl64 _ (List.getElem_mem (by omega : j < l.length))
      have hlj : (j : Int) < n := by omega
      have hbw : b < wo.heap.size := by omega
      have hT := hide (tailB_take hg)
      generalize l[j] = x at *
      have hI := rint_any base _ _ x wo hu' (by omega) hx (by simp only [List.length_append]; omega)
      clear hcc hg
      go_wp2_with (go_at_call 69; (with_reducible refine hI.mono ?_); rintro r w5 ⟨v5, rfl, hr5, hc5⟩; have hb5 := Chg.below hc5 hu' (by omega); have hx5 := chg_box hc5 hfu lB)
      go_roundw
      case rel => exact ⟨j + 1, by omega, by go_num, by rw [hT.out, ← List.append_assoc]; exact hr5, Blk.kp hBw hx5.2 hnq, hx5.1, hb.trans hb5⟩
      case measure => simp [intOf]; omega
    · obtain rfl : n = j := by omega
      go_wp2
      go_ret
      refine ⟨⟨_, rfl, ?_⟩, hb⟩
      rw [List.take_of_length_le (by omega)] at hu'
      simpa [viewB, List.append_assoc, hl] using hu'
end Go.Proofs.Ytjhcgnmibnjocaa
