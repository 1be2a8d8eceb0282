import Derived.Test.YthajbeooemngpaaVPlays
import Derived.Test.YthajbeooemngpaaVGet2
/-! A view laid behind bytes; a view as the program's. -/
namespace Go.Proofs.Ythajbeooemngpaa
open Go.RowKit
set_option linter.unusedVariables false
set_option linter.unusedSimpArgs false
theorem Kp.of_chw {w w' : World} {g : Nat} {v v' : Value} (h : Chw w w' g v v') : Kp (fun k => k = g ∨ v.ownBlock = some k) w w' :=
  ⟨h.os, h.tape, h.output, h.size, fun k hk hn => h.block k hk (fun e => hn (.inl e)) (fun e => hn (.inr e))⟩
theorem run_copy_grown {w w' : World} {A : Option Addr} {n c : Nat} {l : List Int} {v : Value} (hr : Reads w w.heap.size 1 A n (ints l)) (hn : n * 8 ≤ 140737488355328)
    (h : (Builtin.append_ #[54, 54] 54 #[.slice (some ⟨w.heap.size, 0, none⟩) 0 0, .slice A n c]).run Try.prog (w.alloc (.cells #[] 3)) = .ok v w') : First.Grown (w.alloc (.cells #[] 3)) w' := by
  obtain ⟨i0, hi, hz0, hz1, hz2⟩ := info_parts infoI64
  have hl := reads_len hr
  rcases Nat.eq_zero_or_pos n with h0 | h0
  · subst h0
    have hs : Src Try.prog i0.size 54 (.slice A 0 c) 0 [] (w.alloc (.cells #[] 3)) := by
      cases A with
      | none => exact Src.ofNil _ Try.underlying54 c
      | some ad => exact Src.ofSlice _ Try.underlying54 ad 0 c [] (by simp) (fun j u hu => by cases hu) (fun u hu => by cases hu)
    have h2 := run_append_room_src (P := Try.prog) (w.alloc (.cells #[] 3)) 54 54 54 3 i0 Try.underlying54 hi w.heap.size 0 0 0 (.slice A 0 c) 0 [] hs (Nat.le_refl _) (fun j hj => by cases hj) (fun j hj => by cases hj)
    rw [h] at h2
    injection h2 with _ h3
    rw [h3]
    exact First.Grown.refl _
  · obtain ⟨ad, rfl, hb, hc⟩ := hr.2 h0
    have h2 := run_append_grow (P := Try.prog) (w.alloc (.cells #[] 3)) 54 54 3 i0 (.int .i64 0) Try.underlying54 hi hz0 ⟨w.heap.size, 0, none⟩ 0 0 [] (by simp) (fun j u hu => by cases hu) ad n c (ints l) (by rw [ints_length, hl, hz1, Nat.mul_one])
      (fun j u hu => by rw [World.cell?_alloc_lt w _ _ (by rw [block_of_add]; exact hb)]; exact hc j u hu) (by omega) (by omega) (growslice_fits (by omega) (by rw [hz2]; omega))
    rw [h] at h2
    injection h2 with _ h3
    rw [h3]
    have hbb : Below (w.alloc (.cells #[] 3)).heap.size (w.alloc (.cells #[] 3)) (w.alloc (.cells #[] 3)).drew := Below.drew (Below.refl _ _)
    exact World.ext_of_below (hbb.alloc (Nat.le_refl _) _)
def tailB (l : List Int) : List Nat := l.flatMap fun x => numB (zig x)
def viewB (e p : Int) (l : List Int) : List Nat := numB (zig e) ++ (numB (zig p) ++ (numB l.length ++ tailB l))
theorem tailB_take {l : List Int} {j : Nat} {x : Int} (h : l[j]? = some x) : tailB (l.take (j + 1)) = tailB (l.take j) ++ numB (zig x) := by
  unfold tailB
  rw [List.take_add_one, h, List.flatMap_append]
  simp
theorem tailB_le {l : List Int} (h : ∀ x ∈ l, I64 x) : (tailB l).length ≤ 9 * l.length := by
  induction l with
  | nil => simp [tailB]
  | cons x l ih =>
    have h1 := numB_le _ (zig_lt _ (h x (by simp)))
    have h2 := ih (fun y hy => h y (by simp [hy]))
    simp only [tailB, List.flatMap_cons, List.length_append, List.length_cons] at *
    omega
set_option maxRecDepth 100000 in
set_option maxHeartbeats 2000000 in
theorem vto_any (e p : Int) (A : Option Addr) (n c : Nat) (l : List Int) (w : World) (hr : Reads w w.heap.size 1 A n (ints l)) (hn : n * 8 ≤ 140737488355328) :
    Calls Try.prog 62 #[.agg #[.int .i64 e, .int .i64 p, .slice A n c]] w fun r w' => (∃ v, r = .returned (.agg #[.int .i64 e, .int .i64 p, v]) ∧ w'.ownsRow w.heap.size 3 1 v n (ints l)) ∧ Below w.heap.size w w' := by
  have hrX : ∀ o1 o2 X, Reads (((w.alloc o1).alloc o2).ext X) (((w.alloc o1).alloc o2).ext X).heap.size 1 A n (ints l) := fun o1 o2 X => (((hr.alloc (Nat.le_refl _) o1).alloc (by simp) o2).ext (by simp; omega) X).more (by simp [World.size_ext]; omega)
  go_enter Try.func62, Try.ntmps62
  go_wp2
  refine First.wp_region_first_ext [1, 3, 6] [0, 2, 5, 8] [(true, false, 0), (true, true, 1), (true, false, 2), (true, true, 3), (true, false, 5), (true, true, 6), (false, true, 4), (false, true, 7), (true, false, 8), (false, false, 9)] (by kernel_rfl) (by kernel_rfl) (fun X => ?_); simp only [List.map_cons, List.map_nil, List.getD_cons_zero, List.getD_cons_succ]
  obtain ⟨v, w1, hap, ho, hb⟩ := run_copy (((w.alloc (.cells #[.int .i64 e, .int .i64 p, .slice A n c] 66)).alloc (.cells #[.int .i64 0, .int .i64 0, .slice none 0 0] 56)).ext X) A n c l (hrX _ _ X) hn
  obtain ⟨A1, c1, rfl, hc1⟩ := own_sl ho
  have hZ := Blk.below (Blk.ext (Blk.made w (.cells #[.int .i64 e, .int .i64 p, .slice A n c] 66) 56 #[.int .i64 0, .int .i64 0, .slice none 0 0]) X) hb (by simp [World.size_ext]; omega)
  have cZ := hZ.cell
  have fZ := hZ.frozen
  have lZ := hZ.lt
  have hgr := run_copy_grown (hrX _ _ X) hn hap
  simp only [World.size_ext, World.size_alloc] at hap
  (repeat (first | (refine First.wpF_pure (fun K hK => ?_); go_simp; first | (refine hK _ _ ?_; clear hK K) | (apply Exists.intro; refine ⟨fun _ => ?_, hK _ _ ?_⟩; fail)) | (refine First.wpF_free (fun K hK => ?_); go_simp; first | (refine hK _ _ ?_; clear hK K))))
  refine First.wpF_must (fun K hK => ?_)
  go_wp2
  (refine hK _ _ (fun hnd => by first | exact Bool.noConfusion hnd | assumption | with_reducible exact grown_alloc _ _ | with_reducible exact First.Grown.refl _ | with_reducible exact First.Grown.cat _ _ _ | with_reducible exact First.Grown.ext _ _) ?_; clear hK K)
  (repeat (first | (refine First.wpF_pure (fun K hK => ?_); go_simp; first | (refine hK _ _ ?_; clear hK K) | (apply Exists.intro; refine ⟨fun _ => ?_, hK _ _ ?_⟩; fail)) | (refine First.wpF_free (fun K hK => ?_); go_simp; first | (refine hK _ _ ?_; clear hK K))))
  refine First.wpF_must (fun K hK => ?_)
  go_wp2_with (at_builtin; refine wpList_append_run rfl _ _ 54 rfl rfl rfl hap ?_)
  (refine hK _ _ (fun _ => hgr) ?_; clear hK K)
  (repeat (first | (refine First.wpF_pure (fun K hK => ?_); go_simp; first | (refine hK _ _ ?_; clear hK K) | (apply Exists.intro; refine ⟨fun _ => ?_, hK _ _ ?_⟩; fail)) | (refine First.wpF_free (fun K hK => ?_); go_simp; first | (refine hK _ _ ?_; clear hK K))))
  refine First.wpF_must (fun K hK => ?_)
  go_wp2
  (refine hK _ _ (fun hnd => by first | exact Bool.noConfusion hnd | assumption | with_reducible exact grown_alloc _ _ | with_reducible exact First.Grown.refl _ | with_reducible exact First.Grown.cat _ _ _ | with_reducible exact First.Grown.ext _ _) ?_; clear hK K)
  refine First.wpF_nil ?_
  go_wp2
  refine bodyPost_cell Try.results62 rfl (Blk.three hZ) Try.underlying56 rfl (by kernel_rfl) rfl ⟨⟨_, rfl, own_low (own_set (own_set (own_set ho (by simp [World.size_ext]; omega) _) (by simp [World.size_ext]; omega) _) (by simp [World.size_ext]; omega) _) (by simp [World.size_ext]; omega)⟩, ?_⟩
  have hbw : Below w.heap.size w w1 := (Below.ext (Below.alloc (Below.alloc (Below.refl _ _) (Nat.le_refl _) _) (by simp) _) (by simp; omega) X).trans (hb.mono (by simp [World.size_ext]; omega))
  (repeat' (first | with_reducible exact Below.refl _ _ | with_reducible refine Below.ext ?_ ?_ _ | with_reducible refine Below.alloc ?_ ?_ _ | with_reducible refine Below.setCell ?_ ?_ _ | with_reducible refine Below.drew ?_ | with_reducible assumption | (simp [World.size_ext]; done) | (simp [World.size_ext]; omega)))
set_option maxRecDepth 100000 in
set_option maxHeartbeats 2000000 in
theorem vput_any (base g : Nat) (v : Value) (xs : List Nat) (e p : Int) (A : Option Addr) (n c : Nat) (l : List Int) (w : World) (hw : Wrt w base g 124 v xs) (hr : Reads w w.heap.size 1 A n (ints l)) (hA : 0 < n → ∀ a, A = some a → ¬(a.block = g ∨ v.ownBlock = some a.block))
    (he : I64 e) (hp : I64 p) (hl64 : ∀ x ∈ l, I64 x) (hn : n ≤ 50) (hlen : xs.length ≤ 1000) :
    Calls Try.prog 61 #[.pointer (some ⟨g, 0, none⟩), .agg #[.int .i64 e, .int .i64 p, .slice A n c]] w fun r w' => r = .returned (.tuple #[]) ∧ ∃ v', Wrt w' base g 124 v' (xs ++ viewB e p l) ∧ Chw w w' g v v' := by
  have hl := reads_len hr
  have hb0 : Below w.heap.size w (w.alloc (.cells #[.int .i64 e, .int .i64 p, .slice A n c] 56)) := Below.alloc (Below.refl _ _) (Nat.le_refl _) _
  have h0 := hw.below hb0
  have hB := Blk.new w 56 #[.int .i64 e, .int .i64 p, .slice A n c]
  have hne := hw.row.far (Nat.le_refl _)
  have hgl := hw.blk.lt
  have hgb : w.heap.size ≠ g := by omega
  have l1 := numB_le _ (zig_lt _ he)
  have l2 := numB_le _ (zig_lt _ hp)
  have l3 := numB_le n (by omega)
  have k1 : IntKind.u64.wrap (n : Int) = (n : Int) := by show (n : Int) % 18446744073709551616 = _; omega
  have hu : U64 (n : Int) := by unfold U64; omega
  go_enter Try.func61, Try.ntmps61
  go_wp2_with (first | (go_at_call 46; ((with_reducible refine (int_any _ _ _ _ _ _ h0 he (by omega)).mono ?_); rintro r w1 ⟨rfl, v1, hw1, hc1⟩; have hB1 := Blk.chw hB hc1 hgb hne; have cB1 := hB1.cell; have lB1 := hB1.lt)) | (go_at_call 46; (with_reducible refine (int_any _ _ _ _ _ _ hw1 hp (by simp only [List.length_append]; omega)).mono ?_); rintro r w2 ⟨rfl, v2, hw2, hc2⟩; have hc02 := hc1.trans hc2; have hB2 := Blk.chw hB hc02 hgb hne; have cB2 := hB2.cell; have lB2 := hB2.lt) | (go_at_call 45; (with_reducible refine (num_any _ _ _ _ _ _ hw2 hu (by simp only [List.length_append]; omega)).mono ?_); rintro r w3 ⟨rfl, v3, hw3, hc3⟩; have hc03 := hc02.trans hc3; have hB3 := Blk.chw hB hc03 hgb hne; have cB3 := hB3.cell; have lB3 := hB3.lt))
  have hr0 := (hr.alloc (Nat.le_refl _) (.cells #[.int .i64 e, .int .i64 p, .slice A n c] 56)).more (B' := (w.alloc (.cells #[.int .i64 e, .int .i64 p, .slice A n c] 56)).heap.size) (by simp)
  clear h0 hB hw1 hw2 hc1 hc2 hc3 hc02 hB1 hB2 hB3 cB1 cB2 cB3 lB1 lB2 lB3 hr
  go_loopw [23] (fun vi wr => ∃ (j : Nat) (v' : Value), j ≤ n ∧ vi = .int .i64 (j : Int) ∧ Wrt wr base g 124 v' (xs ++ numB (zig e) ++ numB (zig p) ++ numB n ++ tailB (l.take j)) ∧ Chw (w.alloc (.cells #[.int .i64 e, .int .i64 p, .slice A n c] 56)) wr g v v') (fun vi _ => ((n : Int) - intOf vi).toNat)
  case atStart =>
    rw [Int.toNat_natCast] at hw3
    exact ⟨0, v3, by omega, rfl, by simpa [tailB] using hw3, hc03⟩
  case round =>
    clear hw3 hc03
    obtain ⟨j, v', hj, rfl, hw', hc⟩ := hrel
    obtain ⟨wo, rfl⟩ : ∃ wo : World, wo = wr := ⟨_, rfl⟩
    have hs0 := hc.size
    have htl := tailB_le (l := l.take j) (fun x hx => hl64 x (List.mem_of_mem_take hx))
    have htk : (l.take j).length ≤ 50 := by rw [List.length_take]; omega
    by_cases hlt : j < n
    · have hrw := Reads.kp hr0 (Kp.of_chw hc) hA
      obtain ⟨b, o, rfl, hbb, hcc⟩ := hrw.plain (by omega) (by omega)
      have hg : l[j]? = some l[j] := List.getElem?_eq_getElem (by omega)
      have m1 := hcc _ _ (ints_get hg)
      have hx := hl64 _ (List.getElem_mem (by omega : j < l.length))
      have hlj : (j : Int) < n := by omega
      have hT := hide (tailB_take hg)
      generalize l[j] = x at *
      have hI := int_any base g v' _ x wo hw' hx (by simp only [List.length_append]; omega)
      clear hr0 hrw hcc hg
      go_wp2_with (go_at_call 46; (with_reducible refine hI.mono ?_); rintro r w5 ⟨rfl, v5, hw5, hc5⟩)
      go_roundw
      case rel => exact ⟨j + 1, v5, by omega, by go_num, by rw [hT.out, ← List.append_assoc]; exact hw5, hc.trans hc5⟩
      case measure => simp [intOf]; omega
    · obtain rfl : n = j := by omega
      clear hr0
      go_wp2
      refine bodyPost_end (v := .tuple #[]) (by simp [results, Try.results61, go_sem] <;> rfl) rfl ⟨rfl, ?_⟩
      refine ⟨v', ?_, (Chw.of_below hb0).trans hc⟩
      rw [List.take_of_length_le (by omega)] at hw'
      simpa [viewB, List.append_assoc, hl] using hw'
end Go.Proofs.Ythajbeooemngpaa
