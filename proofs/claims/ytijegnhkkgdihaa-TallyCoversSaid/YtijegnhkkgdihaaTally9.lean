import Derived.Test.YtijegnhkkgdihaaTally8
import Derived.Deep.CondSized
import Derived.Test.YtijegnhkkgdihaaBulk
/-! Two parts. -/
namespace Go.Proofs.Ytijegnhkkgdihaa
open Go.RowKit
set_option linter.unusedVariables false
set_option linter.unusedSimpArgs false
theorem smps_one (l : List (Int × Int)) : ∀ u ∈ smps l, u.oneCell' = true := fun u hu => by
  obtain ⟨q, _, hq⟩ := List.mem_flatMap.1 hu
  simp at hq
  rcases hq with rfl | rfl <;> rfl
theorem sumL_bd' (l : List (Int × Int)) (h : I64s l) (hn : l.length ≤ 65536) : -1000000000000000000000000 ≤ sumL l ∧ sumL l ≤ 1000000000000000000000000 := by
  have := sumL_bd l h
  omega
theorem fold1 (l : List (Int × Int)) (h0 : l ≠ []) (hn : l.length ≤ 65536) : foldA 1 l = if -9223372036854775808 ≤ sumL l ∧ sumL l ≤ 9223372036854775807 then (sumL l, true, 0) else (0, false, 20) := by
  unfold foldA
  rw [if_neg (by omega), if_neg (by omega), if_neg h0, if_neg (by omega)]
  rfl
theorem fold2 (l : List (Int × Int)) (hn : l.length ≤ 65536) : foldA 2 l = ((l.length : Int), true, 0) := by
  unfold foldA
  rw [if_neg (by omega), if_pos rfl]
theorem fold3 (l : List (Int × Int)) (h0 : l ≠ []) (hn : l.length ≤ 65536) : foldA 3 l = (bestL 3 (l.headD (0, 0)).2 l, true, 0) := by
  unfold foldA
  rw [if_neg (by omega), if_neg (by omega), if_neg h0, if_pos (.inl rfl)]
theorem fold4 (l : List (Int × Int)) (h0 : l ≠ []) (hn : l.length ≤ 65536) : foldA 4 l = (bestL 4 (l.headD (0, 0)).2 l, true, 0) := by
  unfold foldA
  rw [if_neg (by omega), if_neg (by omega), if_neg h0, if_pos (.inr rfl)]
theorem least_join {l m : List (Int × Int)} {x y z : Int} (hx : LeastOf x l) (hy : LeastOf y m) (hz : LeastOf z (l ++ m)) : z = min x y := by
  obtain ⟨⟨p, hp, e⟩, h⟩ := hz
  obtain ⟨⟨px, hpx, ex⟩, hx'⟩ := hx
  obtain ⟨⟨py, hpy, ey⟩, hy'⟩ := hy
  have h1 := h px (List.mem_append.2 (.inl hpx))
  have h2 := h py (List.mem_append.2 (.inr hpy))
  rcases List.mem_append.1 hp with hp | hp
  · have := hx' p hp
    omega
  · have := hy' p hp
    omega
theorem greatest_join {l m : List (Int × Int)} {x y z : Int} (hx : GreatestOf x l) (hy : GreatestOf y m) (hz : GreatestOf z (l ++ m)) : z = max x y := by
  obtain ⟨⟨p, hp, e⟩, h⟩ := hz
  obtain ⟨⟨px, hpx, ex⟩, hx'⟩ := hx
  obtain ⟨⟨py, hpy, ey⟩, hy'⟩ := hy
  have h1 := h px (List.mem_append.2 (.inl hpx))
  have h2 := h py (List.mem_append.2 (.inr hpy))
  rcases List.mem_append.1 hp with hp | hp
  · have := hx' p hp
    omega
  · have := hy' p hp
    omega
set_option maxRecDepth 100000 in
set_option maxHeartbeats 4000000 in
theorem law_splits1 (A : Option Addr) (n c : Nat) (l : List (Int × Int)) (A2 : Option Addr) (n2 c2 : Nat) (l2 : List (Int × Int)) (w : World) (hr : Reads w w.heap.size 2 A n (smps l)) (hl : I64s l) (hr2 : Reads w w.heap.size 2 A2 n2 (smps l2)) (hl2 : I64s l2) (hn : n ≤ 1048576) (hn2 : n2 ≤ 1048576) (h1 : 0 < n) (h2 : 0 < n2) :
    Calls Try.prog 4 #[.slice A n c, .slice A2 n2 c2] w fun e w' => e = .returned (.bool true) ∧ Below w.heap.size w w' := by
  obtain ⟨i0, hi, hz0, hz1, hz2⟩ := info_parts infoS
  have hlen : l.length = n := by have := hr.1; rw [smps_length] at this; omega
  have hlen2 : l2.length = n2 := by have := hr2.1; rw [smps_length] at this; omega
  have hn' : n * 16 ≤ 140737488355328 := by omega
  have hn2' : n2 * 16 ≤ 140737488355328 := by omega
  go_enter Try.func4, Try.ntmps4
  go_wp2_with (first | (go_at_call 10; with_reducible refine (to_any _ _ _ _ _ hr hn').mono ?_; rintro e w1 ⟨v, rfl, ho, hb1⟩; obtain ⟨A1, cap1, rfl, hcap1⟩ := own_slice ho; have hq1 := Reads.of_own ho; have hs1 := hb1.size; clear ho; (obtain ⟨b, o, rfl, hbo, hc1⟩ := hq1.plain (by omega) (by omega))) | (go_at_call 10; with_reducible refine (to_any _ _ _ _ _ ((hr2.below hb1).more hs1) hn2').mono ?_; rintro e w2 ⟨v, rfl, ho, hb2⟩; obtain ⟨A2, cap2, rfl, hcap2⟩ := own_slice ho; have hq2 := Reads.of_own ho; have hs2 := hb2.size; clear ho; (obtain ⟨b2, o2, rfl, hbo2, hc2⟩ := hq2.plain (by omega) (by omega))) | (at_builtin; refine Held.out ?_))
  unfold Held
  refine wpList_append_own _ rfl (.tmp 24) (.tmp 25) 26 rfl w2.heap.size 36 i0 (.agg #[.int .i64 0, .int .i64 0]) 2 16 Try.underlying26 hi hz0 hz1 hz2 rfl (by decide) (.slice (some ⟨w2.heap.size, 0, none⟩) 0 0) 0 [] rfl (World.ownsRow_made (size := 2) w2 #[] 0 (Nat.le_refl _) (by unfold maxLen; omega) rfl) ⟨b, o, none⟩ n cap1 (smps l) rfl (by rw [smps_length]; omega) (fun j u hu => ?_) (smps_one l) (by unfold maxLen; omega) (by omega) (by first | omega | (simp; done) | (simp; omega)) ?_
  · rw [add_plain, World.cell?_alloc_lt _ _ _ (show b < w2.heap.size by omega), hb2.cell (p := ⟨b, _, none⟩) hbo]
    exact hc1 j u hu
  intro vy w3 hy hg3 hnil
  rw [List.nil_append, Nat.zero_add] at hy
  have hb3 : Below w2.heap.size w2 w3 := own_below ((Below.refl _ _).alloc (Nat.le_refl _) _) (World.ownsRow_made (size := 2) w2 #[] 0 (Nat.le_refl _) (by unfold maxLen; omega) rfl) hg3 (Nat.le_refl _) (by simp)
  clear hnil hg3
  have hs3 := hb3.size
  go_wp2_with (at_builtin; refine Held.out ?_)
  unfold Held
  refine wpList_append_own _ rfl (.tmp 26) (.tmp 27) 26 rfl w2.heap.size 36 i0 (.agg #[.int .i64 0, .int .i64 0]) 2 16 Try.underlying26 hi hz0 hz1 hz2 rfl (by decide) vy n (smps l) rfl hy ⟨b2, o2, none⟩ n2 cap2 (smps l2) rfl (by rw [smps_length]; omega) (fun j u hu => ?_) (smps_one l2) (by unfold maxLen; omega) (by omega) (by first | omega | (simp; done) | (simp; omega)) ?_
  · rw [add_plain, hb3.cell (p := ⟨b2, _, none⟩) hbo2]
    exact hc2 j u hu
  intro vz w4 hz hg4 hnil
  rw [← smps_append] at hz
  have hb4 : Below w2.heap.size w2 w4 := own_below hb3 hy hg4 (Nat.le_refl _) hs3
  clear hnil hg4 hy hb3 hs3
  obtain ⟨A4, cap4, rfl, hcap4⟩ := own_slice hz
  have q3 := Reads.of_own hz
  have q1 : Reads w4 w4.heap.size 2 (some ⟨b, o, none⟩) n (smps l) := (hq1.below (hb2.trans (hb4.mono hs2))).more (by have := hb4.size; omega)
  have q2 : Reads w4 w4.heap.size 2 (some ⟨b2, o2, none⟩) n2 (smps l2) := (hq2.below hb4).more hb4.size
  have hbw : Below w.heap.size w w4 := hb1.trans ((hb2.mono hs1).trans (hb4.mono (by omega)))
  have hsw := hbw.size
  clear hz hq1 hq2 hc1 hc2 hb1 hb2 hb4 hr hr2 hbo hbo2
  have cn : ((n : Int) == 0) = false := by simp; omega
  have cn2 : ((n2 : Int) == 0) = false := by simp; omega
  by_cases hbig : 65536 < n + n2
  · have c1 : decide (65536 < (n : Int) + n2) = true := by simp; omega
    go_wp2_with (first | (go_at_call 12; with_reducible refine (awake_any _).mono ?_; rintro e w' ⟨rfl, hb⟩; obtain ⟨X, rfl⟩ := World.ext_of_below hb; clear hb))
    go_ret
    refine ⟨rfl, ?_⟩
    (repeat' (first | with_reducible exact Below.refl _ _ | with_reducible refine Below.ext ?_ ?_ _ | with_reducible refine Below.alloc ?_ ?_ _ | with_reducible refine Below.setCell ?_ ?_ _ | with_reducible refine Below.drew ?_ | with_reducible assumption | (simp [World.size_ext]; done) | (simp [World.size_ext]; omega)))
  have c1 : decide (65536 < (n : Int) + n2) = false := by simp; omega
  go_wp2_with (first | (go_at_call 12; with_reducible refine (awake_any _).mono ?_; rintro e w' ⟨rfl, hb⟩; obtain ⟨X, rfl⟩ := World.ext_of_below hb; clear hb))
  have g1 : l ≠ [] := by rintro rfl; simp at hlen; omega
  have g2 : l2 ≠ [] := by rintro rfl; simp at hlen2; omega
  have g3 : l ++ l2 ≠ [] := by simp [g1]
  have hlj : (l ++ l2).length ≤ 65536 := by simp; omega
  have hIj : I64s (l ++ l2) := fun p hp => (List.mem_append.1 hp).elim (hl p) (hl2 p)
  go_loopw [8] (fun s wv => ∃ k : Nat, 1 ≤ k ∧ k ≤ 5 ∧ s = .int .i64 (k : Int) ∧ Below w4.heap.size w4 wv) (fun s _ => ((5 : Int) - intOf s).toNat)
  case atStart => exact ⟨1, by omega, by omega, rfl, by (repeat' (first | with_reducible exact Below.refl _ _ | with_reducible refine Below.ext ?_ ?_ _ | with_reducible refine Below.alloc ?_ ?_ _ | with_reducible refine Below.setCell ?_ ?_ _ | with_reducible refine Below.drew ?_ | with_reducible assumption | (simp [World.size_ext]; done) | (simp [World.size_ext]; omega)))⟩
  case round =>
    obtain ⟨k, hk1, hk5, rfl, hbel⟩ := hrel
    have hsz := hbel.size
    have hbf := hbw.trans (hbel.mono hsw)
    have hbfs := hbf.size
    have qx := (q1.below hbel).more hsz
    have qy := (q2.below hbel).more hsz
    have qz := (q3.below hbel).more hsz
    have f1 := fun A c w hr => fold_any (k : Int) A n c l w hr hl (by omega) hn'
    have f2 := fun A c w hr => fold_any (k : Int) A n2 c l2 w hr hl2 (by omega) hn2'
    have f3 := fun A c w hr => fold_any (k : Int) A (n + n2) c (l ++ l2) w hr hIj (by omega) (by omega)
    rcases (show k = 1 ∨ k = 2 ∨ k = 3 ∨ k = 4 ∨ k = 5 by omega) with rfl | rfl | rfl | rfl | rfl
    · rw [show ((1 : Nat) : Int) = 1 from rfl] at f1 f2 f3
      rw [fold1 _ g1 (by omega)] at f1
      rw [fold1 _ g2 (by omega)] at f2
      rw [fold1 _ g3 hlj, sumL_append] at f3
      generalize sumL l = x at *
      generalize sumL l2 = y at *
      clear q1 q2 q3 hbw
      by_cases r1 : -9223372036854775808 ≤ x ∧ x ≤ 9223372036854775807
      · rw [if_pos r1] at f1
        by_cases r2 : -9223372036854775808 ≤ y ∧ y ≤ 9223372036854775807
        · rw [if_pos r2] at f2
          by_cases r3 : -9223372036854775808 ≤ x + y ∧ x + y ≤ 9223372036854775807
          · rw [if_pos r3] at f3
            have e : wrap64 (x + y) = x + y := by unfold wrap64; omega
            go_wp2_with (first | (go_at_call 9; with_reducible refine (f1 _ _ _ qx).mono ?_; rintro e w' ⟨rfl, hb⟩; obtain ⟨X, rfl⟩ := World.ext_of_below hb; clear hb) | (go_at_call 9; with_reducible refine (f2 _ _ _ (qy.grown _)).mono ?_; rintro e w' ⟨rfl, hb⟩; obtain ⟨X, rfl⟩ := World.ext_of_below hb; clear hb) | (go_at_call 9; with_reducible refine (f3 _ _ _ (qz.grown _)).mono ?_; rintro e w' ⟨rfl, hb⟩; obtain ⟨X, rfl⟩ := World.ext_of_below hb; clear hb))
            all_goals (go_roundw; (case rel => first | exact ⟨2, by omega, by omega, by go_num, by (repeat' (first | with_reducible exact Below.refl _ _ | with_reducible refine Below.ext ?_ ?_ _ | with_reducible refine Below.alloc ?_ ?_ _ | with_reducible refine Below.setCell ?_ ?_ _ | with_reducible refine Below.drew ?_ | with_reducible assumption | (simp [World.size_ext]; done) | (simp [World.size_ext]; omega)))⟩ | ((repeat apply Exists.intro); exact ⟨⟨2, by omega, by omega, by go_num, by (repeat' (first | with_reducible exact Below.refl _ _ | with_reducible refine Below.ext ?_ ?_ _ | with_reducible refine Below.alloc ?_ ?_ _ | with_reducible refine Below.setCell ?_ ?_ _ | with_reducible refine Below.drew ?_ | with_reducible assumption | (simp [World.size_ext]; done) | (simp [World.size_ext]; omega)))⟩, rfl⟩)); (case measure => simp [intOf]))
          · rw [if_neg r3] at f3
            go_wp2_with (first | (go_at_call 9; with_reducible refine (f1 _ _ _ qx).mono ?_; rintro e w' ⟨rfl, hb⟩; obtain ⟨X, rfl⟩ := World.ext_of_below hb; clear hb) | (go_at_call 9; with_reducible refine (f2 _ _ _ (qy.grown _)).mono ?_; rintro e w' ⟨rfl, hb⟩; obtain ⟨X, rfl⟩ := World.ext_of_below hb; clear hb) | (go_at_call 9; with_reducible refine (f3 _ _ _ (qz.grown _)).mono ?_; rintro e w' ⟨rfl, hb⟩; obtain ⟨X, rfl⟩ := World.ext_of_below hb; clear hb))
            all_goals first | (exfalso; rename_i ha hb; unfold wrap64 at hb; omega) | (go_roundw; (case rel => first | exact ⟨2, by omega, by omega, by go_num, by (repeat' (first | with_reducible exact Below.refl _ _ | with_reducible refine Below.ext ?_ ?_ _ | with_reducible refine Below.alloc ?_ ?_ _ | with_reducible refine Below.setCell ?_ ?_ _ | with_reducible refine Below.drew ?_ | with_reducible assumption | (simp [World.size_ext]; done) | (simp [World.size_ext]; omega)))⟩ | ((repeat apply Exists.intro); exact ⟨⟨2, by omega, by omega, by go_num, by (repeat' (first | with_reducible exact Below.refl _ _ | with_reducible refine Below.ext ?_ ?_ _ | with_reducible refine Below.alloc ?_ ?_ _ | with_reducible refine Below.setCell ?_ ?_ _ | with_reducible refine Below.drew ?_ | with_reducible assumption | (simp [World.size_ext]; done) | (simp [World.size_ext]; omega)))⟩, rfl⟩)); (case measure => simp [intOf]))
        · rw [if_neg r2] at f2
          go_wp2_with (first | (go_at_call 9; with_reducible refine (f1 _ _ _ qx).mono ?_; rintro e w' ⟨rfl, hb⟩; obtain ⟨X, rfl⟩ := World.ext_of_below hb; clear hb) | (go_at_call 9; with_reducible refine (f2 _ _ _ (qy.grown _)).mono ?_; rintro e w' ⟨rfl, hb⟩; obtain ⟨X, rfl⟩ := World.ext_of_below hb; clear hb) | (go_at_call 9; with_reducible refine (f3 _ _ _ (qz.grown _)).mono ?_; rintro e w' ⟨rfl, hb⟩; obtain ⟨X, rfl⟩ := World.ext_of_below hb; clear hb)); all_goals (go_roundw; (case rel => first | exact ⟨2, by omega, by omega, by go_num, by (repeat' (first | with_reducible exact Below.refl _ _ | with_reducible refine Below.ext ?_ ?_ _ | with_reducible refine Below.alloc ?_ ?_ _ | with_reducible refine Below.setCell ?_ ?_ _ | with_reducible refine Below.drew ?_ | with_reducible assumption | (simp [World.size_ext]; done) | (simp [World.size_ext]; omega)))⟩ | ((repeat apply Exists.intro); exact ⟨⟨2, by omega, by omega, by go_num, by (repeat' (first | with_reducible exact Below.refl _ _ | with_reducible refine Below.ext ?_ ?_ _ | with_reducible refine Below.alloc ?_ ?_ _ | with_reducible refine Below.setCell ?_ ?_ _ | with_reducible refine Below.drew ?_ | with_reducible assumption | (simp [World.size_ext]; done) | (simp [World.size_ext]; omega)))⟩, rfl⟩)); (case measure => simp [intOf]))
      · rw [if_neg r1] at f1
        go_wp2_with (first | (go_at_call 9; with_reducible refine (f1 _ _ _ qx).mono ?_; rintro e w' ⟨rfl, hb⟩; obtain ⟨X, rfl⟩ := World.ext_of_below hb; clear hb) | (go_at_call 9; with_reducible refine (f2 _ _ _ (qy.grown _)).mono ?_; rintro e w' ⟨rfl, hb⟩; obtain ⟨X, rfl⟩ := World.ext_of_below hb; clear hb) | (go_at_call 9; with_reducible refine (f3 _ _ _ (qz.grown _)).mono ?_; rintro e w' ⟨rfl, hb⟩; obtain ⟨X, rfl⟩ := World.ext_of_below hb; clear hb)); all_goals (go_roundw; (case rel => first | exact ⟨2, by omega, by omega, by go_num, by (repeat' (first | with_reducible exact Below.refl _ _ | with_reducible refine Below.ext ?_ ?_ _ | with_reducible refine Below.alloc ?_ ?_ _ | with_reducible refine Below.setCell ?_ ?_ _ | with_reducible refine Below.drew ?_ | with_reducible assumption | (simp [World.size_ext]; done) | (simp [World.size_ext]; omega)))⟩ | ((repeat apply Exists.intro); exact ⟨⟨2, by omega, by omega, by go_num, by (repeat' (first | with_reducible exact Below.refl _ _ | with_reducible refine Below.ext ?_ ?_ _ | with_reducible refine Below.alloc ?_ ?_ _ | with_reducible refine Below.setCell ?_ ?_ _ | with_reducible refine Below.drew ?_ | with_reducible assumption | (simp [World.size_ext]; done) | (simp [World.size_ext]; omega)))⟩, rfl⟩)); (case measure => simp [intOf]))
    · rw [show ((2 : Nat) : Int) = 2 from rfl] at f1 f2 f3
      rw [fold2 _ (by omega), hlen] at f1
      rw [fold2 _ (by omega), hlen2] at f2
      rw [fold2 _ hlj, List.length_append, hlen, hlen2] at f3
      have e : IntKind.i64.wrap ((n : Int) + n2) = n + n2 := IntWalk.i64_in _ (by omega)
      clear q1 q2 q3 hbw
      go_wp2_with (first | (go_at_call 9; with_reducible refine (f1 _ _ _ qx).mono ?_; rintro e w' ⟨rfl, hb⟩; obtain ⟨X, rfl⟩ := World.ext_of_below hb; clear hb) | (go_at_call 9; with_reducible refine (f2 _ _ _ (qy.grown _)).mono ?_; rintro e w' ⟨rfl, hb⟩; obtain ⟨X, rfl⟩ := World.ext_of_below hb; clear hb) | (go_at_call 9; with_reducible refine (f3 _ _ _ (qz.grown _)).mono ?_; rintro e w' ⟨rfl, hb⟩; obtain ⟨X, rfl⟩ := World.ext_of_below hb; clear hb)); all_goals (go_roundw; (case rel => first | exact ⟨3, by omega, by omega, by go_num, by (repeat' (first | with_reducible exact Below.refl _ _ | with_reducible refine Below.ext ?_ ?_ _ | with_reducible refine Below.alloc ?_ ?_ _ | with_reducible refine Below.setCell ?_ ?_ _ | with_reducible refine Below.drew ?_ | with_reducible assumption | (simp [World.size_ext]; done) | (simp [World.size_ext]; omega)))⟩ | ((repeat apply Exists.intro); exact ⟨⟨3, by omega, by omega, by go_num, by (repeat' (first | with_reducible exact Below.refl _ _ | with_reducible refine Below.ext ?_ ?_ _ | with_reducible refine Below.alloc ?_ ?_ _ | with_reducible refine Below.setCell ?_ ?_ _ | with_reducible refine Below.drew ?_ | with_reducible assumption | (simp [World.size_ext]; done) | (simp [World.size_ext]; omega)))⟩, rfl⟩)); (case measure => simp [intOf]))
    · rw [show ((3 : Nat) : Int) = 3 from rfl] at f1 f2 f3
      rw [fold3 _ g1 (by omega)] at f1
      rw [fold3 _ g2 (by omega)] at f2
      rw [fold3 _ g3 hlj, least_join (least_best g1) (least_best g2) (least_best g3)] at f3
      generalize bestL 3 (l.headD (0, 0)).2 l = x at *
      generalize bestL 3 (l2.headD (0, 0)).2 l2 = y at *
      clear q1 q2 q3 hbw
      go_wp2_with (first | (go_at_call 9; with_reducible refine (f1 _ _ _ qx).mono ?_; rintro e w' ⟨rfl, hb⟩; obtain ⟨X, rfl⟩ := World.ext_of_below hb; clear hb) | (go_at_call 9; with_reducible refine (f2 _ _ _ (qy.grown _)).mono ?_; rintro e w' ⟨rfl, hb⟩; obtain ⟨X, rfl⟩ := World.ext_of_below hb; clear hb) | (go_at_call 9; with_reducible refine (f3 _ _ _ (qz.grown _)).mono ?_; rintro e w' ⟨rfl, hb⟩; obtain ⟨X, rfl⟩ := World.ext_of_below hb; clear hb)); all_goals (go_roundw; (case rel => first | exact ⟨4, by omega, by omega, by go_num, by (repeat' (first | with_reducible exact Below.refl _ _ | with_reducible refine Below.ext ?_ ?_ _ | with_reducible refine Below.alloc ?_ ?_ _ | with_reducible refine Below.setCell ?_ ?_ _ | with_reducible refine Below.drew ?_ | with_reducible assumption | (simp [World.size_ext]; done) | (simp [World.size_ext]; omega)))⟩ | ((repeat apply Exists.intro); exact ⟨⟨4, by omega, by omega, by go_num, by (repeat' (first | with_reducible exact Below.refl _ _ | with_reducible refine Below.ext ?_ ?_ _ | with_reducible refine Below.alloc ?_ ?_ _ | with_reducible refine Below.setCell ?_ ?_ _ | with_reducible refine Below.drew ?_ | with_reducible assumption | (simp [World.size_ext]; done) | (simp [World.size_ext]; omega)))⟩, rfl⟩)); (case measure => simp [intOf]))
    · rw [show ((4 : Nat) : Int) = 4 from rfl] at f1 f2 f3
      rw [fold4 _ g1 (by omega)] at f1
      rw [fold4 _ g2 (by omega)] at f2
      rw [fold4 _ g3 hlj, greatest_join (greatest_best g1) (greatest_best g2) (greatest_best g3)] at f3
      generalize bestL 4 (l.headD (0, 0)).2 l = x at *
      generalize bestL 4 (l2.headD (0, 0)).2 l2 = y at *
      clear q1 q2 q3 hbw
      go_wp2_with (first | (go_at_call 9; with_reducible refine (f1 _ _ _ qx).mono ?_; rintro e w' ⟨rfl, hb⟩; obtain ⟨X, rfl⟩ := World.ext_of_below hb; clear hb) | (go_at_call 9; with_reducible refine (f2 _ _ _ (qy.grown _)).mono ?_; rintro e w' ⟨rfl, hb⟩; obtain ⟨X, rfl⟩ := World.ext_of_below hb; clear hb) | (go_at_call 9; with_reducible refine (f3 _ _ _ (qz.grown _)).mono ?_; rintro e w' ⟨rfl, hb⟩; obtain ⟨X, rfl⟩ := World.ext_of_below hb; clear hb)); all_goals (go_roundw; (case rel => first | exact ⟨5, by omega, by omega, by go_num, by (repeat' (first | with_reducible exact Below.refl _ _ | with_reducible refine Below.ext ?_ ?_ _ | with_reducible refine Below.alloc ?_ ?_ _ | with_reducible refine Below.setCell ?_ ?_ _ | with_reducible refine Below.drew ?_ | with_reducible assumption | (simp [World.size_ext]; done) | (simp [World.size_ext]; omega)))⟩ | ((repeat apply Exists.intro); exact ⟨⟨5, by omega, by omega, by go_num, by (repeat' (first | with_reducible exact Below.refl _ _ | with_reducible refine Below.ext ?_ ?_ _ | with_reducible refine Below.alloc ?_ ?_ _ | with_reducible refine Below.setCell ?_ ?_ _ | with_reducible refine Below.drew ?_ | with_reducible assumption | (simp [World.size_ext]; done) | (simp [World.size_ext]; omega)))⟩, rfl⟩)); (case measure => simp [intOf]))
    · clear f1 f2 f3
      go_wp2
      go_ret
      refine ⟨rfl, ?_⟩
      (repeat' (first | with_reducible exact Below.refl _ _ | with_reducible refine Below.ext ?_ ?_ _ | with_reducible refine Below.alloc ?_ ?_ _ | with_reducible refine Below.setCell ?_ ?_ _ | with_reducible refine Below.drew ?_ | with_reducible assumption | (simp [World.size_ext]; done) | (simp [World.size_ext]; omega)))
set_option maxRecDepth 100000 in
set_option maxHeartbeats 4000000 in
/-- .. of which one is empty: nothing is asked. -/
theorem law_splits0 (A : Option Addr) (n c : Nat) (l : List (Int × Int)) (A2 : Option Addr) (n2 c2 : Nat) (l2 : List (Int × Int)) (w : World) (hr : Reads w w.heap.size 2 A n (smps l)) (hr2 : Reads w w.heap.size 2 A2 n2 (smps l2)) (hn : n ≤ 1048576) (hn2 : n2 ≤ 1048576) (h1 : n = 0 ∨ n2 = 0) :
    Calls Try.prog 4 #[.slice A n c, .slice A2 n2 c2] w fun e w' => e = .returned (.bool true) ∧ Below w.heap.size w w' := by
  obtain ⟨i0, hi, hz0, hz1, hz2⟩ := info_parts infoS
  have hlen : l.length = n := by have := hr.1; rw [smps_length] at this; omega
  have hlen2 : l2.length = n2 := by have := hr2.1; rw [smps_length] at this; omega
  have hn' : n * 16 ≤ 140737488355328 := by omega
  have hn2' : n2 * 16 ≤ 140737488355328 := by omega
  by_cases h0 : n = 0
  · subst h0
    by_cases h02 : n2 = 0
    · subst h02
      go_enter Try.func4, Try.ntmps4
      go_wp2_with (first | (go_at_call 10; with_reducible refine (to_none _ _ _).mono ?_; rintro e w' ⟨rfl, hb⟩; obtain ⟨X, rfl⟩ := World.ext_of_below hb; clear hb) | (go_at_call 12; with_reducible refine (awake_any _).mono ?_; rintro e w' ⟨rfl, hb⟩; obtain ⟨X, rfl⟩ := World.ext_of_below hb; clear hb))
      go_ret
      refine ⟨rfl, ?_⟩
      (repeat' (first | with_reducible exact Below.refl _ _ | with_reducible refine Below.ext ?_ ?_ _ | with_reducible refine Below.alloc ?_ ?_ _ | with_reducible refine Below.setCell ?_ ?_ _ | with_reducible refine Below.drew ?_ | with_reducible assumption | (simp [World.size_ext]; done) | (simp [World.size_ext]; omega)))
    · go_enter Try.func4, Try.ntmps4
      go_wp2_with (first | (go_at_call 10; with_reducible refine (to_none _ _ _).mono ?_; rintro e w1 ⟨rfl, hb1⟩; have hs1 := hb1.size) | (go_at_call 10; with_reducible refine (to_any _ _ _ _ _ ((hr2.below hb1).more hs1) hn2').mono ?_; rintro e w2 ⟨v, rfl, ho, hb2⟩; obtain ⟨A2, cap2, rfl, hcap2⟩ := own_slice ho; have hq2 := Reads.of_own ho; have hs2 := hb2.size; clear ho; (obtain ⟨b2, o2, rfl, hbo2, hc2⟩ := hq2.plain (by omega) (by omega))) | (at_builtin; refine Held.out ?_))
      unfold Held
      iterate 2 go_step
      go_wp2_with (at_builtin; refine Held.out ?_)
      unfold Held
      refine wpList_append_own _ rfl (.tmp 26) (.tmp 27) 26 rfl w2.heap.size 36 i0 (.agg #[.int .i64 0, .int .i64 0]) 2 16 Try.underlying26 hi hz0 hz1 hz2 rfl (by decide) (.slice (some ⟨w2.heap.size, 0, none⟩) 0 0) 0 [] rfl (World.ownsRow_made (size := 2) w2 #[] 0 (Nat.le_refl _) (by unfold maxLen; omega) rfl) ⟨b2, o2, none⟩ n2 cap2 (smps l2) rfl (by rw [smps_length]; omega) (fun j u hu => ?_) (smps_one l2) (by unfold maxLen; omega) (by omega) (by first | omega | (simp; done) | (simp; omega)) ?_
      · rw [add_plain, World.cell?_alloc_lt _ _ _ (show b2 < w2.heap.size by omega)]
        exact hc2 j u hu
      intro vy w3 hy hg3 hnil
      have hb3 : Below w2.heap.size w2 w3 := own_below ((Below.refl _ _).alloc (Nat.le_refl _) _) (World.ownsRow_made (size := 2) w2 #[] 0 (Nat.le_refl _) (by unfold maxLen; omega) rfl) hg3 (Nat.le_refl _) (by simp)
      rw [Nat.zero_add] at hy
      obtain ⟨A4, cap4, rfl, hcap4⟩ := own_slice hy
      have hb0 : Below w.heap.size w w2 := hb1.trans (hb2.mono hs1)
      have hbw : Below w.heap.size w w3 := hb0.trans (hb3.mono hb0.size)
      have hsw := hbw.size
      clear hnil hg3 hy hb3 hb0 hb2 hq2 hc2 hb1
      go_wp2_with (first | (go_at_call 12; with_reducible refine (awake_any _).mono ?_; rintro e w' ⟨rfl, hb⟩; obtain ⟨X, rfl⟩ := World.ext_of_below hb; clear hb))
      all_goals (go_ret; refine ⟨rfl, ?_⟩; (repeat' (first | with_reducible exact Below.refl _ _ | with_reducible refine Below.ext ?_ ?_ _ | with_reducible refine Below.alloc ?_ ?_ _ | with_reducible refine Below.setCell ?_ ?_ _ | with_reducible refine Below.drew ?_ | with_reducible assumption | (simp [World.size_ext]; done) | (simp [World.size_ext]; omega))))
  · obtain rfl : n2 = 0 := by omega
    go_enter Try.func4, Try.ntmps4
    go_wp2_with (first | (go_at_call 10; with_reducible refine (to_none _ _ _).mono ?_; rintro e w2 ⟨rfl, hb2⟩; have hs2 := hb2.size) | (go_at_call 10; with_reducible refine (to_any _ _ _ _ _ hr hn').mono ?_; rintro e w1 ⟨v, rfl, ho, hb1⟩; obtain ⟨A1, cap1, rfl, hcap1⟩ := own_slice ho; have hq1 := Reads.of_own ho; have hs1 := hb1.size; clear ho; (obtain ⟨b, o, rfl, hbo, hc1⟩ := hq1.plain (by omega) (by omega))) | (at_builtin; refine Held.out ?_))
    unfold Held
    refine wpList_append_own _ rfl (.tmp 24) (.tmp 25) 26 rfl w2.heap.size 36 i0 (.agg #[.int .i64 0, .int .i64 0]) 2 16 Try.underlying26 hi hz0 hz1 hz2 rfl (by decide) (.slice (some ⟨w2.heap.size, 0, none⟩) 0 0) 0 [] rfl (World.ownsRow_made (size := 2) w2 #[] 0 (Nat.le_refl _) (by unfold maxLen; omega) rfl) ⟨b, o, none⟩ n cap1 (smps l) rfl (by rw [smps_length]; omega) (fun j u hu => ?_) (smps_one l) (by unfold maxLen; omega) (by omega) (by first | omega | (simp; done) | (simp; omega)) ?_
    · rw [add_plain, World.cell?_alloc_lt _ _ _ (show b < w2.heap.size by omega), hb2.cell (p := ⟨b, _, none⟩) hbo]
      exact hc1 j u hu
    intro vy w3 hy hg3 hnil
    have hb3 : Below w2.heap.size w2 w3 := own_below ((Below.refl _ _).alloc (Nat.le_refl _) _) (World.ownsRow_made (size := 2) w2 #[] 0 (Nat.le_refl _) (by unfold maxLen; omega) rfl) hg3 (Nat.le_refl _) (by simp)
    rw [Nat.zero_add] at hy
    obtain ⟨g, cap4, rfl, hcap4⟩ : ∃ g cap, vy = .slice (some ⟨g, 0, none⟩) n cap ∧ n ≤ cap := by
      rcases hy.2 with ⟨_, hz⟩ | ⟨g, cap, cur, he, -, -, hc, -⟩
      · omega
      · exact ⟨g, cap, he, hc⟩
    have hb0 : Below w.heap.size w w2 := hb1.trans (hb2.mono hs1)
    have hbw : Below w.heap.size w w3 := hb0.trans (hb3.mono hb0.size)
    have hsw := hbw.size
    clear hnil hg3 hy hb3 hb0 hb2 hq1 hc1 hb1
    go_wp2_with (first | (go_at_call 12; with_reducible refine (awake_any _).mono ?_; rintro e w' ⟨rfl, hb⟩; obtain ⟨X, rfl⟩ := World.ext_of_below hb; clear hb))
    all_goals (go_ret; refine ⟨rfl, ?_⟩; (repeat' (first | with_reducible exact Below.refl _ _ | with_reducible refine Below.ext ?_ ?_ _ | with_reducible refine Below.alloc ?_ ?_ _ | with_reducible refine Below.setCell ?_ ?_ _ | with_reducible refine Below.drew ?_ | with_reducible assumption | (simp [World.size_ext]; done) | (simp [World.size_ext]; omega))))
section
open Go.ChangeShapes Go.WideShapes Go.ChangeAt
variable {H : Type} {enc : TypeId × Value → H}
theorem small_of {ds : List (DataW H)} {n : Nat} {d : DataW H} (hk : Rows.uptoSmall H ds = true) (hd : d ∈ ds) (hn : n = 0 ∨ ∃ es sp, d = .slice es sp ∧ n ≤ es.length + sp.length) : n ≤ 1048576 := by
  rcases hn with rfl | ⟨es, sp, rfl, hle⟩
  · omega
  · have := bulk_slice es sp
    have := bulk_part hd
    have := bulk_bound hk
    omega
theorem tallySplits_walk : LawWalkU enc Try.prog 4 Try.f4 Rows.uptoSmall := by
  intro W base args ds ps hval hA hlt _ hk _
  rw [Try.params4] at hA hval
  obtain ⟨v0, v1, d0, d1, p0, p1, rfl, rfl, rfl, h0, h1⟩ := trodAll_two hA
  obtain ⟨A, n, c, l, rfl, hnc, hr, hl, hn⟩ := smps_open (hval 0 _ v0 rfl rfl) h0
  obtain ⟨A2, n2, c2, l2, rfl, hnc2, hr2, hl2, hn2⟩ := smps_open (hval 1 _ v1 rfl rfl) h1
  have hn' := small_of hk (by simp) hn
  have hn2' := small_of hk (by simp) hn2
  by_cases h : n = 0 ∨ n2 = 0
  · exact law_splits0 A n c l A2 n2 c2 l2 W hr hr2 hn' hn2' h
  · exact law_splits1 A n c l A2 n2 c2 l2 W hr hl hr2 hl2 hn' hn2' (by omega) (by omega)
set_option maxRecDepth 100000 in
theorem tallySplits_lifted (os : Os) (started : os.Started) (H : Type) (enc : TypeId × Value → H) (F : Stop.Interp) :
    ReturnsInHanded {} Try.checked os 4 .any ((Rows.OpenSpec.upto Rows.tallySplitsSpec).pre6 enc Try.prog Try.f4 Rows.tallySplitsUptoRow.domain false) (((Rows.OpenSpec.upto Rows.tallySplitsSpec).at F).post enc Try.prog Try.f4 false true false false) :=
  law_lifted_upto (C := Try.checked) (s := Rows.OpenSpec.upto Rows.tallySplitsSpec) (s0 := Rows.tallySplitsSpec) (k := Rows.uptoSmall) rfl rfl own started (by kernel_rfl) Try.func4 laidOut (by kernel_rfl) rfl Try.underlying4 rfl rfl rfl
    (fun ds h => by obtain ⟨d0, d1, rfl⟩ := list2 h; rfl)
    (OpenSpec.witness (enc := enc) (C := Try.checked) (s := Rows.OpenSpec.upto Rows.tallySplitsSpec) (k := Rows.uptoSmall) rfl false ⟨#[], #[.slice none 0 0, .slice none 0 0], []⟩ 8 (by kernel_rfl) (by kernel_rfl) (by kernel_rfl)
      (x := ([.nil, .nil], [], [])) (by kernel_rfl) rfl (by kernel_rfl))
    tallySplits_walk
theorem tallySplits_holds : Rows.TallySplitsUptoSaid :=
  OpenClaim.holds_of_cond 4 Try.f4 rfl rfl rfl rfl rfl rfl rfl ⟨rfl, rfl, rfl, rfl, rfl⟩ rfl rfl rfl rfl rfl (by kernel_rfl) Try.func4 (by kernel_rfl)
    (of_decide_eq_true (by kernel_rfl)) (by unfold Func.isWrapper; rw [if_neg (of_decide_eq_false (by kernel_rfl))]; exact ⟨rfl, rfl⟩)
    (fun os started H enc _ F => tallySplits_lifted os started H enc F)
#print axioms tallySplits_holds
end
end Go.Proofs.Ytijegnhkkgdihaa
