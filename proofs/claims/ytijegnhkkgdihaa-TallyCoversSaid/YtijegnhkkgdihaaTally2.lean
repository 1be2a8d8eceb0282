import Derived.Test.YtijegnhkkgdihaaTally
/-! What is told of samples: the program. -/
namespace Go.Proofs.Ytijegnhkkgdihaa
open Go.RowKit
set_option linter.unusedVariables false
set_option linter.unusedSimpArgs false
def sumL : List (Int × Int) → Int
  | [] => 0
  | p :: l => p.2 + sumL l
def bestL (op : Int) : Int → List (Int × Int) → Int
  | b, [] => b
  | b, p :: l => bestL op (if (op = 3 ∧ p.2 < b) ∨ (op = 4 ∧ b < p.2) then p.2 else b) l
theorem sumL_append : ∀ l m : List (Int × Int), sumL (l ++ m) = sumL l + sumL m
  | [], m => by simp [sumL]
  | p :: l, m => by simp [sumL, sumL_append l m]; omega
theorem sumL_snoc (l : List (Int × Int)) (p : Int × Int) : sumL (l ++ [p]) = sumL l + p.2 := by simp [sumL_append, sumL]
theorem bestL_snoc (op : Int) : ∀ (b : Int) (l : List (Int × Int)) (p : Int × Int), bestL op b (l ++ [p]) = if (op = 3 ∧ p.2 < bestL op b l) ∨ (op = 4 ∧ bestL op b l < p.2) then p.2 else bestL op b l
  | b, [], p => rfl
  | b, q :: l, p => by simp only [List.cons_append, bestL]; exact bestL_snoc op _ l p
def I64s (l : List (Int × Int)) : Prop := ∀ p ∈ l, (-9223372036854775808 ≤ p.1 ∧ p.1 ≤ 9223372036854775807) ∧ -9223372036854775808 ≤ p.2 ∧ p.2 ≤ 9223372036854775807
theorem sumL_bd : ∀ l : List (Int × Int), I64s l → -(l.length * 9223372036854775808 : Int) ≤ sumL l ∧ sumL l ≤ l.length * 9223372036854775808
  | [], _ => by simp [sumL]
  | p :: l, h => by
    have := sumL_bd l (fun q hq => h q (by simp [hq]))
    have hp := (h p (by simp)).2
    simp only [sumL, List.length_cons]
    omega
theorem bestL_bd (op : Int) : ∀ (b : Int) (l : List (Int × Int)), (-9223372036854775808 ≤ b ∧ b ≤ 9223372036854775807) → I64s l → -9223372036854775808 ≤ bestL op b l ∧ bestL op b l ≤ 9223372036854775807
  | b, [], hb, _ => hb
  | b, p :: l, hb, h => bestL_bd op _ l (by have := (h p (by simp)).2; split <;> assumption) (fun q hq => h q (by simp [hq]))
def foldT (op : Int) (l : List (Int × Int)) : Int := if op = 5 then (l.getLastD (0, 0)).2 - (l.headD (0, 0)).2 else sumL l
def foldA (op : Int) (l : List (Int × Int)) : Int × Bool × Int :=
  if op < 1 ∨ 5 < op ∨ 65536 < l.length then (0, false, 1) else if op = 2 then (l.length, true, 0) else if l = [] then (0, false, 0)
  else if op = 3 ∨ op = 4 then (bestL op (l.headD (0, 0)).2 l, true, 0) else if -9223372036854775808 ≤ foldT op l ∧ foldT op l ≤ 9223372036854775807 then (foldT op l, true, 0) else (0, false, 20)
/-- A struct of two numbers in memory. -/
def Two (w : World) (g : Nat) (x y : Int) : Prop := w.cell? ⟨g, 0, none⟩ = some (.int .i64 x) ∧ w.cell? ⟨g, 1, none⟩ = some (.int .i64 y)

set_option maxHeartbeats 800000 in
theorem fold_any (op : Int) (A : Option Addr) (n c : Nat) (l : List (Int × Int)) (w : World) (hr : Reads w w.heap.size 2 A n (smps l)) (hl : I64s l) (hop : -9223372036854775808 ≤ op ∧ op ≤ 9223372036854775807) (hn : n * 16 ≤ 140737488355328) :
    Calls Try.prog 9 #[.int .i64 op, .slice A n c] w fun e w' => e = .returned (.tuple #[.int .i64 (foldA op l).1, .bool (foldA op l).2.1, .int .i64 (foldA op l).2.2]) ∧ Below w.heap.size w w' := by
  have hlen : l.length = n := by have := hr.1; rw [smps_length] at this; omega
  by_cases h1 : op < 1 ∨ 5 < op ∨ 65536 < n
  · have E : foldA op l = (0, false, 1) := by unfold foldA; rw [if_pos (by rw [hlen]; exact h1)]
    rw [E]
    go_enter Try.func9, Try.ntmps9
    go_wp2
    all_goals first | (exfalso; omega) | (refine bodyPost_ret (v := _) (by simp [results, Try.results9, go_sem] <;> rfl) rfl ⟨?_, by (repeat' (first | with_reducible exact Below.refl _ _ | with_reducible refine Below.ext ?_ ?_ _ | with_reducible refine Below.alloc ?_ ?_ _ | with_reducible refine Below.setCell ?_ ?_ _ | with_reducible refine Below.drew ?_ | with_reducible assumption | (simp [World.size_ext]; done) | (simp [World.size_ext]; omega)))⟩; rfl)
  by_cases h2 : op = 2
  · have E : foldA op l = ((n : Int), true, 0) := by unfold foldA; rw [if_neg (by rw [hlen]; exact h1), if_pos h2, hlen]
    rw [E]
    subst h2
    go_enter Try.func9, Try.ntmps9
    go_wp2
    all_goals first | (exfalso; omega) | (refine bodyPost_ret (v := _) (by simp [results, Try.results9, go_sem] <;> rfl) rfl ⟨?_, by (repeat' (first | with_reducible exact Below.refl _ _ | with_reducible refine Below.ext ?_ ?_ _ | with_reducible refine Below.alloc ?_ ?_ _ | with_reducible refine Below.setCell ?_ ?_ _ | with_reducible refine Below.drew ?_ | with_reducible assumption | (simp [World.size_ext]; done) | (simp [World.size_ext]; omega)))⟩; rfl)
  by_cases h3 : n = 0
  · subst h3
    obtain rfl : l = [] := List.length_eq_zero_iff.1 hlen
    have E : foldA op [] = (0, false, 0) := by unfold foldA; rw [if_neg (by simpa using h1), if_neg h2, if_pos rfl]
    rw [E]
    go_enter Try.func9, Try.ntmps9
    go_wp2
    all_goals first | (exfalso; omega) | (refine bodyPost_ret (v := _) (by simp [results, Try.results9, go_sem] <;> rfl) rfl ⟨?_, by (repeat' (first | with_reducible exact Below.refl _ _ | with_reducible refine Below.ext ?_ ?_ _ | with_reducible refine Below.alloc ?_ ?_ _ | with_reducible refine Below.setCell ?_ ?_ _ | with_reducible refine Below.drew ?_ | with_reducible assumption | (simp [World.size_ext]; done) | (simp [World.size_ext]; omega)))⟩; rfl)
  obtain ⟨x0, hg0⟩ : ∃ x, l[0]? = some x := ⟨l[0]'(by omega), List.getElem?_eq_getElem (by omega)⟩
  obtain ⟨b, o, rfl, hb, hc⟩ := hr.plain (by omega) (by omega)
  have m0 : w.cell? ⟨b, o, none⟩ = some (.int .i64 x0.1) := hc _ _ (smps_get l 0 _ hg0).1
  have m0' : w.cell? ⟨b, o + 1, none⟩ = some (.int .i64 x0.2) := hc _ _ (smps_get l 0 _ hg0).2
  have c1 : decide (op < 1) = false := by simp; omega
  have c2 : decide (5 < op) = false := by simp; omega
  have c3 : decide (65536 < (n : Int)) = false := by simp; omega
  have c4 : (op == 2) = false := by simpa using h2
  have c5 : ((n : Int) == 0) = false := by simp; omega
  go_enter Try.func9, Try.ntmps9
  go_wp2
  go_loopw [8, 40] (fun v s wr => ∃ j : Nat, j ≤ n ∧ s = .int .i64 (j : Int) ∧ v = .int .i64 (bestL op x0.2 (l.take j)) ∧ Blk wr w.heap.size 54 #[.int .i64 (sumL (l.take j) / 4294967296), .int .i64 (sumL (l.take j) % 4294967296)] ∧ Below w.heap.size w wr) (fun _ s _ => ((n : Int) - intOf s).toNat)
  case atStart => exact ⟨0, by omega, rfl, rfl, Blk.new _ _ _, (Below.refl _ _).alloc (Nat.le_refl _) _⟩
  case round =>
    obtain ⟨j, hj, rfl, rfl, hB, hbel⟩ := hrel
    have hsz := hbel.size
    have k1 := hB.cell
    have k2 := hB.frozen
    have k3 := hB.lt
    by_cases hlt : j < n
    · obtain ⟨x, hg⟩ : ∃ x, l[j]? = some x := ⟨l[j]'(by omega), List.getElem?_eq_getElem (by omega)⟩
      obtain ⟨g1, g2⟩ := smps_get l j _ hg
      have m1 : wr.cell? ⟨b, o + j * 2, none⟩ = some (.int .i64 x.1) := by rw [hbel.cell (p := ⟨b, _, none⟩) hb]; exact hc _ _ g1
      have m2 : wr.cell? ⟨b, o + j * 2 + 1, none⟩ = some (.int .i64 x.2) := by rw [hbel.cell (p := ⟨b, _, none⟩) hb, Nat.add_assoc]; exact hc _ _ g2
      have hp := (hl x (List.mem_of_getElem? hg)).2
      have hS := sumL_bd (l.take j) (fun q hq => hl q (List.mem_of_mem_take hq))
      have hj' : (l.take j).length = j := by rw [List.length_take]; omega
      rw [hj'] at hS
      have hT : -1000000000000000000000000 ≤ sumL (l.take j) ∧ sumL (l.take j) ≤ 1000000000000000000000000 := by omega
      have HS : Hid (sumL (l.take (j + 1)) = sumL (l.take j) + x.2) := by
        show _ = _
        rw [List.take_add_one, hg]; exact sumL_snoc _ _
      have HB : Hid (bestL op x0.2 (l.take (j + 1)) = if (op = 3 ∧ x.2 < bestL op x0.2 (l.take j)) ∨ (op = 4 ∧ bestL op x0.2 (l.take j) < x.2) then x.2 else bestL op x0.2 (l.take j)) := by
        show _ = _
        rw [List.take_add_one, hg]; exact bestL_snoc _ _ _ _
      have HBk := hB
      have hbel' := hbel.alloc hsz
      generalize hSj : sumL (l.take j) = S at *
      generalize hBj : bestL op x0.2 (l.take j) = B at *
      have fin : ∀ W, Blk W w.heap.size 54 #[.int .i64 ((S + x.2) / 4294967296), .int .i64 ((S + x.2) % 4294967296)] → Blk W w.heap.size 54 #[.int .i64 (sumL (l.take (j + 1)) / 4294967296), .int .i64 (sumL (l.take (j + 1)) % 4294967296)] := fun W h => by rw [HS.out]; exact h
      clear hc hr hl m0 m0' HS hSj hBj g1 g2 hg h1 h2
      have cases4 : ((op == 3) = true ∧ (op == 4) = false ∧ decide (x.2 < B) = true ∧ bestL op x0.2 (l.take (j + 1)) = x.2) ∨ ((op == 3) = true ∧ (op == 4) = false ∧ decide (x.2 < B) = false ∧ bestL op x0.2 (l.take (j + 1)) = B) ∨
          ((op == 3) = false ∧ (op == 4) = true ∧ decide (B < x.2) = true ∧ bestL op x0.2 (l.take (j + 1)) = x.2) ∨ ((op == 3) = false ∧ (op == 4) = true ∧ decide (B < x.2) = false ∧ bestL op x0.2 (l.take (j + 1)) = B) ∨
          ((op == 3) = false ∧ (op == 4) = false ∧ True ∧ bestL op x0.2 (l.take (j + 1)) = B) := by
        rw [HB.out]
        by_cases e3 : op = 3
        · subst e3
          by_cases e : x.2 < B <;> simp [e]
        · by_cases e4 : op = 4
          · subst e4
            by_cases e : B < x.2 <;> simp [e]
          · simp [e3, e4]
      clear HB
      rcases cases4 with ⟨e3, e4, e5, E⟩ | ⟨e3, e4, e5, E⟩ | ⟨e3, e4, e5, E⟩ | ⟨e3, e4, e5, E⟩ | ⟨e3, e4, -, E⟩ <;> replace E := hide E
      all_goals (go_wp2_with (go_at_call 18; refine (plus_any _ _ _ _ hT hp (.inl rfl)).mono ?_; rintro e w' ⟨rfl, hb⟩; obtain ⟨X, rfl⟩ := World.ext_of_below hb; clear hb); go_roundw; (case rel => exact ⟨j + 1, by omega, by go_num, by rw [E.out], fin _ (Blk.two ((HBk.alloc _).ext _)), by (repeat' (first | with_reducible exact Below.refl _ _ | with_reducible refine Below.ext ?_ ?_ _ | with_reducible refine Below.alloc ?_ ?_ _ | with_reducible refine Below.setCell ?_ ?_ _ | with_reducible refine Below.drew ?_ | with_reducible assumption | (simp [World.size_ext]; done) | (simp [World.size_ext]; omega)))⟩); (case measure => simp [intOf]; omega))
    · obtain rfl : j = n := by omega
      clear hlt
      rw [List.take_of_length_le (by omega)] at hB k1
      have hS := sumL_bd l hl
      have hh : (l.headD (0, 0)) = x0 := by cases l with
        | nil => simp at hg0
        | cons a r => simpa using hg0
      have hne : l ≠ [] := by rintro rfl; simp at hg0
      have E : foldA op l = if op = 3 ∨ op = 4 then (bestL op x0.2 l, true, 0) else if -9223372036854775808 ≤ foldT op l ∧ foldT op l ≤ 9223372036854775807 then (foldT op l, true, 0) else (0, false, 20) := by
        unfold foldA; rw [if_neg (by rw [hlen]; exact h1), if_neg h2, if_neg hne, hh]
      have hT : -1000000000000000000000000 ≤ sumL l ∧ sumL l ≤ 1000000000000000000000000 := by omega
      rw [List.take_of_length_le (by omega)]
      by_cases o34 : op = 3 ∨ op = 4
      · rw [if_pos o34] at E
        rcases o34 with rfl | rfl
        · go_wp2
          refine bodyPost_ret (v := _) (by simp [results, Try.results9, go_sem] <;> rfl) rfl ⟨?_, by (repeat' (first | with_reducible exact Below.refl _ _ | with_reducible refine Below.ext ?_ ?_ _ | with_reducible refine Below.alloc ?_ ?_ _ | with_reducible refine Below.setCell ?_ ?_ _ | with_reducible refine Below.drew ?_ | with_reducible assumption | (simp [World.size_ext]; done) | (simp [World.size_ext]; omega)))⟩; rw [E]
        · go_wp2
          refine bodyPost_ret (v := _) (by simp [results, Try.results9, go_sem] <;> rfl) rfl ⟨?_, by (repeat' (first | with_reducible exact Below.refl _ _ | with_reducible refine Below.ext ?_ ?_ _ | with_reducible refine Below.alloc ?_ ?_ _ | with_reducible refine Below.setCell ?_ ?_ _ | with_reducible refine Below.drew ?_ | with_reducible assumption | (simp [World.size_ext]; done) | (simp [World.size_ext]; omega)))⟩; rw [E]
      · rw [if_neg o34] at E
        by_cases o5 : op = 5
        · have e5 : foldT op l = (l.getLastD (0, 0)).2 - x0.2 := by unfold foldT; rw [if_pos o5, hh]
          have hS5 : (l.getLastD (0, 0)).2 - x0.2 = 0 + 1 * (l.getLastD (0, 0)).2 + -1 * x0.2 := by omega
          obtain ⟨m, rfl⟩ : ∃ m, j = m + 1 := ⟨j - 1, by omega⟩
          have hgl : l[m]? = some (l.getLastD (0, 0)) := by
            rw [List.getLastD_eq_getLast?, List.getLast?_eq_getElem?, hlen]
            simp
            rw [List.getElem?_eq_getElem (by omega)]; rfl
          generalize l.getLastD (0, 0) = xl at *
          obtain ⟨g1, g2⟩ := smps_get l m _ hgl
          have m2 : wr.cell? ⟨b, o + m * 2 + 1, none⟩ = some (.int .i64 xl.2) := by rw [hbel.cell (p := ⟨b, _, none⟩) hb, Nat.add_assoc]; exact hc _ _ g2
          have m3 : wr.cell? ⟨b, o + 1, none⟩ = some (.int .i64 x0.2) := by rw [hbel.cell (p := ⟨b, _, none⟩) hb]; exact m0'
          have hp := (hl xl (List.mem_of_getElem? hgl)).2
          have hp0 := (hl x0 (List.mem_of_getElem? hg0)).2
          have pl0 : ∀ w, _ := fun w => plus_any 0 xl.2 1 w (by omega) hp (.inl rfl)
          have pl1 : ∀ w, _ := fun w => plus_any (0 + 1 * xl.2) x0.2 (-1) w (by omega) hp0 (.inr rfl)
          rw [show (0 : Int) / 4294967296 = 0 from rfl, show (0 : Int) % 4294967296 = 0 from rfl] at pl0
          rw [e5, hS5] at E
          have hsm := fun w => small_any (0 + 1 * xl.2 + -1 * x0.2) w (by omega)
          generalize 0 + 1 * xl.2 + -1 * x0.2 = T at *
          generalize 0 + 1 * xl.2 = T1 at *
          have wm : IntKind.i64.wrap (m : Int) = (m : Int) := IntWalk.i64_in _ (by omega)
          have hb' : b < wr.heap.size := by omega
          have wm2 : (m : Int) < (m : Int) + 1 := by omega
          have wm3 : (0 : Int) < (m : Int) + 1 := by omega
          subst o5
          go_wp2
          refine First.wp_region_first_ext [7, 12] [0, 1, 2, 3, 4, 5, 6, 9, 10, 11] [(true, false, 0), (true, false, 1), (true, false, 2), (true, false, 3), (true, false, 4), (true, false, 5), (true, false, 6), (true, true, 7), (true, false, 9), (true, false, 10), (true, false, 11), (true, true, 12), (false, true, 8), (false, false, 13), (false, false, 14)] (by kernel_rfl) (by kernel_rfl) (fun X => ?_); simp only [List.map_cons, List.map_nil, List.getD_cons_zero, List.getD_cons_succ]
          (repeat (first | (refine First.wpF_pure (fun K hK => ?_); go_simp; first | (refine hK _ _ ?_; clear hK K) | (apply Exists.intro; refine ⟨fun _ => ?_, hK _ _ ?_⟩; go_wp2_with (first | (go_at_call 18; with_reducible refine (pl0 _).mono ?_; rintro e w' ⟨rfl, hb⟩; obtain ⟨X, rfl⟩ := World.ext_of_below hb; clear hb) | (go_at_call 18; with_reducible refine (pl1 _).mono ?_; rintro e w' ⟨rfl, hb⟩; obtain ⟨X, rfl⟩ := World.ext_of_below hb; clear hb)); clear hK K)) | (refine First.wpF_free (fun K hK => ?_); go_simp; first | (refine hK _ _ ?_; clear hK K) | (apply Exists.intro; refine ⟨fun _ => ?_, hK _ _ ?_⟩; go_wp2_with (first | (go_at_call 18; with_reducible refine (pl0 _).mono ?_; rintro e w' ⟨rfl, hb⟩; obtain ⟨X, rfl⟩ := World.ext_of_below hb; clear hb) | (go_at_call 18; with_reducible refine (pl1 _).mono ?_; rintro e w' ⟨rfl, hb⟩; obtain ⟨X, rfl⟩ := World.ext_of_below hb; clear hb)); clear hK K)) | (refine First.wpF_must (fun K hK => ?_); go_simp; go_wp2_with (first | (go_at_call 18; with_reducible refine (pl0 _).mono ?_; rintro e w' ⟨rfl, hb⟩; obtain ⟨X, rfl⟩ := World.ext_of_below hb; clear hb) | (go_at_call 18; with_reducible refine (pl1 _).mono ?_; rintro e w' ⟨rfl, hb⟩; obtain ⟨X, rfl⟩ := World.ext_of_below hb; clear hb)); go_simp; refine hK _ _ (fun hnd => by first | exact Bool.noConfusion hnd | with_reducible exact First.Grown.refl _ | with_reducible exact First.Grown.cat _ _ _ | with_reducible exact First.Grown.ext _ _) ?_; clear hK K)))
          refine First.wpF_nil ?_
          by_cases hs : -9223372036854775808 ≤ T ∧ T ≤ 9223372036854775807
          · rw [if_pos hs] at E
            simp only [if_pos hs] at hsm
            go_wp2_with (go_at_call 19; refine (hsm _).mono ?_; rintro e w' ⟨rfl, hb⟩; obtain ⟨X, rfl⟩ := World.ext_of_below hb; clear hb)
            refine bodyPost_ret (v := _) (by simp [results, Try.results9, go_sem] <;> rfl) rfl ⟨?_, by (repeat' (first | with_reducible exact Below.refl _ _ | with_reducible refine Below.ext ?_ ?_ _ | with_reducible refine Below.alloc ?_ ?_ _ | with_reducible refine Below.setCell ?_ ?_ _ | with_reducible refine Below.drew ?_ | with_reducible assumption | (simp [World.size_ext]; done) | (simp [World.size_ext]; omega)))⟩; rw [E]
          · rw [if_neg hs] at E
            simp only [if_neg hs] at hsm
            go_wp2_with (go_at_call 19; refine (hsm _).mono ?_; rintro e w' ⟨rfl, hb⟩; obtain ⟨X, rfl⟩ := World.ext_of_below hb; clear hb)
            refine bodyPost_ret (v := _) (by simp [results, Try.results9, go_sem] <;> rfl) rfl ⟨?_, by (repeat' (first | with_reducible exact Below.refl _ _ | with_reducible refine Below.ext ?_ ?_ _ | with_reducible refine Below.alloc ?_ ?_ _ | with_reducible refine Below.setCell ?_ ?_ _ | with_reducible refine Below.drew ?_ | with_reducible assumption | (simp [World.size_ext]; done) | (simp [World.size_ext]; omega)))⟩; rw [E]
        · have e1 : foldT op l = sumL l := by unfold foldT; rw [if_neg o5]
          rw [e1] at E
          obtain rfl : op = 1 := by omega
          by_cases hs : -9223372036854775808 ≤ sumL l ∧ sumL l ≤ 9223372036854775807
          · rw [if_pos hs] at E
            have hsm := fun w => small_any (sumL l) w hT
            simp only [if_pos hs] at hsm
            go_wp2_with (go_at_call 19; refine (hsm _).mono ?_; rintro e w' ⟨rfl, hb⟩; obtain ⟨X, rfl⟩ := World.ext_of_below hb; clear hb)
            refine bodyPost_ret (v := _) (by simp [results, Try.results9, go_sem] <;> rfl) rfl ⟨?_, by (repeat' (first | with_reducible exact Below.refl _ _ | with_reducible refine Below.ext ?_ ?_ _ | with_reducible refine Below.alloc ?_ ?_ _ | with_reducible refine Below.setCell ?_ ?_ _ | with_reducible refine Below.drew ?_ | with_reducible assumption | (simp [World.size_ext]; done) | (simp [World.size_ext]; omega)))⟩; rw [E]
          · rw [if_neg hs] at E
            have hsm := fun w => small_any (sumL l) w hT
            simp only [if_neg hs] at hsm
            go_wp2_with (go_at_call 19; refine (hsm _).mono ?_; rintro e w' ⟨rfl, hb⟩; obtain ⟨X, rfl⟩ := World.ext_of_below hb; clear hb)
            refine bodyPost_ret (v := _) (by simp [results, Try.results9, go_sem] <;> rfl) rfl ⟨?_, by (repeat' (first | with_reducible exact Below.refl _ _ | with_reducible refine Below.ext ?_ ?_ _ | with_reducible refine Below.alloc ?_ ?_ _ | with_reducible refine Below.setCell ?_ ?_ _ | with_reducible refine Below.drew ?_ | with_reducible assumption | (simp [World.size_ext]; done) | (simp [World.size_ext]; omega)))⟩; rw [E]
end Go.Proofs.Ytijegnhkkgdihaa
