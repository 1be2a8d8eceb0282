import Derived.Test.YtijegnhkkgdihaaTally3
/-! The document's answer of a fold. -/
namespace Go.Proofs.Ytijegnhkkgdihaa
open Go.RowKit
set_option linter.unusedVariables false
set_option linter.unusedSimpArgs false
theorem infoI : (Try.prog.info? 2).map (fun i => (i.zero, i.size, i.bytes)) = some (some (.int .i64 0), 1, 8) := by kernel_rfl
theorem sumI_nums : ∀ l : List (Int × Int), sumI (l.map (·.2)) = sumL l
  | [] => rfl
  | p :: l => by simp [sumI, sumL, sumI_nums l]
theorem I64s.nums {l : List (Int × Int)} (h : I64s l) : In64 (l.map (·.2)) := fun p hp => by
  obtain ⟨q, hq, rfl⟩ := List.mem_map.1 hp
  exact (h q hq).2
theorem bestL_same (op : Int) (p : Int × Int) (l : List (Int × Int)) : bestL op p.2 (p :: l) = bestL op p.2 l := by
  simp only [bestL]
  rw [if_neg (by omega)]
theorem own_slice {base : Nat} {e : TypeId} {size n : Nat} {w : World} {v : Value} {xs : List Value} (h : w.ownsRow base e size v n xs) : ∃ A cap, v = .slice A n cap ∧ n ≤ cap := by
  rcases h.2 with ⟨rfl, rfl⟩ | ⟨g, cap, cur, rfl, -, -, hn, -⟩
  · exact ⟨none, 0, rfl, Nat.le_refl _⟩
  · exact ⟨_, _, rfl, hn⟩
theorem one_reads {w : World} {g : Nat} {t : TypeId} {u : Value} (h : Blk w g t #[u]) : Reads w w.heap.size 1 (some ⟨g, 0, none⟩) 1 [u] :=
  Reads.of_own (h.own (b := 0) (size := 1) (n := 1) (cap := 1) (Nat.zero_le _) (Nat.le_refl _) (by unfold maxLen; omega) rfl rfl rfl)
def Held (P : Prop) : Prop := P
theorem Held.out {P : Prop} (h : Held P) : P := h
set_option maxRecDepth 100000 in
set_option maxHeartbeats 1000000 in
theorem rfold_any (op : Int) (A : Option Addr) (n c : Nat) (l : List (Int × Int)) (w : World) (hr : Reads w w.heap.size 2 A n (smps l)) (hl : I64s l) (hop : -9223372036854775808 ≤ op ∧ op ≤ 9223372036854775807) (hn : n * 16 ≤ 140737488355328) :
    Calls Try.prog 11 #[.int .i64 op, .slice A n c] w fun e w' => e = .returned (.tuple #[.int .i64 (foldA op l).1, .bool (foldA op l).2.1, .int .i64 (foldA op l).2.2]) ∧ Below w.heap.size w w' := by
  obtain ⟨i0, hi, hz0, hz1, hz2⟩ := info_parts infoI
  have hlen : l.length = n := by have := hr.1; rw [smps_length] at this; omega
  by_cases h1 : op < 1 ∨ 5 < op ∨ 65536 < n
  · have E : foldA op l = (0, false, 1) := by unfold foldA; rw [if_pos (by rw [hlen]; exact h1)]
    rw [E]
    go_enter Try.func11, Try.ntmps11
    go_wp2
    all_goals first | (exfalso; omega) | (refine bodyPost_ret (v := _) (by simp [results, Try.results11, go_sem] <;> rfl) rfl ⟨?_, by (repeat' (first | with_reducible exact Below.refl _ _ | with_reducible refine Below.ext ?_ ?_ _ | with_reducible refine Below.alloc ?_ ?_ _ | with_reducible refine Below.setCell ?_ ?_ _ | with_reducible refine Below.drew ?_ | with_reducible assumption | (simp [World.size_ext]; done) | (simp [World.size_ext]; omega)))⟩; rfl)
  by_cases h2 : op = 2
  · have E : foldA op l = ((n : Int), true, 0) := by unfold foldA; rw [if_neg (by rw [hlen]; exact h1), if_pos h2, hlen]
    rw [E]
    subst h2
    go_enter Try.func11, Try.ntmps11
    go_wp2
    all_goals first | (exfalso; omega) | (refine bodyPost_ret (v := _) (by simp [results, Try.results11, go_sem] <;> rfl) rfl ⟨?_, by (repeat' (first | with_reducible exact Below.refl _ _ | with_reducible refine Below.ext ?_ ?_ _ | with_reducible refine Below.alloc ?_ ?_ _ | with_reducible refine Below.setCell ?_ ?_ _ | with_reducible refine Below.drew ?_ | with_reducible assumption | (simp [World.size_ext]; done) | (simp [World.size_ext]; omega)))⟩; rfl)
  by_cases h3 : n = 0
  · subst h3
    obtain rfl : l = [] := List.length_eq_zero_iff.1 hlen
    have E : foldA op [] = (0, false, 0) := by unfold foldA; rw [if_neg (by simpa using h1), if_neg h2, if_pos rfl]
    rw [E]
    go_enter Try.func11, Try.ntmps11
    go_wp2
    all_goals first | (exfalso; omega) | (refine bodyPost_ret (v := _) (by simp [results, Try.results11, go_sem] <;> rfl) rfl ⟨?_, by (repeat' (first | with_reducible exact Below.refl _ _ | with_reducible refine Below.ext ?_ ?_ _ | with_reducible refine Below.alloc ?_ ?_ _ | with_reducible refine Below.setCell ?_ ?_ _ | with_reducible refine Below.drew ?_ | with_reducible assumption | (simp [World.size_ext]; done) | (simp [World.size_ext]; omega)))⟩; rfl)
  obtain ⟨x0, hg0⟩ : ∃ x, l[0]? = some x := ⟨l[0]'(by omega), List.getElem?_eq_getElem (by omega)⟩
  obtain ⟨b, o, rfl, hb, hc⟩ := hr.plain (by omega) (by omega)
  have m0 : w.cell? ⟨b, o, none⟩ = some (.int .i64 x0.1) := hc _ _ (smps_get l 0 _ hg0).1
  have m0' : w.cell? ⟨b, o + 1, none⟩ = some (.int .i64 x0.2) := hc _ _ (smps_get l 0 _ hg0).2
  have c1 : decide (op < 1) = false := by simp; omega
  have c2 : decide (5 < op) = false := by simp; omega
  have c3 : decide (65536 < (n : Int)) = false := by simp; omega
  have c4 : (op == 2) = false := by simpa using h2
  have c5 : ((n : Int) == 0) = false := by simp; omega
  have hh : (l.headD (0, 0)) = x0 := by cases l with
    | nil => simp at hg0
    | cons a r => simpa using hg0
  have hne : l ≠ [] := by rintro rfl; simp at hg0
  have E : foldA op l = if op = 3 ∨ op = 4 then (bestL op x0.2 l, true, 0) else if -9223372036854775808 ≤ foldT op l ∧ foldT op l ≤ 9223372036854775807 then (foldT op l, true, 0) else (0, false, 20) := by
    unfold foldA; rw [if_neg (by rw [hlen]; exact h1), if_neg h2, if_neg hne, hh]
  by_cases o34 : op = 3 ∨ op = 4
  · rw [if_pos o34] at E
    have c6 : ((op == 3) || (op == 4)) = true := by simp; exact o34
    have c7 : ((op == 3) = true ∧ (op == 4) = false) ∨ ((op == 3) = false ∧ (op == 4) = true) := by rcases o34 with rfl | rfl <;> simp
    go_enter Try.func11, Try.ntmps11
    rcases c7 with ⟨c7, c8⟩ | ⟨c7, c8⟩
    · go_wp2
      go_loopw [7, 8] (fun v s wr => ∃ j : Nat, 1 ≤ j ∧ j ≤ n ∧ s = .int .i64 (j : Int) ∧ v = .int .i64 (bestL op x0.2 (l.take j)) ∧ wr = w) (fun _ s _ => ((n : Int) - intOf s).toNat)
      case atStart => exact ⟨1, by omega, by omega, rfl, by rw [List.take_add_one, List.take_zero, hg0]; simp only [Option.toList, List.nil_append]; rw [bestL_same]; rfl, rfl⟩
      case round =>
        obtain ⟨j, hj1, hj, rfl, rfl, rfl⟩ := hrel
        by_cases hlt : j < n
        · obtain ⟨x, hg⟩ : ∃ x, l[j]? = some x := ⟨l[j]'(by omega), List.getElem?_eq_getElem (by omega)⟩
          obtain ⟨g1, g2⟩ := smps_get l j _ hg
          have m2 : wr.cell? ⟨b, o + j * 2 + 1, none⟩ = some (.int .i64 x.2) := by rw [Nat.add_assoc]; exact hc _ _ g2
          have HB : Hid (bestL op x0.2 (l.take (j + 1)) = if (op = 3 ∧ x.2 < bestL op x0.2 (l.take j)) ∨ (op = 4 ∧ bestL op x0.2 (l.take j) < x.2) then x.2 else bestL op x0.2 (l.take j)) := by
            show _ = _
            rw [List.take_add_one, hg]; exact bestL_snoc _ _ _ _
          generalize hBj : bestL op x0.2 (l.take j) = B at *
          clear hc hr hl m0 m0' hBj g1 g2 hg h1 h2
          by_cases hlt2 : x.2 < B
          · have hlt3 : decide (x.2 < B) = true := by simpa using hlt2
            have E2 : Hid (bestL op x0.2 (l.take (j + 1)) = x.2) := by
              show _ = _
              rw [HB.out, if_pos]
              simp only [beq_iff_eq, beq_eq_false_iff_ne] at c7 c8
              omega
            clear hlt2 HB
            go_wp2
            go_roundw
            case rel => exact ⟨j + 1, by omega, by omega, by go_num, by rw [E2.out], by first | rfl | trivial⟩
            case measure => simp [intOf]; omega
          · have hlt3 : decide (x.2 < B) = false := by simpa using hlt2
            have E2 : Hid (bestL op x0.2 (l.take (j + 1)) = B) := by
              show _ = _
              rw [HB.out, if_neg]
              simp only [beq_iff_eq, beq_eq_false_iff_ne] at c7 c8
              omega
            clear hlt2 HB
            go_wp2
            go_roundw
            case rel => exact ⟨j + 1, by omega, by omega, by go_num, by rw [E2.out], by first | rfl | trivial⟩
            case measure => simp [intOf]; omega
        · obtain rfl : j = n := by omega
          rw [List.take_of_length_le (by omega)]
          clear hlt
          go_wp2
          refine bodyPost_ret (v := _) (by simp [results, Try.results11, go_sem] <;> rfl) rfl ⟨?_, by (repeat' (first | with_reducible exact Below.refl _ _ | with_reducible refine Below.ext ?_ ?_ _ | with_reducible refine Below.alloc ?_ ?_ _ | with_reducible refine Below.setCell ?_ ?_ _ | with_reducible refine Below.drew ?_ | with_reducible assumption | (simp [World.size_ext]; done) | (simp [World.size_ext]; omega)))⟩; rw [E]
    · go_wp2
      go_loopw [7, 8] (fun v s wr => ∃ j : Nat, 1 ≤ j ∧ j ≤ n ∧ s = .int .i64 (j : Int) ∧ v = .int .i64 (bestL op x0.2 (l.take j)) ∧ wr = w) (fun _ s _ => ((n : Int) - intOf s).toNat)
      case atStart => exact ⟨1, by omega, by omega, rfl, by rw [List.take_add_one, List.take_zero, hg0]; simp only [Option.toList, List.nil_append]; rw [bestL_same]; rfl, rfl⟩
      case round =>
        obtain ⟨j, hj1, hj, rfl, rfl, rfl⟩ := hrel
        by_cases hlt : j < n
        · obtain ⟨x, hg⟩ : ∃ x, l[j]? = some x := ⟨l[j]'(by omega), List.getElem?_eq_getElem (by omega)⟩
          obtain ⟨g1, g2⟩ := smps_get l j _ hg
          have m2 : wr.cell? ⟨b, o + j * 2 + 1, none⟩ = some (.int .i64 x.2) := by rw [Nat.add_assoc]; exact hc _ _ g2
          have HB : Hid (bestL op x0.2 (l.take (j + 1)) = if (op = 3 ∧ x.2 < bestL op x0.2 (l.take j)) ∨ (op = 4 ∧ bestL op x0.2 (l.take j) < x.2) then x.2 else bestL op x0.2 (l.take j)) := by
            show _ = _
            rw [List.take_add_one, hg]; exact bestL_snoc _ _ _ _
          generalize hBj : bestL op x0.2 (l.take j) = B at *
          clear hc hr hl m0 m0' hBj g1 g2 hg h1 h2
          by_cases hlt2 : B < x.2
          · have hlt3 : decide (B < x.2) = true := by simpa using hlt2
            have E2 : Hid (bestL op x0.2 (l.take (j + 1)) = x.2) := by
              show _ = _
              rw [HB.out, if_pos]
              simp only [beq_iff_eq, beq_eq_false_iff_ne] at c7 c8
              omega
            clear hlt2 HB
            go_wp2
            go_roundw
            case rel => exact ⟨j + 1, by omega, by omega, by go_num, by rw [E2.out], by first | rfl | trivial⟩
            case measure => simp [intOf]; omega
          · have hlt3 : decide (B < x.2) = false := by simpa using hlt2
            have E2 : Hid (bestL op x0.2 (l.take (j + 1)) = B) := by
              show _ = _
              rw [HB.out, if_neg]
              simp only [beq_iff_eq, beq_eq_false_iff_ne] at c7 c8
              omega
            clear hlt2 HB
            go_wp2
            go_roundw
            case rel => exact ⟨j + 1, by omega, by omega, by go_num, by rw [E2.out], by first | rfl | trivial⟩
            case measure => simp [intOf]; omega
        · obtain rfl : j = n := by omega
          rw [List.take_of_length_le (by omega)]
          clear hlt
          go_wp2
          refine bodyPost_ret (v := _) (by simp [results, Try.results11, go_sem] <;> rfl) rfl ⟨?_, by (repeat' (first | with_reducible exact Below.refl _ _ | with_reducible refine Below.ext ?_ ?_ _ | with_reducible refine Below.alloc ?_ ?_ _ | with_reducible refine Below.setCell ?_ ?_ _ | with_reducible refine Below.drew ?_ | with_reducible assumption | (simp [World.size_ext]; done) | (simp [World.size_ext]; omega)))⟩; rw [E]
  · rw [if_neg o34] at E
    have c6 : (op == 3) = false := by simp; omega
    have c7 : (op == 4) = false := by simp; omega
    by_cases o5 : op = 5
    · have c8 : (op == 5) = true := by simpa using o5
      have e5 : foldT op l = (l.getLastD (0, 0)).2 - x0.2 := by unfold foldT; rw [if_pos o5, hh]
      obtain ⟨m, rfl⟩ : ∃ m, n = m + 1 := ⟨n - 1, by omega⟩
      have hgl : l[m]? = some (l.getLastD (0, 0)) := by
        rw [List.getLastD_eq_getLast?, List.getLast?_eq_getElem?, hlen]
        simp
        rw [List.getElem?_eq_getElem (by omega)]; rfl
      generalize l.getLastD (0, 0) = xl at *
      obtain ⟨g1, g2⟩ := smps_get l m _ hgl
      have m2 : w.cell? ⟨b, o + m * 2 + 1, none⟩ = some (.int .i64 xl.2) := by rw [Nat.add_assoc]; exact hc _ _ g2
      have hp' := (hl xl (List.mem_of_getElem? hgl)).2
      have hp0 := (hl x0 (List.mem_of_getElem? hg0)).2
      rw [e5] at E
      have wm : IntKind.i64.wrap (m : Int) = (m : Int) := IntWalk.i64_in _ (by omega)
      have wm2 : (m : Int) < (m : Int) + 1 := by omega
      have wm3 : (0 : Int) < (m : Int) + 1 := by omega
      have ht := fun (w : World) A A' hr1 hr2 => total_any A A' 1 1 1 1 [xl.2] [x0.2] w hr1 hr2 (fun p hp => by simp at hp; subst hp; exact hp') (fun p hp => by simp at hp; subst hp; exact hp0) (by omega) (by omega)
      by_cases hs : -9223372036854775808 ≤ xl.2 - x0.2 ∧ xl.2 - x0.2 ≤ 9223372036854775807
      · rw [if_pos hs] at E
        have e2 : totA [xl.2] [x0.2] = (xl.2 - x0.2, true) := by unfold totA; simp only [sumI, Int.add_zero]; rw [if_pos hs]
        simp only [e2] at ht
        clear hl hr hc hlen hh e5 e2 hne
        have c3 : decide (65536 < (m : Int) + 1) = false := by simp; omega
        have c5 : ((m : Int) + 1 == 0) = false := by simp; omega
        go_enter Try.func11, Try.ntmps11
        go_wp2_with (go_at_call 20; refine (ht _ _ _ (one_reads ((Blk.new w _ _).alloc _)) (one_reads (by have := Blk.new (w.alloc (.cells #[.int .i64 xl.2] 2)) 2 #[.int .i64 x0.2]; simpa using this))).mono ?_; rintro e w' ⟨rfl, hb⟩; obtain ⟨X, rfl⟩ := World.ext_of_below hb; clear hb)
        refine bodyPost_ret (v := _) (by simp [results, Try.results11, go_sem] <;> rfl) rfl ⟨?_, by (repeat' (first | with_reducible exact Below.refl _ _ | with_reducible refine Below.ext ?_ ?_ _ | with_reducible refine Below.alloc ?_ ?_ _ | with_reducible refine Below.setCell ?_ ?_ _ | with_reducible refine Below.drew ?_ | with_reducible assumption | (simp [World.size_ext]; done) | (simp [World.size_ext]; omega)))⟩; rw [E]
      · rw [if_neg hs] at E
        have e2 : totA [xl.2] [x0.2] = (0, false) := by unfold totA; simp only [sumI, Int.add_zero]; rw [if_neg hs]
        simp only [e2] at ht
        clear hl hr hc hlen hh e5 e2 hne
        have c3 : decide (65536 < (m : Int) + 1) = false := by simp; omega
        have c5 : ((m : Int) + 1 == 0) = false := by simp; omega
        go_enter Try.func11, Try.ntmps11
        go_wp2_with (go_at_call 20; refine (ht _ _ _ (one_reads ((Blk.new w _ _).alloc _)) (one_reads (by have := Blk.new (w.alloc (.cells #[.int .i64 xl.2] 2)) 2 #[.int .i64 x0.2]; simpa using this))).mono ?_; rintro e w' ⟨rfl, hb⟩; obtain ⟨X, rfl⟩ := World.ext_of_below hb; clear hb)
        refine bodyPost_ret (v := _) (by simp [results, Try.results11, go_sem] <;> rfl) rfl ⟨?_, by (repeat' (first | with_reducible exact Below.refl _ _ | with_reducible refine Below.ext ?_ ?_ _ | with_reducible refine Below.alloc ?_ ?_ _ | with_reducible refine Below.setCell ?_ ?_ _ | with_reducible refine Below.drew ?_ | with_reducible assumption | (simp [World.size_ext]; done) | (simp [World.size_ext]; omega)))⟩; rw [E]
    · have e1 : foldT op l = sumL l := by unfold foldT; rw [if_neg o5]
      rw [e1] at E
      obtain rfl : op = 1 := by omega
      go_enter Try.func11, Try.ntmps11
      go_wp2
      go_loopw [9, 11] (fun v s wr => ∃ j : Nat, j ≤ n ∧ s = .int .i64 (j : Int) ∧ wr.ownsRow w.heap.size 2 1 v j (i64s ((l.map (·.2)).take j)) ∧ Below w.heap.size w wr) (fun _ s _ => ((n : Int) - intOf s).toNat)
      case atStart => exact ⟨0, by omega, rfl, ⟨rfl, .inl ⟨rfl, rfl⟩⟩, Below.refl _ _⟩
      case round =>
        obtain ⟨j, hj, rfl, hown, hbel⟩ := hrel
        have hsz := hbel.size
        by_cases hlt : j < n
        · obtain ⟨x, hg⟩ : ∃ x, l[j]? = some x := ⟨l[j]'(by omega), List.getElem?_eq_getElem (by omega)⟩
          obtain ⟨g1, g2⟩ := smps_get l j _ hg
          have m2 : wr.cell? ⟨b, o + j * 2 + 1, none⟩ = some (.int .i64 x.2) := by rw [hbel.cell (p := ⟨b, _, none⟩) hb, Nat.add_assoc]; exact hc _ _ g2
          have HT : Hid (i64s ((l.map (·.2)).take (j + 1)) = i64s ((l.map (·.2)).take j) ++ [.int .i64 x.2]) := by show _ = _; rw [List.take_add_one, i64s_append]; simp [hg, i64s]
          go_wp2_with (at_builtin; go_must (refine wpList_append_own _ rfl (.tmp 99) (.tmp 105) 58 rfl (w.heap.size) 2 i0 (.int .i64 0) 1 8 Try.underlying58 hi hz0 hz1 hz2 rfl (by decide) u9 (j) _ rfl (hown.alloc _) ⟨wr.heap.size, 0, none⟩ 1 1 [(.int .i64 x.2)] rfl rfl ?c1 ?c2 ?c3 ?c4 ?c5 ?_))
          case c2 => first | rfl | (simp [Value.oneCell']; done) | (intro u hu; simp at hu; subst hu; rfl)
          case c3 => unfold maxLen; omega
          case c4 => omega
          case c5 => first | omega | (simp; omega)
          intro v' w1 hown1 hg1 _
          have hbel1 := own_below (hbel.alloc hsz _) (hown.alloc _) hg1 (Nat.le_refl _) (by simp; omega)
          go_wp2
          go_roundw
          case rel => exact ⟨j + 1, by omega, by go_num, HT.out ▸ hown1, hbel1⟩
          case measure => simp [intOf]; omega
        · obtain rfl : j = n := by omega
          rw [List.take_of_length_le (by rw [List.length_map]; omega)] at hown
          clear hlt
          have hS := sumI_nums l
          have hin := I64s.nums hl
          obtain ⟨A', cap, rfl, -⟩ := own_slice hown
          have hq := Reads.of_own hown
          have ht := fun (w : World) hr1 => total_any A' none j cap 0 0 (l.map (·.2)) [] w hr1 Reads.none_ hin (fun p hp => by simp at hp) (by omega) (by omega)
          by_cases hs : -9223372036854775808 ≤ sumL l ∧ sumL l ≤ 9223372036854775807
          · rw [if_pos hs] at E
            have e2 : totA (l.map (·.2)) [] = (sumL l, true) := by unfold totA; rw [hS]; simp only [sumI, Int.sub_zero]; rw [if_pos hs]
            simp only [e2] at ht
            go_wp2_with (go_at_call 20; refine (ht _ (Reads.more (B := _) (by (repeat' (first | with_reducible exact hq | with_reducible refine Reads.cat_ ?_ ?_ _ | with_reducible refine Reads.ext ?_ ?_ _ | with_reducible refine Reads.alloc ?_ ?_ _ | with_reducible refine Reads.setCell ?_ ?_ _ | (simp [World.size_ext]; done) | (simp [World.size_ext]; omega)))) (by first | omega | (simp [World.size_ext]; done) | (simp [World.size_ext]; omega)))).mono ?_; rintro e w' ⟨rfl, hb⟩; obtain ⟨X, rfl⟩ := World.ext_of_below hb; clear hb)
            refine bodyPost_ret (v := _) (by simp [results, Try.results11, go_sem] <;> rfl) rfl ⟨?_, by (repeat' (first | with_reducible exact Below.refl _ _ | with_reducible refine Below.ext ?_ ?_ _ | with_reducible refine Below.alloc ?_ ?_ _ | with_reducible refine Below.setCell ?_ ?_ _ | with_reducible refine Below.drew ?_ | with_reducible assumption | (simp [World.size_ext]; done) | (simp [World.size_ext]; omega)))⟩; rw [E]
          · rw [if_neg hs] at E
            have e2 : totA (l.map (·.2)) [] = (0, false) := by unfold totA; rw [hS]; simp only [sumI, Int.sub_zero]; rw [if_neg hs]
            simp only [e2] at ht
            go_wp2_with (go_at_call 20; refine (ht _ (Reads.more (B := _) (by (repeat' (first | with_reducible exact hq | with_reducible refine Reads.cat_ ?_ ?_ _ | with_reducible refine Reads.ext ?_ ?_ _ | with_reducible refine Reads.alloc ?_ ?_ _ | with_reducible refine Reads.setCell ?_ ?_ _ | (simp [World.size_ext]; done) | (simp [World.size_ext]; omega)))) (by first | omega | (simp [World.size_ext]; done) | (simp [World.size_ext]; omega)))).mono ?_; rintro e w' ⟨rfl, hb⟩; obtain ⟨X, rfl⟩ := World.ext_of_below hb; clear hb)
            refine bodyPost_ret (v := _) (by simp [results, Try.results11, go_sem] <;> rfl) rfl ⟨?_, by (repeat' (first | with_reducible exact Below.refl _ _ | with_reducible refine Below.ext ?_ ?_ _ | with_reducible refine Below.alloc ?_ ?_ _ | with_reducible refine Below.setCell ?_ ?_ _ | with_reducible refine Below.drew ?_ | with_reducible assumption | (simp [World.size_ext]; done) | (simp [World.size_ext]; omega)))⟩; rw [E]
end Go.Proofs.Ytijegnhkkgdihaa
