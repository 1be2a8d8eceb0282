import Derived.Test.YthajbeooemngpaaChg2
/-! The document's views: Has, Right, SameList, Same, From. -/
namespace Go.Proofs.Ythajbeooemngpaa
open Go.RowKit
set_option linter.unusedVariables false
set_option linter.unusedSimpArgs false
set_option maxHeartbeats 1000000 in
theorem rhas_any (A : Option Addr) (n c : Nat) (l : List Int) (x : Int) (w : World) (hr : Reads w w.heap.size 1 A n (ints l)) (hn : n ≤ 9223372036854775807) :
    Calls Try.prog 41 #[.slice A n c, .int .i64 x] w fun e w' => e = .returned (.bool (hasB l x)) ∧ w' = w := by
  have hl := reads_len hr
  go_enter Try.func41, Try.ntmps41
  go_wp2
  go_loopw [5] (fun s wr => ∃ j : Nat, j ≤ n ∧ s = .int .i64 (j : Int) ∧ (∀ (i : Nat) (y : Int), i < j → l[i]? = some y → y ≠ x) ∧ wr = w) (fun s _ => ((n : Int) - intOf s).toNat)
  case atStart => exact ⟨0, by omega, rfl, fun i y hi => by omega, rfl⟩
  case round =>
    obtain ⟨j, hj, rfl, hno, rfl⟩ := hrel
    by_cases hlt : j < n
    · obtain ⟨b, o, rfl, hbb, hc⟩ := hr.plain (by omega) (by omega)
      have hg : l[j]? = some l[j] := List.getElem?_eq_getElem (by omega)
      have m1 := hc _ _ (ints_get hg)
      have hlj : (j : Int) < n := by omega
      by_cases hx : l[j] = x
      · have hH : hasB l x = true := hasB_mem.2 (hx ▸ List.getElem_mem _)
        rw [hx] at m1
        have hH := hide hH
        clear hc hr hno hg
        go_wp2
        go_ret
        exact ⟨by rw [hH.out] <;> rfl, rfl⟩
      · have HN := hide (fun (i : Nat) (y : Int) (hi : i < j + 1) (h : l[i]? = some y) => show y ≠ x from by
          rcases Nat.lt_or_ge i j with h' | h'
          · exact hno i y h' h
          · obtain rfl : i = j := by omega
            rw [hg] at h; cases h; exact hx)
        clear hno hg hc
        generalize l[j] = y at *
        have hb' : (y == x) = false := by simpa using hx
        go_wp2
        go_roundw
        case rel => exact ⟨j + 1, by omega, by go_num, HN.out, by trivial⟩
        case measure => simp [intOf]; omega
    · obtain rfl : j = n := by omega
      have hH : hasB l x = false := hasB_not.2 fun hm => by
        obtain ⟨i, hi, h⟩ := List.getElem_of_mem hm
        exact hno i _ (by omega) (List.getElem?_eq_getElem hi) h
      have hH := hide hH
      clear hno
      go_wp2
      go_ret
      exact ⟨by rw [hH.out] <;> rfl, rfl⟩
theorem samel_any (A A' : Option Addr) (n c c' : Nat) (l : List Int) (w : World) (hr : Reads w w.heap.size 1 A n (ints l)) (hr' : Reads w w.heap.size 1 A' n (ints l)) (hn : n ≤ 9223372036854775807) :
    Calls Try.prog 38 #[.slice A n c, .slice A' n c'] w fun e w' => e = .returned (.bool true) ∧ Below w.heap.size w w' := by
  have hl := reads_len hr
  go_enter Try.func38, Try.ntmps38
  go_wp2
  go_loopw [5] (fun s wr => ∃ j : Nat, j ≤ n ∧ s = .int .i64 (j : Int) ∧ Below w.heap.size w wr) (fun s _ => ((n : Int) - intOf s).toNat)
  case atStart => exact ⟨0, by omega, rfl, Below.refl _ _⟩
  case round =>
    obtain ⟨j, hj, rfl, hb⟩ := hrel
    obtain ⟨wo, rfl⟩ : ∃ wo : World, wo = wr := ⟨_, rfl⟩
    have hs := hb.size
    by_cases hlt : j < n
    · obtain ⟨b, o, rfl, hbb, hc⟩ := hr.plain (by omega) (by omega)
      obtain ⟨b', o', rfl, hbb', hc'⟩ := hr'.plain (by omega) (by omega)
      have hg : l[j]? = some l[j] := List.getElem?_eq_getElem (by omega)
      have m1 : wo.cell? ⟨b, o + j, none⟩ = some (.int .i64 l[j]) := by rw [hb.cell (p := ⟨b, _, none⟩) hbb]; exact hc _ _ (ints_get hg)
      have m3 : wo.cell? ⟨b', o' + j, none⟩ = some (.int .i64 l[j]) := by rw [hb.cell (p := ⟨b', _, none⟩) hbb']; exact hc' _ _ (ints_get hg)
      have hbw : b < wo.heap.size := by omega
      have hbw' : b' < wo.heap.size := by omega
      have hlj : (j : Int) < n := by omega
      clear hc hc' hr hr'
      generalize l[j] = p at *
      go_wp2
      refine wp_region_ext_lit (by kernel_rfl) (by kernel_rfl) ?_
      (repeat (quiet_step (fail)))
      refine wpQuiet_nil ?_; intro _ hw'; obtain ⟨Y, hw''⟩ := hw'; subst hw''
      go_wp2
      go_roundw
      case rel => exact ⟨j + 1, by omega, by go_num, by (repeat' (first | with_reducible exact Below.refl _ _ | with_reducible refine Below.ext ?_ ?_ _ | with_reducible refine Below.alloc ?_ ?_ _ | with_reducible refine Below.setCell ?_ ?_ _ | with_reducible refine Below.drew ?_ | with_reducible assumption | (simp [World.size_ext]; done) | (simp [World.size_ext]; omega)))⟩
      case measure => simp [intOf]; omega
    · obtain rfl : j = n := by omega
      go_wp2
      go_ret
      exact ⟨rfl, hb⟩
theorem same_any (e p : Int) (A A' : Option Addr) (n c c' : Nat) (l : List Int) (w : World) (hr : Reads w w.heap.size 1 A n (ints l)) (hr' : Reads w w.heap.size 1 A' n (ints l)) (hn : n ≤ 9223372036854775807) :
    Calls Try.prog 35 #[.agg #[.int .i64 e, .int .i64 p, .slice A n c], .agg #[.int .i64 e, .int .i64 p, .slice A' n c']] w fun r w' => r = .returned (.bool true) ∧ Below w.heap.size w w' := by
  have hS : ∀ o1 o2, _ := fun o1 o2 => samel_any A A' n c c' l ((w.alloc o1).alloc o2) (((hr.alloc (Nat.le_refl _) o1).alloc (by simp) o2).more (by simp; omega)) (((hr'.alloc (Nat.le_refl _) o1).alloc (by simp) o2).more (by simp; omega)) hn
  clear hr hr'
  go_enter Try.func35, Try.ntmps35
  go_wp2_with (go_at_call 38; (with_reducible refine (hS _ _).mono ?_); rintro e w1 ⟨rfl, hb1⟩)
  go_ret
  exact ⟨rfl, ((Below.alloc (Below.alloc (Below.refl _ _) (Nat.le_refl _) _) (by simp) _)).trans (hb1.mono (by simp; omega))⟩
theorem vfrom_any (e p : Int) (A : Option Addr) (n c : Nat) (w : World) :
    Calls Try.prog 36 #[.agg #[.int .i64 e, .int .i64 p, .slice A n c]] w fun r w' => r = .returned (.agg #[.int .i64 e, .int .i64 p, .slice A n c]) ∧ Below w.heap.size w w' := by
  go_enter Try.func36, Try.ntmps36
  go_wp2
  refine bodyPost_cell Try.results36 rfl (Blk.made w _ _ _) Try.underlying66 rfl (by kernel_rfl) rfl ⟨rfl, by (repeat' (first | with_reducible exact Below.refl _ _ | with_reducible refine Below.ext ?_ ?_ _ | with_reducible refine Below.alloc ?_ ?_ _ | with_reducible refine Below.setCell ?_ ?_ _ | with_reducible refine Below.drew ?_ | with_reducible assumption | (simp [World.size_ext]; done) | (simp [World.size_ext]; omega)))⟩
end Go.Proofs.Ythajbeooemngpaa
