import Derived.Test.YthajbeooemngpaaDel
/-! Another view. -/
namespace Go.Proofs.Ythajbeooemngpaa
open Go.RowKit
set_option linter.unusedVariables false
set_option linter.unusedSimpArgs false
theorem change_nil (n : Int) (A : Option Addr) (m c : Nat) (w : World) :
    Calls Try.prog 27 #[.pointer none, .int .i64 n, .slice A m c] w fun r w' => r = .returned (.tuple #[.agg #[.int .i64 0, .int .i64 0, .slice none 0 0], .int .i64 2]) ∧ Below w.heap.size w w' := by
  go_enter Try.func27, Try.ntmps27
  go_wp2
  refine bodyPost_cell_tmp Try.results27 rfl (Blk.made w _ _ _) Try.underlying56 rfl (by kernel_rfl) rfl ⟨rfl, by (repeat' (first | with_reducible exact Below.refl _ _ | with_reducible refine Below.ext ?_ ?_ _ | with_reducible refine Below.alloc ?_ ?_ _ | with_reducible refine Below.setCell ?_ ?_ _ | with_reducible refine Below.drew ?_ | with_reducible assumption | (simp [World.size_ext]; done) | (simp [World.size_ext]; omega)))⟩
def changeE (k : Vw) (n : Int) (ms : List Int) : Int := if (risingB ms && hasB ms n) = false then 1 else if hasB k.ss n = false then 111 else if 4611686018427387904 ≤ k.e then 20 else 0
set_option maxHeartbeats 2000000 in
theorem change_no (g bm bs : Nat) (k : Vw) (n : Int) (A : Option Addr) (m c : Nat) (ms : List Int) (w : World) (h : Ctl w g bm bs k) (hr : Reads w w.heap.size 1 A m (ints ms)) (hm : m ≤ 9223372036854775807) (hs : k.ss.length ≤ 9223372036854775807) (he : changeE k n ms ≠ 0) :
    Calls Try.prog 27 #[.pointer (some ⟨g, 0, none⟩), .int .i64 n, .slice A m c] w fun r w' => r = .returned (.tuple #[.agg #[.int .i64 0, .int .i64 0, .slice none 0 0], .int .i64 (changeE k n ms)]) ∧ Below w.heap.size w w' := by
  obtain ⟨cm, cs, h1, h2, h3, h4⟩ := h
  have hr' : ∀ o1 o2, Reads ((w.alloc o1).alloc o2) ((w.alloc o1).alloc o2).heap.size 1 A m (ints ms) := fun o1 o2 => ((hr.alloc (Nat.le_refl _) o1).alloc (by simp) o2).more (by simp; omega)
  have hR : ∀ o1 o2, _ := fun o1 o2 => rising_any A m c ms ((w.alloc o1).alloc o2) (hr' o1 o2) hm
  have hH : ∀ o1 o2, _ := fun o1 o2 => has_any A m c ms n ((w.alloc o1).alloc o2) (hr' o1 o2) hm
  have hS : ∀ o1 o2, _ := fun o1 o2 => has_any _ _ cs k.ss n ((w.alloc o1).alloc o2) (((h3.alloc o1).alloc o2).reads) hs
  have c1 := h1.cell
  have l1 := h1.lt
  clear hr hr' h1 h2 h3
  unfold changeE at *
  cases hu : risingB ms with
  | false =>
    rw [hu] at hR
    simp only [hu, Bool.false_and, if_true] at he ⊢
    go_enter Try.func27, Try.ntmps27
    go_wp2_with (first | (go_at_call 74; (with_reducible refine (hR _ _).mono ?_); rintro e w1 ⟨rfl, rfl⟩))
    refine bodyPost_cell_tmp Try.results27 rfl (Blk.made w _ _ _) Try.underlying56 rfl (by kernel_rfl) rfl ⟨rfl, by (repeat' (first | with_reducible exact Below.refl _ _ | with_reducible refine Below.ext ?_ ?_ _ | with_reducible refine Below.alloc ?_ ?_ _ | with_reducible refine Below.setCell ?_ ?_ _ | with_reducible refine Below.drew ?_ | with_reducible assumption | (simp [World.size_ext]; done) | (simp [World.size_ext]; omega)))⟩
  | true =>
    rw [hu] at hR
    cases hh : hasB ms n with
    | false =>
      rw [hh] at hH
      simp only [hu, hh, Bool.and_false, if_true] at he ⊢
      go_enter Try.func27, Try.ntmps27
      go_wp2_with (first | (go_at_call 74; (with_reducible refine (hR _ _).mono ?_); rintro e w1 ⟨rfl, rfl⟩) | (go_at_call 75; (with_reducible refine (hH _ _).mono ?_); rintro e w1 ⟨rfl, rfl⟩))
      refine bodyPost_cell_tmp Try.results27 rfl (Blk.made w _ _ _) Try.underlying56 rfl (by kernel_rfl) rfl ⟨rfl, by (repeat' (first | with_reducible exact Below.refl _ _ | with_reducible refine Below.ext ?_ ?_ _ | with_reducible refine Below.alloc ?_ ?_ _ | with_reducible refine Below.setCell ?_ ?_ _ | with_reducible refine Below.drew ?_ | with_reducible assumption | (simp [World.size_ext]; done) | (simp [World.size_ext]; omega)))⟩
    | true =>
      rw [hh] at hH
      cases hs : hasB k.ss n with
      | false =>
        rw [hs] at hS
        simp only [hu, hh, hs, Bool.and_true, if_true, Bool.true_eq_false, if_false] at he ⊢
        go_enter Try.func27, Try.ntmps27
        go_wp2_with (first | (go_at_call 74; (with_reducible refine (hR _ _).mono ?_); rintro e w1 ⟨rfl, rfl⟩) | (go_at_call 75; (with_reducible refine (hH _ _).mono ?_); rintro e w1 ⟨rfl, rfl⟩) | (go_at_call 75; (with_reducible refine (hS _ _).mono ?_); rintro e w1 ⟨rfl, rfl⟩))
        refine bodyPost_cell_tmp Try.results27 rfl (Blk.made w _ _ _) Try.underlying56 rfl (by kernel_rfl) rfl ⟨rfl, by (repeat' (first | with_reducible exact Below.refl _ _ | with_reducible refine Below.ext ?_ ?_ _ | with_reducible refine Below.alloc ?_ ?_ _ | with_reducible refine Below.setCell ?_ ?_ _ | with_reducible refine Below.drew ?_ | with_reducible assumption | (simp [World.size_ext]; done) | (simp [World.size_ext]; omega)))⟩
      | true =>
        rw [hs] at hS
        simp only [hu, hh, hs, Bool.and_true, if_true, Bool.true_eq_false, if_false] at he ⊢
        by_cases hb : 4611686018427387904 ≤ k.e
        · rw [if_pos hb]
          go_enter Try.func27, Try.ntmps27
          go_wp2_with (first | (go_at_call 74; (with_reducible refine (hR _ _).mono ?_); rintro e w1 ⟨rfl, rfl⟩) | (go_at_call 75; (with_reducible refine (hH _ _).mono ?_); rintro e w1 ⟨rfl, rfl⟩) | (go_at_call 75; (with_reducible refine (hS _ _).mono ?_); rintro e w1 ⟨rfl, rfl⟩))
          refine bodyPost_cell_tmp Try.results27 rfl (Blk.made w _ _ _) Try.underlying56 rfl (by kernel_rfl) rfl ⟨rfl, by (repeat' (first | with_reducible exact Below.refl _ _ | with_reducible refine Below.ext ?_ ?_ _ | with_reducible refine Below.alloc ?_ ?_ _ | with_reducible refine Below.setCell ?_ ?_ _ | with_reducible refine Below.drew ?_ | with_reducible assumption | (simp [World.size_ext]; done) | (simp [World.size_ext]; omega)))⟩
        · rw [if_neg hb] at he
          exact absurd rfl he
end Go.Proofs.Ythajbeooemngpaa
