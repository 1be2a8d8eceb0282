import Derived.Test.YtghinjnhcepaeaaCh9
/-! The document's chain: Get. -/
namespace Go.Proofs.Ytghinjnhcepaeaa
open Go.RowKit
set_option linter.unusedVariables false
set_option linter.unusedSimpArgs false
set_option maxRecDepth 100000 in
set_option maxHeartbeats 4000000 in
theorem rget_any (A : Option Addr) (n c : Nat) (l : List Ver) (t : Ver) (w : World) (hr : Reads w w.heap.size 6 A n (vsV l)) (hn : n ≤ 4611686018427387904) (hs : Srt l) (hok : ∀ x ∈ l, x.ok) (ht : t.ok) :
    Calls Try.prog 15 #[.slice A n c, .agg #[.int .i64 t.a, .int .u32 t.b, .int .u32 t.c]] w fun e w' => e = .returned (.tuple #[.agg (gvD (getV l t.k)).arr, .bool (getV l t.k).isSome]) ∧ Below w.heap.size w w' := by
  have hl := vreads_len hr
  have hr1 := ((hr.alloc (Nat.le_refl _) (.cells #[.int .i64 t.a, .int .u32 t.b, .int .u32 t.c] 24)).alloc (by simp) (.cells #[.int .i64 0, .int .u32 0, .int .u32 0, .int .i64 0, .int .i64 0, .string ⟨#[]⟩] 26)).more (B' := ((w.alloc (.cells #[.int .i64 t.a, .int .u32 t.b, .int .u32 t.c] 24)).alloc (.cells #[.int .i64 0, .int .u32 0, .int .u32 0, .int .i64 0, .int .i64 0, .string ⟨#[]⟩] 26)).heap.size) (by simp; omega)
  have hQ := rlast_any A n c l t _ hr1 hn hs hok ht
  have hR := Blk.made w (.cells #[.int .i64 t.a, .int .u32 t.b, .int .u32 t.c] 24) 26 #[.int .i64 0, .int .u32 0, .int .u32 0, .int .i64 0, .int .i64 0, .string ⟨#[]⟩]
  generalize hg : getV l t.k = o
  rcases hm : cntLe l t.k with _ | m
  · rw [hm] at hQ
    rw [stand_zero hm] at hg
    subst hg
    simp only [Int.natCast_zero, Int.zero_sub] at hQ
    clear hr hr1 hs hok
    go_enter Try.func15, Try.ntmps15
    go_wp2_with (go_at_call 28; (with_reducible refine (hQ).mono ?_); rintro e w' ⟨rfl, hb⟩; obtain ⟨X, rfl⟩ := World.ext_of_below hb; clear hb)
    refine bodyPost_cell_tmp Try.results15 rfl (Blk.six (hR.ext X)) Try.underlying26 rfl (by kernel_rfl) rfl ⟨rfl, ?_⟩
    clear hR
    (repeat' (first | with_reducible exact Below.refl _ _ | with_reducible refine Below.ext ?_ ?_ _ | with_reducible refine Below.alloc ?_ ?_ _ | with_reducible refine Below.setCell ?_ ?_ _ | with_reducible refine Below.drew ?_ | with_reducible assumption | (simp [World.size_ext]; done) | (simp [World.size_ext]; omega)))
  · obtain ⟨x, hx⟩ : ∃ x, l[m]? = some x := ⟨l[m]'(by have := cntLe_le l t.k; omega), List.getElem?_eq_getElem _⟩
    have hmn : m < n := by have := cntLe_le l t.k; omega
    have hmi : (m : Int) < n := by omega
    rw [stand_some hm hx] at hg
    obtain ⟨b, o', rfl, hbb, hcw⟩ := hr.plain (by omega) (by omega)
    have m0 : (w).cell? ⟨b, o' + m * 6, none⟩ = some (.int .i64 (x).a) := hcw _ _ (vsV_get hx 0 _ rfl); have m1 : (w).cell? ⟨b, o' + m * 6 + 1, none⟩ = some (.int .u32 (x).b) := hcw _ _ (vsV_get hx 1 _ rfl); have m2 : (w).cell? ⟨b, o' + m * 6 + 2, none⟩ = some (.int .u32 (x).c) := hcw _ _ (vsV_get hx 2 _ rfl); have m3 : (w).cell? ⟨b, o' + m * 6 + 3, none⟩ = some (.int .i64 (x).kd) := hcw _ _ (vsV_get hx 3 _ rfl); have m4 : (w).cell? ⟨b, o' + m * 6 + 4, none⟩ = some (.int .i64 (x).num) := hcw _ _ (vsV_get hx 4 _ rfl); have m5 : (w).cell? ⟨b, o' + m * 6 + 5, none⟩ = some (.string (x).text) := hcw _ _ (vsV_get hx 5 _ rfl)
    have hb1 : b < w.heap.size + 1 := by omega
    have hb2 : b < w.heap.size + 1 + 1 := by omega
    have hne : b ≠ w.heap.size + 1 := by omega
    rw [hm] at hQ
    have hmi0 : ((m : Int) + 1 - 1) = (m : Int) := by omega
    have hmi1 : ¬ ((m : Int) < 0) := by omega
    simp only [Int.natCast_add, Int.cast_ofNat_Int, hmi0] at hQ
    clear hr hr1 hs hok hcw
    by_cases h3 : x.kd = 3
    · rw [if_pos h3] at hg
      subst hg
      rw [h3] at m3
      go_enter Try.func15, Try.ntmps15
      go_wp2_with (go_at_call 28; (with_reducible refine (hQ).mono ?_); rintro e w' ⟨rfl, hb⟩; obtain ⟨X, rfl⟩ := World.ext_of_below hb; clear hb)
      refine bodyPost_cell_tmp Try.results15 rfl (Blk.six (hR.ext X)) Try.underlying26 rfl (by kernel_rfl) rfl ⟨rfl, ?_⟩
      clear hR
      (repeat' (first | with_reducible exact Below.refl _ _ | with_reducible refine Below.ext ?_ ?_ _ | with_reducible refine Below.alloc ?_ ?_ _ | with_reducible refine Below.setCell ?_ ?_ _ | with_reducible refine Below.drew ?_ | with_reducible assumption | (simp [World.size_ext]; done) | (simp [World.size_ext]; omega)))
    · rw [if_neg h3] at hg
      subst hg
      have h3' : (x.kd == 3) = false := by simpa using h3
      go_enter Try.func15, Try.ntmps15
      go_wp2_with (go_at_call 28; (with_reducible refine (hQ).mono ?_); rintro e w' ⟨rfl, hb⟩; obtain ⟨X, rfl⟩ := World.ext_of_below hb; clear hb)
      refine bodyPost_cell_tmp Try.results15 rfl (Blk.six (hR.ext X)) Try.underlying26 rfl (by kernel_rfl) rfl ⟨rfl, ?_⟩
      clear hR
      (repeat' (first | with_reducible exact Below.refl _ _ | with_reducible refine Below.ext ?_ ?_ _ | with_reducible refine Below.alloc ?_ ?_ _ | with_reducible refine Below.setCell ?_ ?_ _ | with_reducible refine Below.drew ?_ | with_reducible assumption | (simp [World.size_ext]; done) | (simp [World.size_ext]; omega)))
end Go.Proofs.Ytghinjnhcepaeaa
