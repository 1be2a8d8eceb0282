import Derived.Test.YthajbeooemngpaaRdBack
import Derived.Test.YthajbeooemngpaaDraw
/-! The document's reader of no bytes. -/
namespace Go.Proofs.Ythajbeooemngpaa
open Go.RowKit
set_option linter.unusedVariables false
set_option linter.unusedSimpArgs false
def e9 (e : Int) : Int := if e = 0 then 9 else e
theorem e9_ne (e : Int) : (e9 e != 0) = true := by unfold e9; split <;> simp [*]
theorem mnum_any (q : Nat) (e : Int) (w : World) (h : Blk w q 105 #[.slice none 0 0, .int .i64 0, .int .i64 (e)]) :
    Calls Try.prog 85 #[.pointer (some ⟨q, 0, none⟩)] w fun e' w' => e' = .returned (.int .u64 0) ∧ Blk w' q 105 #[.slice none 0 0, .int .i64 0, .int .i64 (e9 e)] ∧ Only w w' q := by
  have c1 := h.cell
  have f1 := h.frozen
  have l1 := h.lt
  unfold e9
  by_cases h0 : e = 0
  · subst h0
    rw [if_pos rfl]
    go_enter Try.func85, Try.ntmps85
    go_wp2
    refine wp_region_ext_lit (by kernel_rfl) (by kernel_rfl) ?_
    (repeat (quiet_step (fail)))
    refine wpQuiet_nil ?_; intro _ hw'; obtain ⟨Y, hw''⟩ := hw'; subst hw''
    go_wp2
    go_ret
    exact ⟨rfl, (h.ext Y).set_ 2 _, by (repeat' (first | with_reducible exact h | with_reducible exact Only.refl _ _ | with_reducible refine Only.set_ ?_ ?_ _ | with_reducible refine Only.alloc ?_ _ | with_reducible refine Only.ext ?_ _ | exact .inl rfl | (right; first | omega | (simp [World.size_ext]; done) | (simp [World.size_ext]; omega))))⟩
  · rw [if_neg h0]
    have h0' : (e != 0) = true := by simpa using h0
    go_enter Try.func85, Try.ntmps85
    go_wp2
    go_ret
    exact ⟨rfl, h, Only.refl _ _⟩
theorem mint_any (q : Nat) (e : Int) (w : World) (h : Blk w q 105 #[.slice none 0 0, .int .i64 0, .int .i64 (e)]) :
    Calls Try.prog 86 #[.pointer (some ⟨q, 0, none⟩)] w fun e' w' => e' = .returned (.int .i64 0) ∧ Blk w' q 105 #[.slice none 0 0, .int .i64 0, .int .i64 (e9 e)] ∧ Only w w' q := by
  go_enter Try.func86, Try.ntmps86
  go_wp2_with (go_at_call 85; (with_reducible refine (mnum_any _ _ _ h).mono ?_); rintro e w1 ⟨rfl, h1, ho1⟩; have d1 := h1.cell; have k1 := h1.frozen; have l1 := h1.lt)
  go_ret
  exact ⟨rfl, h1, ho1⟩
theorem mflag_any (q : Nat) (e : Int) (w : World) (h : Blk w q 105 #[.slice none 0 0, .int .i64 0, .int .i64 (e)]) :
    Calls Try.prog 87 #[.pointer (some ⟨q, 0, none⟩)] w fun e' w' => e' = .returned (.bool false) ∧ Blk w' q 105 #[.slice none 0 0, .int .i64 0, .int .i64 (e9 e)] ∧ Only w w' q := by
  go_enter Try.func87, Try.ntmps87
  go_wp2_with (go_at_call 85; (with_reducible refine (mnum_any _ _ _ h).mono ?_); rintro e w1 ⟨rfl, h1, ho1⟩; have d1 := h1.cell; have k1 := h1.frozen; have l1 := h1.lt)
  go_ret
  exact ⟨rfl, h1, ho1⟩
theorem mcount_any (q : Nat) (e most : Int) (w : World) (h : Blk w q 105 #[.slice none 0 0, .int .i64 0, .int .i64 (e)]) :
    Calls Try.prog 90 #[.pointer (some ⟨q, 0, none⟩), .int .i64 most] w fun e' w' => e' = .returned (.int .i64 0) ∧ Blk w' q 105 #[.slice none 0 0, .int .i64 0, .int .i64 (e9 e)] ∧ Only w w' q := by
  have hne := e9_ne e
  go_enter Try.func90, Try.ntmps90
  go_wp2_with (go_at_call 85; (with_reducible refine (mnum_any _ _ _ h).mono ?_); rintro e w1 ⟨rfl, h1, ho1⟩; have d1 := h1.cell; have k1 := h1.frozen; have l1 := h1.lt)
  go_ret
  exact ⟨rfl, h1, ho1⟩
theorem mtext_any (q : Nat) (e most : Int) (w : World) (h : Blk w q 105 #[.slice none 0 0, .int .i64 0, .int .i64 (e)]) :
    Calls Try.prog 88 #[.pointer (some ⟨q, 0, none⟩), .int .i64 most] w fun e' w' => e' = .returned (.string ByteArray.empty) ∧ Blk w' q 105 #[.slice none 0 0, .int .i64 0, .int .i64 (e9 e)] ∧ Only w w' q := by
  have hne := e9_ne e
  go_enter Try.func88, Try.ntmps88
  go_wp2_with (go_at_call 90; (with_reducible refine (mcount_any _ _ _ _ h).mono ?_); rintro e w1 ⟨rfl, h1, ho1⟩; have d1 := h1.cell; have k1 := h1.frozen; have l1 := h1.lt)
  go_ret
  exact ⟨rfl, h1, ho1⟩
theorem mstamp_any (q : Nat) (e : Int) (w : World) (h : Blk w q 105 #[.slice none 0 0, .int .i64 0, .int .i64 (e)]) :
    Calls Try.prog 89 #[.pointer (some ⟨q, 0, none⟩)] w fun e' w' => e' = .returned (.agg #[.int .i64 0, .int .u32 0, .int .u32 0]) ∧ Blk w' q 105 #[.slice none 0 0, .int .i64 0, .int .i64 (e9 e)] ∧ Only w w' q := by
  have hne := e9_ne e
  have c1 := h.cell
  have f1 := h.frozen
  have l1 := h.lt
  have hn := Blk.new w 49 #[.int .i64 0, .int .u32 0, .int .u32 0]
  have hqs : w.heap.size ≠ q := by omega
  have hqs' : q ≠ w.heap.size := by omega
  unfold e9
  by_cases h0 : e = 0
  · subst h0
    rw [if_pos rfl]
    go_enter Try.func89, Try.ntmps89
    go_wp2
    refine wp_region_ext_lit (by kernel_rfl) (by kernel_rfl) ?_
    (repeat (quiet_step (fail)))
    refine wpQuiet_nil ?_; intro _ hw'; obtain ⟨Y, hw''⟩ := hw'; subst hw''
    go_wp2
    refine bodyPost_cell Try.results89 rfl (Blk.three (Blk.far (Blk.ext hn Y) hqs _)) Try.underlying49 rfl (by kernel_rfl) rfl ⟨rfl, ?_, ?_⟩
    · exact Blk.far (Blk.far (Blk.far (((h.alloc _).ext Y).set_ 2 _) hqs' _) hqs' _) hqs' _
    · (repeat' (first | with_reducible exact h | with_reducible exact Only.refl _ _ | with_reducible refine Only.set_ ?_ ?_ _ | with_reducible refine Only.alloc ?_ _ | with_reducible refine Only.ext ?_ _ | exact .inl rfl | (right; first | omega | (simp [World.size_ext]; done) | (simp [World.size_ext]; omega))))
  · rw [if_neg h0]
    have h0' : (e != 0) = true := by simpa using h0
    go_enter Try.func89, Try.ntmps89
    go_wp2
    refine bodyPost_cell Try.results89 rfl hn Try.underlying49 rfl (by kernel_rfl) rfl ⟨rfl, ?_, ?_⟩
    · (repeat' (first | with_reducible exact h | with_reducible refine Blk.ext ?_ _ | with_reducible refine Blk.alloc ?_ _ | with_reducible apply Blk.set_to | with_reducible refine Blk.far ?_ ?_ _ | rfl | (simp [World.size_ext]; done) | (simp [World.size_ext]; omega)))
    · (repeat' (first | with_reducible exact h | with_reducible exact Only.refl _ _ | with_reducible refine Only.set_ ?_ ?_ _ | with_reducible refine Only.alloc ?_ _ | with_reducible refine Only.ext ?_ _ | exact .inl rfl | (right; first | omega | (simp [World.size_ext]; done) | (simp [World.size_ext]; omega))))
end Go.Proofs.Ythajbeooemngpaa
