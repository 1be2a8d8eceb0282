import Derived.Test.YthajbeooemngpaaWireRef
/-! The wire's writer: numbers below 0, truths, a new writer, its bytes. -/
namespace Go.Proofs.Ythajbeooemngpaa
open Go.RowKit
set_option linter.unusedVariables false
set_option linter.unusedSimpArgs false
def I64 (a : Int) : Prop := -9223372036854775808 ≤ a ∧ a ≤ 9223372036854775807
theorem row_made (w : World) : Row (w.alloc (.cells #[] 5)) w.heap.size (.slice (some ⟨w.heap.size, 0, none⟩) 0 0) [] := ⟨rfl, .inr ⟨w.heap.size, 0, #[], rfl, Nat.le_refl _, Blk.new _ _ _, Nat.le_refl _, by unfold maxLen; omega, rfl, rfl⟩⟩
theorem new_any (w : World) : Calls Try.prog 23 #[] w fun e w' => e = .returned (.pointer (some ⟨w.heap.size, 0, none⟩)) ∧ Wrt w' w.heap.size w.heap.size 124 (.slice none 0 0) [] ∧ Below w.heap.size w w' := by
  go_enter Try.func23, Try.ntmps23
  go_wp2
  refine bodyPost_ret (v := .pointer (some ⟨w.heap.size, 0, none⟩)) (by simp [results, Try.results23, go_sem] <;> rfl) rfl ⟨rfl, ⟨Blk.new _ _ _, Row.nil _ _, by simp [Value.ownBlock], Nat.le_refl _⟩, by (repeat' (first | with_reducible exact Below.refl _ _ | with_reducible refine Below.ext ?_ ?_ _ | with_reducible refine Below.alloc ?_ ?_ _ | with_reducible refine Below.setCell ?_ ?_ _ | with_reducible refine Below.drew ?_ | with_reducible assumption | (simp [World.size_ext]; done) | (simp [World.size_ext]; omega)))⟩
theorem bytes_any (base g : Nat) (v : Value) (xs : List Nat) (w : World) (hw : Wrt w base g 124 v xs) (hlen : xs.length + 9 ≤ 140737488355328) :
    Calls Try.prog 25 #[.pointer (some ⟨g, 0, none⟩)] w fun e w' => ∃ u, e = .returned u ∧ Row w' w.heap.size u xs ∧ Below w.heap.size w w' := by
  have c1 := hw.blk.cell
  have f1 := hw.blk.frozen
  have l1 := hw.blk.lt
  have hr0 := hw.row
  obtain ⟨A, cap, rfl, hcap, _, hnil, hr⟩ := hr0.slice
  go_enter Try.func25, Try.ntmps25
  go_wp2_with (at_builtin; go_must (refine app_row rfl (.tmp 5) (.tmp 9) 23 rfl Try.underlying23 infoU8 w.heap.size _ ([]) (xs) A xs.length cap rfl (row_made w) rfl ?c0 ?c1 ?c2 ?c3 ?c4 ?_))
  case c0 => rfl
  case c1 => exact (hr.alloc (Nat.le_refl _) _).more (by simp)
  case c2 => exact hnil
  case c3 => simp; omega
  case c4 => simp
  intro u w1 hr1 hc1
  have hb1 := hc1.below (base := w.heap.size) (row_made w) (by simp)
  go_wp2
  refine bodyPost_ret (v := u) (by simp [results, Try.results25, go_sem] <;> rfl) rfl ⟨_, rfl, hr1, (Below.alloc (Below.refl _ _) (Nat.le_refl _) _).trans hb1⟩
theorem xor_zig {a : Int} (ha : I64 a) : bits .xor .u64 (IntKind.u64.wrap (IntKind.u64.wrap a * 2)) (IntKind.u64.wrap (a / 9223372036854775808)) = (zig a : Int) := by
  unfold I64 at ha
  show IntKind.u64.wrap ((BitVec.ofInt 64 _ ^^^ BitVec.ofInt 64 _).toNat : Int) = _
  by_cases h0 : 0 ≤ a
  · have e1 : a / 9223372036854775808 = 0 := by omega
    have e2 : IntKind.u64.wrap (IntKind.u64.wrap a * 2) = a * 2 := by simp [IntKind.wrap, IntKind.signed, IntKind.bits]; omega
    rw [e1, e2, show BitVec.ofInt 64 (IntKind.u64.wrap 0) = 0#64 by decide, BitVec.xor_zero, BitVec.toNat_ofInt]
    unfold zig
    rw [if_pos h0]
    simp [IntKind.wrap, IntKind.signed, IntKind.bits]
    omega
  · have e1 : a / 9223372036854775808 = -1 := by omega
    have e2 : IntKind.u64.wrap (IntKind.u64.wrap a * 2) = a * 2 + 18446744073709551616 := by simp [IntKind.wrap, IntKind.signed, IntKind.bits]; omega
    rw [e1, e2, show BitVec.ofInt 64 (IntKind.u64.wrap (-1)) = BitVec.allOnes 64 by decide, BitVec.xor_allOnes, BitVec.toNat_not, BitVec.toNat_ofInt]
    unfold zig
    rw [if_neg h0]
    simp [IntKind.wrap, IntKind.signed, IntKind.bits]
    omega
theorem zig_u64 {a : Int} (ha : I64 a) : U64 (zig a : Int) := by
  have := zig_lt a ha
  unfold U64
  omega
set_option maxRecDepth 100000 in
theorem int_any (base g : Nat) (v : Value) (xs : List Nat) (a : Int) (w : World) (hw : Wrt w base g 124 v xs) (ha : I64 a) (hlen : xs.length + 9 ≤ 140737488355328) :
    Calls Try.prog 46 #[.pointer (some ⟨g, 0, none⟩), .int .i64 a] w fun e w' => e = .returned (.tuple #[]) ∧ ∃ v', Wrt w' base g 124 v' (xs ++ numB (zig a)) ∧ Chw w w' g v v' := by
  have hx := xor_zig ha
  have hc := num_any base g v xs (zig a : Int) w hw (zig_u64 ha) hlen
  rw [Int.toNat_natCast] at hc
  unfold I64 at ha
  go_enter Try.func46, Try.ntmps46
  go_wp2_with (go_at_call 45; (try rw [hx]); (with_reducible refine hc.mono ?_); rintro e w' ⟨rfl, v', hw', hg'⟩)
  refine bodyPost_end (v := .tuple #[]) (by simp [results, Try.results46, go_sem] <;> rfl) rfl ⟨rfl, ?_⟩
  exact ⟨v', hw', hg'⟩
set_option maxRecDepth 100000 in
theorem rint_any (base : Nat) (v : Value) (xs : List Nat) (a : Int) (w : World) (hw : Row w base v xs) (hbase : base ≤ w.heap.size) (ha : I64 a) (hlen : xs.length + 9 ≤ 140737488355328) :
    Calls Try.prog 68 #[v, .int .i64 a] w fun e w' => ∃ v', e = .returned v' ∧ Row w' base v' (xs ++ numB (zig a)) ∧ Chg w w' v v' := by
  have hc := rnum_any base v xs (zig a : Int) w hw hbase (zig_u64 ha) hlen
  rw [Int.toNat_natCast] at hc
  unfold I64 at ha
  by_cases h0 : a < 0
  · have hx : 2 * -(a + 1) + 1 = (zig a : Int) := by unfold zig; rw [if_neg (by omega)]; omega
    go_enter Try.func68, Try.ntmps68
    go_wp2_with (go_at_call 67; (try rw [hx]); (with_reducible refine hc.mono ?_); rintro e w' ⟨v', rfl, hw', hg'⟩)
    refine bodyPost_ret (v := v') (by simp [results, Try.results68, go_sem] <;> rfl) rfl ⟨_, rfl, hw', hg'⟩
  · have hx : 2 * a = (zig a : Int) := by unfold zig; rw [if_pos (by omega)]; omega
    go_enter Try.func68, Try.ntmps68
    go_wp2_with (go_at_call 67; (try rw [hx]); (with_reducible refine hc.mono ?_); rintro e w' ⟨v', rfl, hw', hg'⟩)
    refine bodyPost_ret (v := v') (by simp [results, Try.results68, go_sem] <;> rfl) rfl ⟨_, rfl, hw', hg'⟩
end Go.Proofs.Ythajbeooemngpaa
