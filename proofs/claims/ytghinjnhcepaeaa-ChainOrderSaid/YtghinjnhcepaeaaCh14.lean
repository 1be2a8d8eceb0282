import Derived.Test.YtghinjnhcepaeaaCh13
/-! The document's versions compared. -/
namespace Go.Proofs.Ytghinjnhcepaeaa
open Go.RowKit
set_option linter.unusedVariables false
set_option linter.unusedSimpArgs false
@[go_sem ↓] theorem run_neq_rver (x : Ver) (w : World) : (binOp .neq 26 (.agg #[.int .i64 x.a, .int .u32 x.b, .int .u32 x.c, .int .i64 x.kd, .int .i64 x.num, .string x.text]) (.agg #[.int .i64 x.a, .int .u32 x.b, .int .u32 x.c, .int .i64 x.kd, .int .i64 x.num, .string x.text])).run Try.prog w = .ok (.bool false) w := by
  simp [go_sem]
@[go_sem ↓] theorem run_eql_rver (x : Ver) (w : World) : (binOp .eql 26 (.agg #[.int .i64 x.a, .int .u32 x.b, .int .u32 x.c, .int .i64 x.kd, .int .i64 x.num, .string x.text]) (.agg #[.int .i64 x.a, .int .u32 x.b, .int .u32 x.c, .int .i64 x.kd, .int .i64 x.num, .string x.text])).run Try.prog w = .ok (.bool true) w := by
  simp [go_sem]
@[go_sem ↓] theorem run_eql_ver (x : Ver) (w : World) : (binOp .eql 31 (.agg #[.int .i64 x.a, .int .u32 x.b, .int .u32 x.c, .int .i64 x.kd, .int .i64 x.num, .string x.text]) (.agg #[.int .i64 x.a, .int .u32 x.b, .int .u32 x.c, .int .i64 x.kd, .int .i64 x.num, .string x.text])).run Try.prog w = .ok (.bool true) w := by
  simp [go_sem]
set_option maxRecDepth 100000 in
set_option maxHeartbeats 1000000 in
theorem same_any (A A' : Option Addr) (n c c' : Nat) (l : List Ver) (w : World) (hr : Reads w w.heap.size 6 A n (vsV l)) (hr' : Reads w w.heap.size 6 A' n (vsV l)) (hn : n ≤ 4611686018427387904) :
    Calls Try.prog 17 #[.slice A n c, .slice A' n c'] w fun e w' => e = .returned (.bool true) ∧ Below w.heap.size w w' := by
  have hl := vreads_len hr
  go_enter Try.func17, Try.ntmps17
  go_wp2
  go_loopw [5] (fun s5 wr => ∃ (j : Nat) (X : Ext), s5 = .int .i64 (j : Int) ∧ j ≤ n ∧ wr = w.ext X) (fun s5 _ => ((n : Int) - intOf s5).toNat)
  case atStart => exact ⟨0, ⟨#[], w.drawn⟩, rfl, by omega, by simp [World.ext]⟩
  case round =>
    obtain ⟨j, X, rfl, hj, rfl⟩ := hrel
    by_cases hlt : j < n
    · obtain ⟨b, o, rfl, hbb, hc⟩ := hr.plain (by omega) (by omega)
      obtain ⟨b', o', rfl, hbb', hc'⟩ := hr'.plain (by omega) (by omega)
      obtain ⟨x, hg⟩ : ∃ x, l[j]? = some x := ⟨l[j]'(by omega), List.getElem?_eq_getElem (by omega)⟩
      have m0 : (w).cell? ⟨b, o + j * 6, none⟩ = some (.int .i64 (x).a) := hc _ _ (vsV_get hg 0 _ rfl); have m1 : (w).cell? ⟨b, o + j * 6 + 1, none⟩ = some (.int .u32 (x).b) := hc _ _ (vsV_get hg 1 _ rfl); have m2 : (w).cell? ⟨b, o + j * 6 + 2, none⟩ = some (.int .u32 (x).c) := hc _ _ (vsV_get hg 2 _ rfl); have m3 : (w).cell? ⟨b, o + j * 6 + 3, none⟩ = some (.int .i64 (x).kd) := hc _ _ (vsV_get hg 3 _ rfl); have m4 : (w).cell? ⟨b, o + j * 6 + 4, none⟩ = some (.int .i64 (x).num) := hc _ _ (vsV_get hg 4 _ rfl); have m5 : (w).cell? ⟨b, o + j * 6 + 5, none⟩ = some (.string (x).text) := hc _ _ (vsV_get hg 5 _ rfl)
      have k0 := m0
      have k1 := m1
      have k2 := m2
      have k3 := m3
      have k4 := m4
      have k5 := m5
      clear m0 m1 m2 m3 m4 m5
      have m0 : (w).cell? ⟨b', o' + j * 6, none⟩ = some (.int .i64 (x).a) := hc' _ _ (vsV_get hg 0 _ rfl); have m1 : (w).cell? ⟨b', o' + j * 6 + 1, none⟩ = some (.int .u32 (x).b) := hc' _ _ (vsV_get hg 1 _ rfl); have m2 : (w).cell? ⟨b', o' + j * 6 + 2, none⟩ = some (.int .u32 (x).c) := hc' _ _ (vsV_get hg 2 _ rfl); have m3 : (w).cell? ⟨b', o' + j * 6 + 3, none⟩ = some (.int .i64 (x).kd) := hc' _ _ (vsV_get hg 3 _ rfl); have m4 : (w).cell? ⟨b', o' + j * 6 + 4, none⟩ = some (.int .i64 (x).num) := hc' _ _ (vsV_get hg 4 _ rfl); have m5 : (w).cell? ⟨b', o' + j * 6 + 5, none⟩ = some (.string (x).text) := hc' _ _ (vsV_get hg 5 _ rfl)
      have hji : (j : Int) < n := by omega
      clear hc hc' hr hr' hg
      go_wp2
      refine wp_region_ext_lit (by kernel_rfl) (by kernel_rfl) ?_
      (repeat (first | ((with_reducible refine wpQuiet_step (fun K hK => ?_)); go_simp; first | ((with_reducible refine hK _ ?_); clear hK K) | (apply Exists.intro; (with_reducible refine ⟨fun _ => ?_, hK _ ?_⟩); fail; clear hK K)) | ((with_reducible refine quiet_skipN ?_ (fun K hK => ?_)); (rfl); go_simp; (with_reducible refine hK _ ?_); clear hK K)))
      (with_reducible refine wpQuiet_nil ?_); intro _ hw'; obtain ⟨Y, hw''⟩ := hw'; subst hw''
      go_wp2
      go_roundw
      case rel => exact ⟨j + 1, _, by go_num, by omega, rfl⟩
      case measure => simp [intOf]; omega
    · obtain rfl : j = n := by omega
      go_wp2
      go_ret
      exact ⟨rfl, World.below_ext _ _⟩
end Go.Proofs.Ytghinjnhcepaeaa
