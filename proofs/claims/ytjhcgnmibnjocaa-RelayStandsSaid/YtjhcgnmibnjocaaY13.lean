import Derived.Test.YtjhcgnmibnjocaaY12
/-! What a relay says; a nil one. -/
namespace Go.Proofs.Ytjhcgnmibnjocaa
open Go.RowKit Go.Maps
set_option linter.unusedVariables false
set_option linter.unusedSimpArgs false
theorem ractive_any {S T : Nat → Prop} {g : Nat} {r : Rl} (w : World) (h : RelW w S T g r) :
    Calls Try.prog 21 #[.pointer (some ⟨g, 0, none⟩)] w fun e w' => e = .returned (.bool r.act) ∧ w' = w := by
  obtain ⟨_, Am, cm, vl, mb, hX⟩ := h
  have c := hX.blk.cell
  have l := hX.blk.lt
  clear hX
  go_enter Try.func21, Try.ntmps21
  go_wp2
  go_ret
  exact ⟨rfl, rfl⟩
theorem rsure_any {S T : Nat → Prop} {g : Nat} {r : Rl} (w : World) (h : RelW w S T g r) :
    Calls Try.prog 13 #[.pointer (some ⟨g, 0, none⟩)] w fun e w' => e = .returned (.int .i64 (r.sure : Int)) ∧ w' = w := by
  obtain ⟨_, Am, cm, vl, mb, hX⟩ := h
  have c := hX.blk.cell
  have l := hX.blk.lt
  clear hX
  go_enter Try.func13, Try.ntmps13
  go_wp2
  go_ret
  exact ⟨rfl, rfl⟩
theorem ractive_nil (w : World) : Calls Try.prog 21 #[.pointer none] w fun e w' => e = .returned (.bool false) ∧ w' = w := by
  go_enter Try.func21, Try.ntmps21
  go_wp2
  go_ret
  exact ⟨rfl, rfl⟩
theorem rsure_nil (w : World) : Calls Try.prog 13 #[.pointer none] w fun e w' => e = .returned (.int .i64 0) ∧ w' = w := by
  go_enter Try.func13, Try.ntmps13
  go_wp2
  go_ret
  exact ⟨rfl, rfl⟩
theorem rlead_nil (v : Value) (a b : Int) (w : World) (hv : v = .agg #[.int .i64 a, .int .i64 b, .slice none 0 0]) : Calls Try.prog 14 #[.pointer none, v] w fun e w' => e = .returned (.tuple #[.slice none 0 0, .int .i64 2]) ∧ Below w.heap.size w w' := by
  subst hv
  go_enter Try.func14, Try.ntmps14
  go_wp2
  refine bodyPost_ret (v := .tuple #[.slice none 0 0, .int .i64 2]) (by simp [results, Try.results14, go_sem] <;> rfl) rfl ?_
  exact ⟨rfl, by (repeat' (first | with_reducible exact Below.refl _ _ | with_reducible refine Below.ext ?_ ?_ _ | with_reducible refine Below.alloc ?_ ?_ _ | with_reducible refine Below.setCell ?_ ?_ _ | with_reducible refine Below.drew ?_ | with_reducible assumption | (simp [World.size_ext]; done) | (simp [World.size_ext]; omega)))⟩
theorem rpropose_nil (w : World) : Calls Try.prog 16 #[.pointer none, .slice none 0 0] w fun e w' => e = .returned (.tuple #[.int .i64 0, .slice none 0 0, .slice none 0 0, .int .i64 2]) ∧ w' = w := by
  go_enter Try.func16, Try.ntmps16
  go_wp2
  refine bodyPost_ret (v := .tuple #[.int .i64 0, .slice none 0 0, .slice none 0 0, .int .i64 2]) (by simp [results, Try.results16, go_sem] <;> rfl) rfl ?_
  exact ⟨rfl, rfl⟩
set_option maxRecDepth 100000 in
theorem rtake_nil (f : Int) (w : World) : Calls Try.prog 18 #[.pointer none, .int .i64 f, .agg #[.int .i64 1, .int .i64 0, .int .i64 0, .int .i64 0, .slice none 0 0, .int .i64 0, .int .i64 0, .slice none 0 0]] w fun e w' => e = .returned (.tuple #[.slice none 0 0, .slice none 0 0]) ∧ Below w.heap.size w w' := by
  go_enter Try.func18, Try.ntmps18
  go_wp2
  refine bodyPost_ret (v := .tuple #[.slice none 0 0, .slice none 0 0]) (by simp [results, Try.results18, go_sem] <;> rfl) rfl ?_
  exact ⟨rfl, by (repeat' (first | with_reducible exact Below.refl _ _ | with_reducible refine Below.ext ?_ ?_ _ | with_reducible refine Below.alloc ?_ ?_ _ | with_reducible refine Below.setCell ?_ ?_ _ | with_reducible refine Below.drew ?_ | with_reducible assumption | (simp [World.size_ext]; done) | (simp [World.size_ext]; omega)))⟩
set_option maxRecDepth 100000 in
theorem rtick_nil (w : World) : Calls Try.prog 17 #[.pointer none] w fun e w' => e = .returned (.slice none 0 0) ∧ w' = w := by
  go_enter Try.func17, Try.ntmps17
  go_wp2
  go_ret
  exact ⟨rfl, rfl⟩
theorem rsave_nil (w : World) : Calls Try.prog 22 #[.pointer none] w fun e w' => e = .returned (.slice none 0 0) ∧ w' = w := by
  go_enter Try.func22, Try.ntmps22
  go_wp2
  go_ret
  exact ⟨rfl, rfl⟩
theorem rlog_nil (w : World) : Calls Try.prog 23 #[.pointer none] w fun e w' => e = .returned (.slice none 0 0) ∧ w' = w := by
  go_enter Try.func23, Try.ntmps23
  go_wp2
  go_ret
  exact ⟨rfl, rfl⟩
theorem rview_nil (w : World) : Calls Try.prog 12 #[.pointer none] w fun e w' => e = .returned (.agg #[.int .i64 0, .int .i64 0, .slice none 0 0]) ∧ Below w.heap.size w w' := by
  go_enter Try.func12, Try.ntmps12
  go_wp2
  refine bodyPost_cell Try.results12 rfl (Blk.new w _ _) Try.underlying39 rfl (by kernel_rfl) rfl ⟨rfl, by (repeat' (first | with_reducible exact Below.refl _ _ | with_reducible refine Below.ext ?_ ?_ _ | with_reducible refine Below.alloc ?_ ?_ _ | with_reducible refine Below.setCell ?_ ?_ _ | with_reducible refine Below.drew ?_ | with_reducible assumption | (simp [World.size_ext]; done) | (simp [World.size_ext]; omega)))⟩
/-- A relay whose memory is new from a block on. -/
def Rly (w : World) (base g : Nat) (r : Rl) : Prop := ∃ S T, RelW w S T g r ∧ ∀ k, T k → base ≤ k
theorem Aft.rly {w w' : World} {S T : Nat → Prop} {g base : Nat} {r r' : Rl} {K : (Nat → Prop) → Prop} (h : Aft w w' S T g r' K) (h0 : RelW w S T g r) (hT : ∀ k, T k → base ≤ k) (hb : base ≤ w.heap.size) : Rly w' base g r' ∧ Below base w w' ∧ ∃ T', K T' := by
  obtain ⟨S', hW, hk, hs, hK⟩ := h
  obtain ⟨_, _, _, _, _, hX⟩ := h0
  refine ⟨⟨S', _, hW, fun k hk => ?_⟩, hk.below hb (fun k hk => hT k (hX.sub k hk)), _, hK⟩
  rcases hk with hk | hk
  · exact hT k hk
  · rcases hs k hk with h | h
    · exact hT k (hX.sub k h)
    · omega
theorem Rly.below {w w' : World} {base g : Nat} {r : Rl} (h : Rly w base g r) (hb : Below w.heap.size w w') : Rly w' base g r := by
  obtain ⟨S, T, ⟨hok, Am, cm, vl, mb, hX⟩, hT⟩ := h
  exact ⟨S, T, ⟨hok, Am, cm, vl, mb, hX.below hb⟩, hT⟩
end Go.Proofs.Ytjhcgnmibnjocaa
