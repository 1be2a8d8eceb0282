import Derived.Test.YtfcpohhfpdhhiaaClock
import Derived.WalkMore
/-! Clocks: the program. -/
namespace Go.Proofs.Ytfcpohhfpdhhiaa
open Go.RowKit
set_option linter.unusedVariables false
set_option linter.unusedSimpArgs false
set_option maxRecDepth 100000 in
set_option maxHeartbeats 400000 in
theorem set_any (g : Nat) (k : Ck) (a b c : Int) (w : World) (hk : Blk w g 58 k.cells) :
    Calls Try.prog 25 #[.pointer (some ⟨g, 0, none⟩), .agg #[.int .i64 a, .int .u32 b, .int .u32 c]] w fun e w' => e = .returned (.tuple #[(setP k a b).st, .int .i64 (setP k a b).e]) ∧ Blk w' g 58 (setP k a b).k.cells ∧ Only w w' g := by
  obtain ⟨ka, kb, kc, ko, ku, km⟩ := k
  simp only [Ck.cells] at hk
  have c1 := Blk.cell hk
  have f1 := Blk.frozen hk
  have l1 := Blk.lt hk
  have hne : g ≠ w.heap.size := by omega
  have hne' : w.heap.size ≠ g := by omega
  have hne2 : g ≠ w.heap.size + 1 := by omega
  have hne3 : w.heap.size + 1 ≠ g := by omega
  by_cases h : ku < a
  · have e1 : setP ⟨ka, kb, kc, ko, ku, km⟩ a b = ⟨0, 0, 0, 22, ⟨ka, kb, kc, ko, ku, km⟩⟩ := by unfold setP; rw [if_pos h]
    rw [e1]
    simp only [Ans.st, Ck.cells]
    go_enter Try.func25, Try.ntmps25
    go_wp2
    refine wp_region_ext_lit (by kernel_rfl) (by kernel_rfl) ?_
    (repeat (first | ((with_reducible refine wpQuiet_step (fun K hK => ?_)); go_simp; first | ((with_reducible refine hK _ ?_); clear hK K) | (apply Exists.intro; (with_reducible refine ⟨fun _ => ?_, hK _ ?_⟩); skip; clear hK K)) | ((with_reducible refine quiet_skipN ?_ (fun K hK => ?_)); (rfl); go_simp; (with_reducible refine hK _ ?_); clear hK K)))
    (with_reducible refine wpQuiet_nil ?_); intro _ hw'; obtain ⟨Y, hw''⟩ := hw'; subst hw''
    go_wp2
    refine bodyPost_cell_tmp Try.results25 rfl (Blk.three (Blk.ext (Blk.made w _ 30 #[.int .i64 0, .int .u32 0, .int .u32 0]) Y)) Try.underlying30 rfl (by kernel_rfl) rfl ⟨rfl, ?_, ?_⟩
    · exact Blk.below hk (by (repeat' (first | with_reducible exact Below.refl _ _ | with_reducible refine Below.ext ?_ ?_ _ | with_reducible refine Below.alloc ?_ ?_ _ | with_reducible refine Below.setCell ?_ ?_ _ | with_reducible refine Below.drew ?_ | with_reducible assumption | (simp [World.size_ext]; done) | (simp [World.size_ext]; omega)))) l1
    · exact Only.of_below (by (repeat' (first | with_reducible exact Below.refl _ _ | with_reducible refine Below.ext ?_ ?_ _ | with_reducible refine Below.alloc ?_ ?_ _ | with_reducible refine Below.setCell ?_ ?_ _ | with_reducible refine Below.drew ?_ | with_reducible assumption | (simp [World.size_ext]; done) | (simp [World.size_ext]; omega))))
  · have e1 : setP ⟨ka, kb, kc, ko, ku, km⟩ a b = ⟨a, b, km, 0, ⟨a, b, 0, ko, ku, km⟩⟩ := by unfold setP; rw [if_neg h]
    rw [e1]
    simp only [Ans.st, Ck.cells]
    go_enter Try.func25, Try.ntmps25
    go_wp2
    refine wp_region_ext_lit (by kernel_rfl) (by kernel_rfl) ?_
    (repeat (first | ((with_reducible refine wpQuiet_step (fun K hK => ?_)); go_simp; first | ((with_reducible refine hK _ ?_); clear hK K) | (apply Exists.intro; (with_reducible refine ⟨fun _ => ?_, hK _ ?_⟩); skip; clear hK K)) | ((with_reducible refine quiet_skipN ?_ (fun K hK => ?_)); (rfl); go_simp; (with_reducible refine hK _ ?_); clear hK K)))
    (with_reducible refine wpQuiet_nil ?_); intro _ hw'; obtain ⟨Y, hw''⟩ := hw'; subst hw''
    refine abstr (fun W => Below w.heap.size w W ∧ Blk W g 58 #[.int .i64 ka, .int .u32 kb, .int .u32 kc, .int .i64 ko, .int .i64 ku, .int .u32 km] ∧ Blk W w.heap.size 30 #[.int .i64 a, .int .u32 b, .int .u32 c] ∧ Blk W (w.heap.size + 1) 30 #[.int .i64 0, .int .u32 0, .int .u32 0]) ⟨?_, ?_, ?_, ?_⟩ (fun W hW => ?_)
    · (repeat' (first | with_reducible exact Below.refl _ _ | with_reducible refine Below.ext ?_ ?_ _ | with_reducible refine Below.alloc ?_ ?_ _ | with_reducible refine Below.setCell ?_ ?_ _ | with_reducible refine Below.drew ?_ | with_reducible assumption | (simp [World.size_ext]; done) | (simp [World.size_ext]; omega)))
    · exact Blk.below hk (by (repeat' (first | with_reducible exact Below.refl _ _ | with_reducible refine Below.ext ?_ ?_ _ | with_reducible refine Below.alloc ?_ ?_ _ | with_reducible refine Below.setCell ?_ ?_ _ | with_reducible refine Below.drew ?_ | with_reducible assumption | (simp [World.size_ext]; done) | (simp [World.size_ext]; omega)))) l1
    · exact Blk.ext (Blk.alloc (Blk.new w _ _) _) Y
    · exact Blk.ext (Blk.made w _ 30 _) Y
    obtain ⟨hbW, hk1, hk2, hk3⟩ := hW
    have c1 := Blk.cell hk1
    have f1 := Blk.frozen hk1
    have c2 := Blk.cell hk2
    have f2 := Blk.frozen hk2
    have c3 := Blk.cell hk3
    have f3 := Blk.frozen hk3
    have hsW := hbW.size
    generalize hp : w.heap.size = p at *
    generalize hq : p + 1 = q at *
    have hpq : p ≠ q := by omega
    have hqp : q ≠ p := by omega
    go_wp2
    refine bodyPost_cell_tmp Try.results25 rfl (Blk.three (Blk.far (Blk.far (Blk.far (Blk.far (Blk.far hk3 hqp _) hne3 _) hne3 _) hne3 _) hqp _)) Try.underlying30 rfl (by kernel_rfl) rfl ⟨rfl, ?_, ?_⟩
    · have h1 := Blk.far (Blk.far (Blk.far (Blk.far (Blk.set_ (Blk.set_ (Blk.set_ (Blk.far hk1 (p := ⟨p, 2, none⟩) hne (.int .u32 0)) 0 (.int .i64 a)) 1 (.int .u32 b)) 2 (.int .u32 0)) (p := ⟨p, 2, none⟩) hne (.int .u32 km)) (p := ⟨q, 0, none⟩) hne2 (.int .i64 a)) (p := ⟨q, 1, none⟩) hne2 (.int .u32 b)) (p := ⟨q, 2, none⟩) hne2 (.int .u32 km)
      exact h1
    · have h0 : Only w W g := Only.of_below (hp ▸ hbW)
      (repeat' (first | with_reducible exact h0 | with_reducible exact Only.refl _ _ | with_reducible refine Only.set_ ?_ ?_ _ | with_reducible refine Only.alloc ?_ _ | with_reducible refine Only.ext ?_ _ | exact .inl rfl | (right; first | omega | (simp [World.size_ext]; done) | (simp [World.size_ext]; omega))))
end Go.Proofs.Ytfcpohhfpdhhiaa
