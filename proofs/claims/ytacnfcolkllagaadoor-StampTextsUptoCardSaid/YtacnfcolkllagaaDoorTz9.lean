import Derived.Test.YtacnfcolkllagaaDoorTx9
/-! A stamp's text: the document's. -/
namespace Go.Proofs.YtacnfcolkllagaaDoor
open Go.RowKit
set_option linter.unusedVariables false
set_option linter.unusedSimpArgs false
set_option maxRecDepth 100000 in
set_option maxHeartbeats 200000 in
theorem rtext9_any (a : Int) (b c : Nat) (h0 : -9223372036854775808 ≤ a) (h1 : a ≤ 9223372036854775807) (hb : b < 4294967296) (hc : c < 4294967296) (w : World) :
    Calls Tryd.prog 8 #[.agg #[.int .i64 a, .int .u32 (b : Int), .int .u32 (c : Int)]] w fun e w' => e = .returned (.string (txt a b c)) ∧ Below w.heap.size w w' := by
  have hT : ∃ t, txt a b c = t := ⟨_, rfl⟩
  obtain ⟨t, ht⟩ := hT
  rw [ht]
  have s1 := itoaB h0 h1
  have s2 := decB (u := b) (by omega)
  have s3 := decB (u := c) (by omega)
  have F1 : ∀ W, Calls Tryd.prog 16 #[.int .i64 a] W fun e w' => e = .returned (.string ⟨(Lib.itoa a).toArray⟩) ∧ Below W.heap.size W w' := fun W => whole_any a h0 h1 W
  obtain ⟨f, hf⟩ : ∃ f : Nat → ByteArray, ∀ u, f u = ⟨(Lib.decDigits u).toArray⟩ := ⟨_, fun _ => rfl⟩
  have F2 : ∀ u : Nat, u < 4294967296 → ∀ W, Calls Tryd.prog 17 #[.int .u64 (u : Int)] W fun e w' => e = .returned (.string (f u)) ∧ Below W.heap.size W w' := fun u hu W => by rw [hf]; exact dec_any u (by omega) W
  unfold txt at ht
  generalize (⟨(Lib.itoa a).toArray⟩ : ByteArray) = x1 at *
  rw [← hf, ← hf] at ht
  rw [← hf] at s2 s3
  have v1 : IntKind.u64.wrap (b : Int) = b := by rw [IntKind.wrap_u64]; omega
  have v2 : IntKind.u64.wrap (c : Int) = c := by rw [IntKind.wrap_u64]; omega
  have g1 : ¬ (9223372036854775807 < x1.size + 1) := by omega
  have g2 : ¬ (9223372036854775807 < x1.size + 1 + (f b).size) := by omega
  have g3 : ¬ (9223372036854775807 < x1.size + 1 + (f b).size + 1) := by omega
  have g4 : ¬ (9223372036854775807 < x1.size + 1 + (f b).size + 1 + (f c).size) := by omega
  have HT := hide ht
  clear ht s1 s2 s3 h0 h1 hf
  go_enter Tryd.func8, Tryd.ntmps8
  go_wp2
  have K1 := fun X => F1 ((w.alloc (.cells #[.int .i64 a, .int .u32 b, .int .u32 c] 24)).ext X)
  have K2 := fun u hu X => F2 u hu ((w.alloc (.cells #[.int .i64 a, .int .u32 b, .int .u32 c] 24)).ext X)
  clear F1 F2
  refine wp_region_ext_lit (by kernel_rfl) (by kernel_rfl) ?_
  (repeat (first | ((with_reducible refine wpQuiet_step (fun K hK => ?_)); go_simp; first | ((with_reducible refine hK _ ?_); clear hK K) | (apply Exists.intro; (with_reducible refine ⟨fun _ => ?_, hK _ ?_⟩); first | (go_at_call 16; with_reducible exact Calls.ext_of (K1 _)) | (go_at_call 17; with_reducible exact Calls.ext_of (K2 b hb _)) | (go_at_call 17; with_reducible exact Calls.ext_of (K2 c hc _)); clear hK K)) | ((with_reducible refine quiet_skipN ?_ (fun K hK => ?_)); (rfl); go_simp; (with_reducible refine hK _ ?_); clear hK K)))
  (with_reducible refine wpQuiet_nil ?_); intro _ hw'; obtain ⟨X, hw''⟩ := hw'; subst hw''
  go_wp2
  refine bodyPost_ret (v := .string t) (by rw [← HT.out]; simp [results, Tryd.results8, go_sem] <;> rfl) rfl ⟨rfl, by (repeat' (first | with_reducible exact Below.refl _ _ | with_reducible refine Below.ext ?_ ?_ _ | with_reducible refine Below.alloc ?_ ?_ _ | with_reducible refine Below.setCell ?_ ?_ _ | with_reducible refine Below.drew ?_ | with_reducible assumption | (simp [World.size_ext]; done) | (simp [World.size_ext]; omega)))⟩
end Go.Proofs.YtacnfcolkllagaaDoor
