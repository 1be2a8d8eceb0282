import Derived.Test.YtjhcgnmibnjocaaGreatY13
/-! The document's first example. -/
namespace Go.Proofs.YtjhcgnmibnjocaaGreat
open Go.RowKit Go.Maps Go.Joins
set_option linter.unusedVariables false
set_option linter.unusedSimpArgs false
theorem reads_one {w : World} {B : Nat} {t : TypeId} {x : Value} (h : Blk w B t #[x]) : Reads w w.heap.size 1 (some ⟨B, 0, none⟩) 1 [x] := by
 refine ⟨rfl, fun _ => ⟨_, rfl, h.lt, fun j u hu => ?_⟩⟩
 rw [add_plain, h.cell, Nat.zero_add]
 simpa using hu
theorem lead1 {S T : Nat → Prop} {g : Nat} {r : Rl} (x e : Int) (B : Nat) (w : World) (h : RelW w S T g r) (hB : Blk w B 3 #[.int .i64 x]) (hS : ¬S B) :
  Calls Tryz.prog 7 #[.pointer (some ⟨g, 0, none⟩), .agg #[.int .i64 e, .int .i64 x, .slice (some ⟨B, 0, none⟩) 1 1]] w fun o w' => Aft w w' S T g (leadP r ⟨e, x, [x]⟩).r fun T' =>
   ∃ A1 n1 c1, o = .returned (.tuple #[.slice A1 n1 c1, .int .i64 (leadP r ⟨e, x, [x]⟩).e]) ∧ Recs w' T' A1 n1 (leadP r ⟨e, x, [x]⟩).recs :=
 lead_any (some ⟨B, 0, none⟩) 1 ⟨e, x, [x]⟩ w h (reads_one hB) (fun _ a ha => by cases ha; exact hS) (by simp)
theorem led0 : leadP (newP 0) ⟨1, 0, [0]⟩ = ⟨[recPromiseP ⟨1, 0, [0]⟩], 0, ⟨0, ⟨1, 0, [0]⟩, [], 1, 0, [(0, 0)], true⟩⟩ := by
 have h : promiseP (newP 0) ⟨1, 0, [0]⟩ = ⟨0, ⟨1, 0, [0]⟩, [], 1, 0, [(0, 0)], true⟩ := by decide
 unfold leadP
 rw [if_pos (by decide), if_neg (by decide), h]
theorem prop0 : (proposeP ⟨0, ⟨1, 0, [0]⟩, [], 1, 0, [(0, 0)], true⟩ [97]).r = ⟨0, ⟨1, 0, [0]⟩, [⟨1, [97]⟩], 1, 1, [(0, 1)], true⟩ ∧ (proposeP ⟨0, ⟨1, 0, [0]⟩, [], 1, 0, [(0, 0)], true⟩ [97]).e = 0 ∧ (proposeP ⟨0, ⟨1, 0, [0]⟩, [], 1, 0, [(0, 0)], true⟩ [97]).at_ = 1 ∧ (proposeP ⟨0, ⟨1, 0, [0]⟩, [], 1, 0, [(0, 0)], true⟩ [97]).recs.length = 1 := by
 have h : proposed ⟨0, ⟨1, 0, [0]⟩, [], 1, 0, [(0, 0)], true⟩ [97] = ⟨0, ⟨1, 0, [0]⟩, [⟨1, [97]⟩], 1, 1, [(0, 1)], true⟩ := by decide
 unfold proposeP
 rw [if_neg (by simp), if_neg (by simp [Rl.leads]), if_neg (by simp), h]
 exact ⟨by simp only, by simp only, by simp only [List.length_nil], by simp only [List.length_cons, List.length_nil]⟩
theorem bsl_mark (w : World) (x : Nat) (hx : x < 256) (fr : Nat × Nat) : Bsl (w.alloc (.cells #[.int .u8 (x : Int)] 5 fr)) (fun _ => False) (.slice (some ⟨w.heap.size, 0, none⟩) 1 1) [x] :=
 ⟨⟨_, 1, rfl, ⟨rfl, fun _ => ⟨_, rfl, by simp, fun j u hu => by
  rw [add_plain, cell_alloc_mark_at w _ _ _ _ _ rfl, Nat.zero_add]
  simpa [u8s] using hu⟩⟩, (fun e => by cases e), fun _ _ _ h => h, Nat.le_refl _, by unfold maxLen; omega⟩, fun y hy => by simp only [List.mem_singleton] at hy; omega⟩
theorem bsl_a (w : World) (fr : Nat × Nat) : Bsl (w.alloc (.cells #[.int .u8 97] 5 fr)) (fun _ => False) (.slice (some ⟨w.heap.size, 0, none⟩) 1 1) [97] := bsl_mark w 97 (by omega) fr
theorem RelW.below {w w' : World} {S T : Nat → Prop} {g : Nat} {r : Rl} (h : RelW w S T g r) (hb : Below w.heap.size w w') : RelW w' S T g r := by
 obtain ⟨hok, Am, cm, vl, mb, hX⟩ := h
 exact ⟨hok, Am, cm, vl, mb, hX.below hb⟩
theorem RelW.lt {w : World} {S T : Nat → Prop} {g : Nat} {r : Rl} (h : RelW w S T g r) : ∀ k, S k → k < w.heap.size := by
 obtain ⟨hok, Am, cm, vl, mb, hX⟩ := h
 exact fun k hk => hX.lt k (hX.sub k hk)
theorem below_mark (w : World) (C : Array Value) (t : TypeId) (fr : Nat × Nat) : Below w.heap.size w (w.alloc (.cells C t fr)) := Below.alloc (Below.refl _ _) (Nat.le_refl _) _
theorem prop_a {S T T0 : Nat → Prop} {g : Nat} (u : Value) (w : World) (h : RelW w S T g ⟨0, ⟨1, 0, [0]⟩, [], 1, 0, [(0, 0)], true⟩) (hu : Bsl w T0 u [97]) :
  Calls Tryz.prog 10 #[.pointer (some ⟨g, 0, none⟩), u] w fun e w' => Aft w w' S T g ⟨0, ⟨1, 0, [0]⟩, [⟨1, [97]⟩], 1, 1, [(0, 1)], true⟩ fun _ =>
   ∃ A1 c1 A2 n2 c2, e = .returned (.tuple #[.int .i64 1, .slice A1 1 c1, .slice A2 n2 c2, .int .i64 0]) := by
 obtain ⟨q1, q2, q3, q4⟩ := prop0
 refine (propose_any u [97] w h hu (by simp)).mono fun e w' hA => ?_
 rw [q1, q2, q3] at hA
 obtain ⟨S', h1, h2, h3, A1, n1, c1, A2, n2, c2, rfl, hR, _⟩ := hA
 have hn := hR.len
 rw [q4] at hn
 subst hn
 exact ⟨S', h1, h2, h3, A1, c1, A2, n2, c2, rfl⟩
set_option maxRecDepth 100000 in
set_option maxHeartbeats 4000000 in
theorem rawake_any (w : World) : Calls Tryz.prog 5 #[] w fun e w' => e = .returned (.bool true) ∧ Below w.heap.size w w' := by
 have hN := rnew_yes 0 w (by omega)
 have hcv := fun W g hg => run_convert_bytes_const_at (P := Tryz.prog) W 36 5 #[.int .u8 97] 1 1 g hg Tryz.underlying36 Tryz.underlying5
 go_enter Tryz.func5, Tryz.ntmps5
 go_upto_region 5 with (first | (go_at_call 4; (with_reducible refine hN.mono ?_); rintro e w1 ⟨rfl, hX1, hb1⟩; have hW1 : RelW w1 _ _ _ (newP 0) := ⟨newP_ok (by omega), _, _, _, _, hX1⟩; have hs1 := hb1.size; clear hX1) | (go_at_call 7; (with_reducible refine (lead1 0 1 w1.heap.size _ (hW1.below (Below.alloc (Below.refl _ _) (Nat.le_refl _) (.cells #[.int .i64 0] 3))) (Blk.new w1 _ _) (fun hk => by have := hW1.lt _ hk; omega)).mono ?_); rintro e w2 hA2; obtain ⟨hR2, hb2, T2, A2, n2, c2, rfl, hRec2⟩ := hA2.rly (base := w.heap.size) (hW1.below (Below.alloc (Below.refl _ _) (Nat.le_refl _) _)) (fun k hk => by omega) (by simp; omega)))
 rw [led0] at *
 simp only at *
 obtain ⟨S2, T2, hW2, hT2⟩ := hR2
 have hc2 := hcv w2 w2.heap.size rfl
 have hs2 := hb2.size
 simp only [World.size_alloc] at hs2
 have hb02 : Below w.heap.size w w2 := (hb1.alloc hs1 _).trans hb2
 clear hN
 go_wp2_with (first | (go_at_call 10; (with_reducible refine (prop_a _ _ (hW2.below (below_mark _ _ _ _)) (bsl_a w2 _)).mono ?_); rintro e w3 hA3; obtain ⟨hR3, hb3, _, A3, c3, A4, n4, c4, rfl⟩ := hA3.rly (base := w.heap.size) (hW2.below (below_mark _ _ _ _)) hT2 (by simp; omega); obtain ⟨S3, T3, hW3, hT3⟩ := hR3) | (go_at_call 24; (with_reducible refine (ractive_any w3 hW3).mono ?_); rintro e w4 ⟨rfl, hw4⟩; subst hw4) | (go_at_call 25; (with_reducible refine (rsure_any _ hW3).mono ?_); rintro e w5 ⟨rfl, hw5⟩; subst hw5))
 go_ret
 exact ⟨rfl, (hb02.alloc (by omega) _).trans hb3⟩
end Go.Proofs.YtjhcgnmibnjocaaGreat
