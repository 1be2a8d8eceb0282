import Derived.Test.YtjhcgnmibnjocaaGreatW9
/-! The document's relay takes a ship. -/
namespace Go.Proofs.YtjhcgnmibnjocaaGreat
open Go.RowKit Go.Maps
set_option linter.unusedVariables false
set_option linter.unusedSimpArgs false
set_option maxRecDepth 100000 in
set_option maxHeartbeats 40000000 in
theorem dship_yes {T : Nat → Prop} (r : Rl) (f : Int) (m : Mg) (vm vl va mv ml : Value) (w : World) (h : DrW w T vm vl va r) (hm : MgW w T mv ml m) (hTl : ∀ k, T k → k < w.heap.size) (hok : r.ok) (hml : m.v.l.length ≤ 1000000) (hk : m.k = 2) (hy : shipOk r f m = true) :
  Calls Tryz.prog 18 #[.agg #[.int .i64 r.id, .int .i64 r.v.e, .int .i64 r.v.p, vm, vl, .int .i64 r.joined, .int .i64 (r.sure : Int), va, .bool r.act], .int .i64 f, .agg #[.int .i64 m.k, .int .i64 m.e, .int .i64 m.v.e, .int .i64 m.v.p, mv, .int .i64 m.i, .int .i64 m.s, ml]] w fun e w' => ∃ vm' vl' va' A1 n1 c1 A2 n2 c2, e = .returned (.tuple #[.slice A1 n1 c1, .slice A2 n2 c2, .agg #[.int .i64 (hearP (ship1 r m) m.s).id, .int .i64 (hearP (ship1 r m) m.s).v.e, .int .i64 (hearP (ship1 r m) m.s).v.p, vm', vl', .int .i64 (hearP (ship1 r m) m.s).joined, .int .i64 ((hearP (ship1 r m) m.s).sure : Int), va', .bool (hearP (ship1 r m) m.s).act]]) ∧ Recs w' T A1 n1 (ship1R r m) ∧ Outs w' T A2 n2 (hearO (ship1 r m) f) ∧ DrW w' T vm' vl' va' (hearP (ship1 r m) m.s) ∧ Below w.heap.size w w' := by
 have hk1 : (m.k == 1) = false := by rw [hk]; rfl
 have hk2 : (m.k == 2) = true := by rw [hk]; rfl
 replace hk := hide hk
 unfold shipOk at hy
 simp only [Bool.and_eq_true, Bool.not_eq_true', decide_eq_true_eq] at hy
 obtain ⟨⟨⟨y1, y2⟩, y3⟩, y4⟩ := hy
 have d1 : (m.e != r.v.e) = false := by simpa using y1
 have d2 : (r.joined != m.e) = false := by simpa using y2
 have d3 : (r.v.p != f) = false := by simpa using y3
 replace y1 := hide y1
 replace y2 := hide y2
 replace y3 := hide y3
 have hn4 := hok.n
 rcases hin : shipIn r m with _ | x
 ·by_cases g1 : m.log.length = 1
  ·have q1 : ((m.log.length : Int) == 1) = true := by simp; omega
   by_cases g2 : m.i = r.log.length + 1
   ·have q2 : (m.i == (r.log.length : Int) + 1) = true := by simpa using g2
    have g3 : ¬m.i ≤ 4096 := fun g3 => by
     obtain ⟨x, hx⟩ := List.length_eq_one_iff.1 g1
     unfold shipIn at hin
     rw [hx] at hin
     simp only at hin
     rw [if_pos ⟨g2, g3⟩] at hin
     cases hin
    have q3 : decide (m.i ≤ 4096) = false := decide_eq_false g3
    replace g1 := hide g1
    replace g2 := hide g2
    clear g3
    have hs1 : ship1 r m = r := by unfold ship1; rw [hin]
    have hs2 : ship1R r m = [] := by unfold ship1R; rw [hin]
    rw [hs1, hs2]
    clear hs1 hs2 hin
    have hD := h
    obtain ⟨A, c, B, d, C, f0, rfl, rfl, rfl⟩ := h.sl
    obtain ⟨Av, cv, Bv, dv, rfl, rfl, hrm, hnm, hEm⟩ := hm.sl
    have hR0 := Blk.new w 34 #[.int .i64 r.id, .int .i64 r.v.e, .int .i64 r.v.p, (.slice A r.v.l.length c), (.slice B r.log.length d), .int .i64 r.joined, .int .i64 (r.sure : Int), (.slice C r.acks.length f0), .bool r.act]
    have hM0 := Blk.made w (.cells #[.int .i64 r.id, .int .i64 r.v.e, .int .i64 r.v.p, (.slice A r.v.l.length c), (.slice B r.log.length d), .int .i64 r.joined, .int .i64 (r.sure : Int), (.slice C r.acks.length f0), .bool r.act] 34) 38 #[.int .i64 m.k, .int .i64 m.e, .int .i64 m.v.e, .int .i64 m.v.p, (.slice Av m.v.l.length cv), .int .i64 m.i, .int .i64 m.s, (.slice Bv m.log.length dv)]
    have hZ0 : Blk (((w.alloc (.cells #[.int .i64 r.id, .int .i64 r.v.e, .int .i64 r.v.p, (.slice A r.v.l.length c), (.slice B r.log.length d), .int .i64 r.joined, .int .i64 (r.sure : Int), (.slice C r.acks.length f0), .bool r.act] 34)).alloc (.cells #[.int .i64 m.k, .int .i64 m.e, .int .i64 m.v.e, .int .i64 m.v.p, (.slice Av m.v.l.length cv), .int .i64 m.i, .int .i64 m.s, (.slice Bv m.log.length dv)] 38)).alloc (.cells #[.int .i64 0, .int .i64 0, .int .i64 0, .slice none 0 0, .slice none 0 0, .int .i64 0, .int .i64 0, .slice none 0 0, .bool false] 34)) (w.heap.size + 1 + 1) 34 #[.int .i64 0, .int .i64 0, .int .i64 0, .slice none 0 0, .slice none 0 0, .int .i64 0, .int .i64 0, .slice none 0 0, .bool false] := by
     have := Blk.new ((w.alloc (.cells #[.int .i64 r.id, .int .i64 r.v.e, .int .i64 r.v.p, (.slice A r.v.l.length c), (.slice B r.log.length d), .int .i64 r.joined, .int .i64 (r.sure : Int), (.slice C r.acks.length f0), .bool r.act] 34)).alloc (.cells #[.int .i64 m.k, .int .i64 m.e, .int .i64 m.v.e, .int .i64 m.v.p, (.slice Av m.v.l.length cv), .int .i64 m.i, .int .i64 m.s, (.slice Bv m.log.length dv)] 38)) 34 #[.int .i64 0, .int .i64 0, .int .i64 0, .slice none 0 0, .slice none 0 0, .int .i64 0, .int .i64 0, .slice none 0 0, .bool false]
     simpa using this
    clear h
    clear hrm hnm hEm
    go_enter Tryz.func18, Tryz.ntmps18
    go_upto_region 24 with fail
    refine abstr (fun W => Below w.heap.size w W ∧ Blk W w.heap.size 34 #[.int .i64 r.id, .int .i64 r.v.e, .int .i64 r.v.p, (.slice A r.v.l.length c), (.slice B r.log.length d), .int .i64 r.joined, .int .i64 (r.sure : Int), (.slice C r.acks.length f0), .bool r.act] ∧ Blk W (w.heap.size + 1) 38 #[.int .i64 m.k, .int .i64 m.e, .int .i64 m.v.e, .int .i64 m.v.p, (.slice Av m.v.l.length cv), .int .i64 m.i, .int .i64 m.s, (.slice Bv m.log.length dv)] ∧ Blk W (w.heap.size + 1 + 1) 34 #[.int .i64 0, .int .i64 0, .int .i64 0, .slice none 0 0, .slice none 0 0, .int .i64 0, .int .i64 0, .slice none 0 0, .bool false]) ⟨by (repeat' (first | with_reducible (first | exact Below.refl _ _ | refine Below.ext ?_ ?_ _ | refine Below.alloc ?_ ?_ _ | refine Below.setCell ?_ ?_ _ | refine Below.drew ?_ | assumption) | (simp [World.size_ext]; done) | (simp [World.size_ext]; omega))), by (repeat' (first | with_reducible (first | exact hR0 | refine Blk.ext ?_ _ | refine Blk.alloc ?_ _ | apply Blk.set_to | refine Blk.far ?_ ?_ _) | rfl | (simp [World.size_ext]; done) | (simp [World.size_ext]; omega))), by (repeat' (first | with_reducible (first | exact hM0 | refine Blk.ext ?_ _ | refine Blk.alloc ?_ _ | apply Blk.set_to | refine Blk.far ?_ ?_ _) | rfl | (simp [World.size_ext]; done) | (simp [World.size_ext]; omega))), by (repeat' (first | with_reducible (first | exact hZ0 | refine Blk.ext ?_ _ | refine Blk.alloc ?_ _ | apply Blk.set_to | refine Blk.far ?_ ?_ _) | rfl | (simp [World.size_ext]; done) | (simp [World.size_ext]; omega)))⟩ (fun w8 hW => ?_)
    clear hR0 hM0 hZ0
    obtain ⟨hb8, hB8, hM8, hZ8⟩ := hW
    have hD8 : DrW w8 (fun k => T k ∨ (w.heap.size ≤ k ∧ k ≤ w.heap.size + 1 + 1)) _ _ _ r := (hD.sub (T' := (fun k => T k ∨ (w.heap.size ≤ k ∧ k ≤ w.heap.size + 1 + 1))) (fun k hk ht => ht.elim id (fun h => by omega))).kp (Kp.of_below hb8)
    have hR8 : Recs w8 (fun k => T k ∨ (w.heap.size ≤ k ∧ k ≤ w.heap.size + 1 + 1)) none 0 [] := Recs.nil _ _
    clear hD
    obtain ⟨VM, hVM⟩ : ∃ VM : Value, VM = .slice A r.v.l.length c := ⟨_, rfl⟩
    obtain ⟨VL, hVL⟩ : ∃ VL : Value, VL = .slice B r.log.length d := ⟨_, rfl⟩
    obtain ⟨VA, hVA⟩ : ∃ VA : Value, VA = .slice C r.acks.length f0 := ⟨_, rfl⟩
    rw [← hVM, ← hVL, ← hVA] at hB8 hD8
    clear hVM hVL hVA
    obtain ⟨r2, rfl⟩ : ∃ r2, r2 = r := ⟨_, rfl⟩
    obtain ⟨A2, cA2, B2, cB2, C2, cC2, rfl, rfl, rfl⟩ := hD8.sl
    have sB8 := hb8.size
    have cB8 := hB8.cell
    have lB8 := hB8.lt
    have cM8 := hM8.cell
    have lM8 := hM8.lt
    have lZ8 := hZ8.lt
    have hT8 : ∀ k, (fun k => T k ∨ (w.heap.size ≤ k ∧ k ≤ w.heap.size + 1 + 1)) k → k < w8.heap.size := fun k hk => hk.elim (fun h => by have := hTl k h; omega) (fun h => by omega)
    have hHr := dhear_any r2 f m.s (.slice A2 r2.v.l.length cA2) (.slice B2 r2.log.length cB2) (.slice C2 r2.acks.length cC2) w8 hD8 hT8
    go_upto_region 25 with (go_at_call 53; (with_reducible refine hHr.mono ?_); rintro e w5 ⟨Ah, rfl, hO5, hD5, hb5⟩)
    have s5 := hb5.size
    have hbA : Below w5.heap.size w5 (w5.alloc (.cells #[.int .i64 (hearP r2 m.s).id, .int .i64 (hearP r2 m.s).v.e, .int .i64 (hearP r2 m.s).v.p, (.slice A2 r2.v.l.length cA2), (.slice B2 r2.log.length cB2), .int .i64 (hearP r2 m.s).joined, .int .i64 ((hearP r2 m.s).sure : Int), (.slice C2 r2.acks.length cC2), .bool (hearP r2 m.s).act] 34)) := Below.alloc (Below.refl _ _) (Nat.le_refl _) _
    have hb85 := hb5.trans (hbA.mono s5)
    refine abstr (fun W => Below w.heap.size w W ∧ Blk W w5.heap.size 34 #[.int .i64 (hearP r2 m.s).id, .int .i64 (hearP r2 m.s).v.e, .int .i64 (hearP r2 m.s).v.p, (.slice A2 r2.v.l.length cA2), (.slice B2 r2.log.length cB2), .int .i64 (hearP r2 m.s).joined, .int .i64 ((hearP r2 m.s).sure : Int), (.slice C2 r2.acks.length cC2), .bool (hearP r2 m.s).act] ∧ Blk W (w.heap.size + 1 + 1) 34 #[.int .i64 0, .int .i64 0, .int .i64 0, .slice none 0 0, .slice none 0 0, .int .i64 0, .int .i64 0, .slice none 0 0, .bool false] ∧ DrW W (fun k => T k ∨ (w.heap.size ≤ k ∧ k ≤ w.heap.size + 1 + 1)) (.slice A2 r2.v.l.length cA2) (.slice B2 r2.log.length cB2) (.slice C2 r2.acks.length cC2) (hearP r2 m.s) ∧ Recs W (fun k => T k ∨ (w.heap.size ≤ k ∧ k ≤ w.heap.size + 1 + 1)) none 0 [] ∧ Outs W (fun k => T k ∨ (w.heap.size ≤ k ∧ k ≤ w.heap.size + 1 + 1)) Ah 1 (hearO r2 f)) ⟨hb8.trans (hb85.mono sB8), Blk.new _ _ _, hZ8.below hb85 lZ8, hD5.kp (Kp.of_below hbA), hR8.kp (Kp.of_below hb85), hO5.kp (Kp.of_below hbA)⟩ (fun w9 hW9 => ?_)
    have hq5 : w.heap.size + 1 + 1 < w5.heap.size := by omega
    clear hbA hb85 hD5 hO5 hb5 hHr hT8 cB8 cM8 s5
    generalize w5.heap.size = q at *
    obtain ⟨hb9, hB9, hZ9, hD9, hR9, hO9⟩ := hW9
    have lB9 := hB9.lt
    have lZ9 := hZ9.lt
    refine wp_region_kp (fun k => k = w.heap.size + 1 + 1) [2] [0, 1] [(true, false, 0), (true, false, 1), (true, true, 2), (false, true, 3), (false, true, 4), (false, false, 5)] (by kernel_rfl) (by kernel_rfl) (fun X => ?_); simp only [List.map_cons, List.map_nil, List.getD_cons_zero, List.getD_cons_succ]; (have hne : ¬(q = w.heap.size + 1 + 1) := by omega); (repeat (first | (refine wfp fun K hK => ?_; go_simp; refine hK _ _ ?_; clear hK K) | (refine wff fun K hK => ?_; go_simp; refine hK _ _ ?_; clear hK K))); (refine first_readG rfl (v := .agg #[.int .i64 (hearP r2 m.s).id, .int .i64 (hearP r2 m.s).v.e, .int .i64 (hearP r2 m.s).v.p, (.slice A2 r2.v.l.length cA2), (.slice B2 r2.log.length cB2), .int .i64 (hearP r2 m.s).joined, .int .i64 ((hearP r2 m.s).sure : Int), (.slice C2 r2.acks.length cC2), .bool (hearP r2 m.s).act]) (fun w' hw' => ?_) (fun K hK => ?_); rotate_left 1; go_simp; refine hK _ _ ?_; clear hK K; rotate_left 1; (have hB' := Blk.kp (Blk.ext hB9 _) hw' hne; have c' := Blk.cell hB'; go_simp)); (repeat (first | (refine wfp fun K hK => ?_; go_simp; refine hK _ _ ?_; clear hK K) | (refine wff fun K hK => ?_; go_simp; refine hK _ _ ?_; clear hK K))); (have hbX := hb9.trans ((World.below_ext w9 X).mono hb9.size)); (have hkX : Kp (fun k => T k ∨ (w.heap.size ≤ k ∧ k ≤ w.heap.size + 1 + 1)) w9 (w9.ext X) := Kp.of_below (World.below_ext w9 X)); have hZX := hZ9.ext X; have hDX := hD9.kp hkX; (have hRX := hR9.kp hkX); (have hOX := hO9.kp hkX); clear hkX; generalize w9.ext X = V at *; (have c2 := hZX.cell); (have f2 := hZX.frozen); (have l2 := hZX.lt); (repeat (refine First.wpF_must (fun K hK => ?_); go_wp2; (refine hK _ _ (fun hnd => by first | exact Bool.noConfusion hnd | exact Kp.refl _ _) ?_; clear hK K); (repeat (first | (refine wfp fun K hK => ?_; go_simp; refine hK _ _ ?_; clear hK K) | (refine wff fun K hK => ?_; go_simp; refine hK _ _ ?_; clear hK K))))); (try (refine First.wpF_must (fun K hK => ?_); go_wp2; (refine hK _ _ (fun hnd => by first | exact Bool.noConfusion hnd | exact Kp.nine _ (w.heap.size + 1 + 1) _ _ _ _ _ _ _ _ _) ?_; clear hK K); (repeat (first | (refine wfp fun K hK => ?_; go_simp; refine hK _ _ ?_; clear hK K) | (refine wff fun K hK => ?_; go_simp; refine hK _ _ ?_; clear hK K))))); refine First.wpF_nil ?_; go_wp2; refine bodyPost_ttc Tryz.results18 rfl (Blk.nine hZX) Tryz.underlying34 rfl (by kernel_rfl) rfl ?_
    exact ⟨(.slice A2 r2.v.l.length cA2), (.slice B2 r2.log.length cB2), (.slice C2 r2.acks.length cC2), none, 0, 0, Ah, 1, 1, rfl, (hRX.kp (Kp.weaken (Kp.nine V (w.heap.size + 1 + 1) _ _ _ _ _ _ _ _ _) fun k hk => .inr (by omega))).sub fun k _ hk => .inl hk, (hOX.kp (Kp.weaken (Kp.nine V (w.heap.size + 1 + 1) _ _ _ _ _ _ _ _ _) fun k hk => .inr (by omega))).sub fun k _ hk => .inl hk, (hDX.kp (Kp.weaken (Kp.nine V (w.heap.size + 1 + 1) _ _ _ _ _ _ _ _ _) fun k hk => .inr (by omega))).sub fun k _ hk => .inl hk, hbX.trans (Kp.below (Kp.nine V (w.heap.size + 1 + 1) _ _ _ _ _ _ _ _ _) hbX.size (fun k hk => by omega))⟩
   ·have q2 : (m.i == (r.log.length : Int) + 1) = false := by simpa using g2
    replace g1 := hide g1
    clear g2
    have hs1 : ship1 r m = r := by unfold ship1; rw [hin]
    have hs2 : ship1R r m = [] := by unfold ship1R; rw [hin]
    rw [hs1, hs2]
    clear hs1 hs2 hin
    have hD := h
    obtain ⟨A, c, B, d, C, f0, rfl, rfl, rfl⟩ := h.sl
    obtain ⟨Av, cv, Bv, dv, rfl, rfl, hrm, hnm, hEm⟩ := hm.sl
    have hR0 := Blk.new w 34 #[.int .i64 r.id, .int .i64 r.v.e, .int .i64 r.v.p, (.slice A r.v.l.length c), (.slice B r.log.length d), .int .i64 r.joined, .int .i64 (r.sure : Int), (.slice C r.acks.length f0), .bool r.act]
    have hM0 := Blk.made w (.cells #[.int .i64 r.id, .int .i64 r.v.e, .int .i64 r.v.p, (.slice A r.v.l.length c), (.slice B r.log.length d), .int .i64 r.joined, .int .i64 (r.sure : Int), (.slice C r.acks.length f0), .bool r.act] 34) 38 #[.int .i64 m.k, .int .i64 m.e, .int .i64 m.v.e, .int .i64 m.v.p, (.slice Av m.v.l.length cv), .int .i64 m.i, .int .i64 m.s, (.slice Bv m.log.length dv)]
    have hZ0 : Blk (((w.alloc (.cells #[.int .i64 r.id, .int .i64 r.v.e, .int .i64 r.v.p, (.slice A r.v.l.length c), (.slice B r.log.length d), .int .i64 r.joined, .int .i64 (r.sure : Int), (.slice C r.acks.length f0), .bool r.act] 34)).alloc (.cells #[.int .i64 m.k, .int .i64 m.e, .int .i64 m.v.e, .int .i64 m.v.p, (.slice Av m.v.l.length cv), .int .i64 m.i, .int .i64 m.s, (.slice Bv m.log.length dv)] 38)).alloc (.cells #[.int .i64 0, .int .i64 0, .int .i64 0, .slice none 0 0, .slice none 0 0, .int .i64 0, .int .i64 0, .slice none 0 0, .bool false] 34)) (w.heap.size + 1 + 1) 34 #[.int .i64 0, .int .i64 0, .int .i64 0, .slice none 0 0, .slice none 0 0, .int .i64 0, .int .i64 0, .slice none 0 0, .bool false] := by
     have := Blk.new ((w.alloc (.cells #[.int .i64 r.id, .int .i64 r.v.e, .int .i64 r.v.p, (.slice A r.v.l.length c), (.slice B r.log.length d), .int .i64 r.joined, .int .i64 (r.sure : Int), (.slice C r.acks.length f0), .bool r.act] 34)).alloc (.cells #[.int .i64 m.k, .int .i64 m.e, .int .i64 m.v.e, .int .i64 m.v.p, (.slice Av m.v.l.length cv), .int .i64 m.i, .int .i64 m.s, (.slice Bv m.log.length dv)] 38)) 34 #[.int .i64 0, .int .i64 0, .int .i64 0, .slice none 0 0, .slice none 0 0, .int .i64 0, .int .i64 0, .slice none 0 0, .bool false]
     simpa using this
    clear h
    clear hrm hnm hEm
    go_enter Tryz.func18, Tryz.ntmps18
    go_upto_region 24 with fail
    refine abstr (fun W => Below w.heap.size w W ∧ Blk W w.heap.size 34 #[.int .i64 r.id, .int .i64 r.v.e, .int .i64 r.v.p, (.slice A r.v.l.length c), (.slice B r.log.length d), .int .i64 r.joined, .int .i64 (r.sure : Int), (.slice C r.acks.length f0), .bool r.act] ∧ Blk W (w.heap.size + 1) 38 #[.int .i64 m.k, .int .i64 m.e, .int .i64 m.v.e, .int .i64 m.v.p, (.slice Av m.v.l.length cv), .int .i64 m.i, .int .i64 m.s, (.slice Bv m.log.length dv)] ∧ Blk W (w.heap.size + 1 + 1) 34 #[.int .i64 0, .int .i64 0, .int .i64 0, .slice none 0 0, .slice none 0 0, .int .i64 0, .int .i64 0, .slice none 0 0, .bool false]) ⟨by (repeat' (first | with_reducible (first | exact Below.refl _ _ | refine Below.ext ?_ ?_ _ | refine Below.alloc ?_ ?_ _ | refine Below.setCell ?_ ?_ _ | refine Below.drew ?_ | assumption) | (simp [World.size_ext]; done) | (simp [World.size_ext]; omega))), by (repeat' (first | with_reducible (first | exact hR0 | refine Blk.ext ?_ _ | refine Blk.alloc ?_ _ | apply Blk.set_to | refine Blk.far ?_ ?_ _) | rfl | (simp [World.size_ext]; done) | (simp [World.size_ext]; omega))), by (repeat' (first | with_reducible (first | exact hM0 | refine Blk.ext ?_ _ | refine Blk.alloc ?_ _ | apply Blk.set_to | refine Blk.far ?_ ?_ _) | rfl | (simp [World.size_ext]; done) | (simp [World.size_ext]; omega))), by (repeat' (first | with_reducible (first | exact hZ0 | refine Blk.ext ?_ _ | refine Blk.alloc ?_ _ | apply Blk.set_to | refine Blk.far ?_ ?_ _) | rfl | (simp [World.size_ext]; done) | (simp [World.size_ext]; omega)))⟩ (fun w8 hW => ?_)
    clear hR0 hM0 hZ0
    obtain ⟨hb8, hB8, hM8, hZ8⟩ := hW
    have hD8 : DrW w8 (fun k => T k ∨ (w.heap.size ≤ k ∧ k ≤ w.heap.size + 1 + 1)) _ _ _ r := (hD.sub (T' := (fun k => T k ∨ (w.heap.size ≤ k ∧ k ≤ w.heap.size + 1 + 1))) (fun k hk ht => ht.elim id (fun h => by omega))).kp (Kp.of_below hb8)
    have hR8 : Recs w8 (fun k => T k ∨ (w.heap.size ≤ k ∧ k ≤ w.heap.size + 1 + 1)) none 0 [] := Recs.nil _ _
    clear hD
    obtain ⟨VM, hVM⟩ : ∃ VM : Value, VM = .slice A r.v.l.length c := ⟨_, rfl⟩
    obtain ⟨VL, hVL⟩ : ∃ VL : Value, VL = .slice B r.log.length d := ⟨_, rfl⟩
    obtain ⟨VA, hVA⟩ : ∃ VA : Value, VA = .slice C r.acks.length f0 := ⟨_, rfl⟩
    rw [← hVM, ← hVL, ← hVA] at hB8 hD8
    clear hVM hVL hVA
    obtain ⟨r2, rfl⟩ : ∃ r2, r2 = r := ⟨_, rfl⟩
    obtain ⟨A2, cA2, B2, cB2, C2, cC2, rfl, rfl, rfl⟩ := hD8.sl
    have sB8 := hb8.size
    have cB8 := hB8.cell
    have lB8 := hB8.lt
    have cM8 := hM8.cell
    have lM8 := hM8.lt
    have lZ8 := hZ8.lt
    have hT8 : ∀ k, (fun k => T k ∨ (w.heap.size ≤ k ∧ k ≤ w.heap.size + 1 + 1)) k → k < w8.heap.size := fun k hk => hk.elim (fun h => by have := hTl k h; omega) (fun h => by omega)
    have hHr := dhear_any r2 f m.s (.slice A2 r2.v.l.length cA2) (.slice B2 r2.log.length cB2) (.slice C2 r2.acks.length cC2) w8 hD8 hT8
    go_upto_region 25 with (go_at_call 53; (with_reducible refine hHr.mono ?_); rintro e w5 ⟨Ah, rfl, hO5, hD5, hb5⟩)
    have s5 := hb5.size
    have hbA : Below w5.heap.size w5 (w5.alloc (.cells #[.int .i64 (hearP r2 m.s).id, .int .i64 (hearP r2 m.s).v.e, .int .i64 (hearP r2 m.s).v.p, (.slice A2 r2.v.l.length cA2), (.slice B2 r2.log.length cB2), .int .i64 (hearP r2 m.s).joined, .int .i64 ((hearP r2 m.s).sure : Int), (.slice C2 r2.acks.length cC2), .bool (hearP r2 m.s).act] 34)) := Below.alloc (Below.refl _ _) (Nat.le_refl _) _
    have hb85 := hb5.trans (hbA.mono s5)
    refine abstr (fun W => Below w.heap.size w W ∧ Blk W w5.heap.size 34 #[.int .i64 (hearP r2 m.s).id, .int .i64 (hearP r2 m.s).v.e, .int .i64 (hearP r2 m.s).v.p, (.slice A2 r2.v.l.length cA2), (.slice B2 r2.log.length cB2), .int .i64 (hearP r2 m.s).joined, .int .i64 ((hearP r2 m.s).sure : Int), (.slice C2 r2.acks.length cC2), .bool (hearP r2 m.s).act] ∧ Blk W (w.heap.size + 1 + 1) 34 #[.int .i64 0, .int .i64 0, .int .i64 0, .slice none 0 0, .slice none 0 0, .int .i64 0, .int .i64 0, .slice none 0 0, .bool false] ∧ DrW W (fun k => T k ∨ (w.heap.size ≤ k ∧ k ≤ w.heap.size + 1 + 1)) (.slice A2 r2.v.l.length cA2) (.slice B2 r2.log.length cB2) (.slice C2 r2.acks.length cC2) (hearP r2 m.s) ∧ Recs W (fun k => T k ∨ (w.heap.size ≤ k ∧ k ≤ w.heap.size + 1 + 1)) none 0 [] ∧ Outs W (fun k => T k ∨ (w.heap.size ≤ k ∧ k ≤ w.heap.size + 1 + 1)) Ah 1 (hearO r2 f)) ⟨hb8.trans (hb85.mono sB8), Blk.new _ _ _, hZ8.below hb85 lZ8, hD5.kp (Kp.of_below hbA), hR8.kp (Kp.of_below hb85), hO5.kp (Kp.of_below hbA)⟩ (fun w9 hW9 => ?_)
    have hq5 : w.heap.size + 1 + 1 < w5.heap.size := by omega
    clear hbA hb85 hD5 hO5 hb5 hHr hT8 cB8 cM8 s5
    generalize w5.heap.size = q at *
    obtain ⟨hb9, hB9, hZ9, hD9, hR9, hO9⟩ := hW9
    have lB9 := hB9.lt
    have lZ9 := hZ9.lt
    refine wp_region_kp (fun k => k = w.heap.size + 1 + 1) [2] [0, 1] [(true, false, 0), (true, false, 1), (true, true, 2), (false, true, 3), (false, true, 4), (false, false, 5)] (by kernel_rfl) (by kernel_rfl) (fun X => ?_); simp only [List.map_cons, List.map_nil, List.getD_cons_zero, List.getD_cons_succ]; (have hne : ¬(q = w.heap.size + 1 + 1) := by omega); (repeat (first | (refine wfp fun K hK => ?_; go_simp; refine hK _ _ ?_; clear hK K) | (refine wff fun K hK => ?_; go_simp; refine hK _ _ ?_; clear hK K))); (refine first_readG rfl (v := .agg #[.int .i64 (hearP r2 m.s).id, .int .i64 (hearP r2 m.s).v.e, .int .i64 (hearP r2 m.s).v.p, (.slice A2 r2.v.l.length cA2), (.slice B2 r2.log.length cB2), .int .i64 (hearP r2 m.s).joined, .int .i64 ((hearP r2 m.s).sure : Int), (.slice C2 r2.acks.length cC2), .bool (hearP r2 m.s).act]) (fun w' hw' => ?_) (fun K hK => ?_); rotate_left 1; go_simp; refine hK _ _ ?_; clear hK K; rotate_left 1; (have hB' := Blk.kp (Blk.ext hB9 _) hw' hne; have c' := Blk.cell hB'; go_simp)); (repeat (first | (refine wfp fun K hK => ?_; go_simp; refine hK _ _ ?_; clear hK K) | (refine wff fun K hK => ?_; go_simp; refine hK _ _ ?_; clear hK K))); (have hbX := hb9.trans ((World.below_ext w9 X).mono hb9.size)); (have hkX : Kp (fun k => T k ∨ (w.heap.size ≤ k ∧ k ≤ w.heap.size + 1 + 1)) w9 (w9.ext X) := Kp.of_below (World.below_ext w9 X)); have hZX := hZ9.ext X; have hDX := hD9.kp hkX; (have hRX := hR9.kp hkX); (have hOX := hO9.kp hkX); clear hkX; generalize w9.ext X = V at *; (have c2 := hZX.cell); (have f2 := hZX.frozen); (have l2 := hZX.lt); (repeat (refine First.wpF_must (fun K hK => ?_); go_wp2; (refine hK _ _ (fun hnd => by first | exact Bool.noConfusion hnd | exact Kp.refl _ _) ?_; clear hK K); (repeat (first | (refine wfp fun K hK => ?_; go_simp; refine hK _ _ ?_; clear hK K) | (refine wff fun K hK => ?_; go_simp; refine hK _ _ ?_; clear hK K))))); (try (refine First.wpF_must (fun K hK => ?_); go_wp2; (refine hK _ _ (fun hnd => by first | exact Bool.noConfusion hnd | exact Kp.nine _ (w.heap.size + 1 + 1) _ _ _ _ _ _ _ _ _) ?_; clear hK K); (repeat (first | (refine wfp fun K hK => ?_; go_simp; refine hK _ _ ?_; clear hK K) | (refine wff fun K hK => ?_; go_simp; refine hK _ _ ?_; clear hK K))))); refine First.wpF_nil ?_; go_wp2; refine bodyPost_ttc Tryz.results18 rfl (Blk.nine hZX) Tryz.underlying34 rfl (by kernel_rfl) rfl ?_
    exact ⟨(.slice A2 r2.v.l.length cA2), (.slice B2 r2.log.length cB2), (.slice C2 r2.acks.length cC2), none, 0, 0, Ah, 1, 1, rfl, (hRX.kp (Kp.weaken (Kp.nine V (w.heap.size + 1 + 1) _ _ _ _ _ _ _ _ _) fun k hk => .inr (by omega))).sub fun k _ hk => .inl hk, (hOX.kp (Kp.weaken (Kp.nine V (w.heap.size + 1 + 1) _ _ _ _ _ _ _ _ _) fun k hk => .inr (by omega))).sub fun k _ hk => .inl hk, (hDX.kp (Kp.weaken (Kp.nine V (w.heap.size + 1 + 1) _ _ _ _ _ _ _ _ _) fun k hk => .inr (by omega))).sub fun k _ hk => .inl hk, hbX.trans (Kp.below (Kp.nine V (w.heap.size + 1 + 1) _ _ _ _ _ _ _ _ _) hbX.size (fun k hk => by omega))⟩
  ·have q1 : ((m.log.length : Int) == 1) = false := by simp; omega
   clear g1
   have hs1 : ship1 r m = r := by unfold ship1; rw [hin]
   have hs2 : ship1R r m = [] := by unfold ship1R; rw [hin]
   rw [hs1, hs2]
   clear hs1 hs2 hin
   have hD := h
   obtain ⟨A, c, B, d, C, f0, rfl, rfl, rfl⟩ := h.sl
   obtain ⟨Av, cv, Bv, dv, rfl, rfl, hrm, hnm, hEm⟩ := hm.sl
   have hR0 := Blk.new w 34 #[.int .i64 r.id, .int .i64 r.v.e, .int .i64 r.v.p, (.slice A r.v.l.length c), (.slice B r.log.length d), .int .i64 r.joined, .int .i64 (r.sure : Int), (.slice C r.acks.length f0), .bool r.act]
   have hM0 := Blk.made w (.cells #[.int .i64 r.id, .int .i64 r.v.e, .int .i64 r.v.p, (.slice A r.v.l.length c), (.slice B r.log.length d), .int .i64 r.joined, .int .i64 (r.sure : Int), (.slice C r.acks.length f0), .bool r.act] 34) 38 #[.int .i64 m.k, .int .i64 m.e, .int .i64 m.v.e, .int .i64 m.v.p, (.slice Av m.v.l.length cv), .int .i64 m.i, .int .i64 m.s, (.slice Bv m.log.length dv)]
   have hZ0 : Blk (((w.alloc (.cells #[.int .i64 r.id, .int .i64 r.v.e, .int .i64 r.v.p, (.slice A r.v.l.length c), (.slice B r.log.length d), .int .i64 r.joined, .int .i64 (r.sure : Int), (.slice C r.acks.length f0), .bool r.act] 34)).alloc (.cells #[.int .i64 m.k, .int .i64 m.e, .int .i64 m.v.e, .int .i64 m.v.p, (.slice Av m.v.l.length cv), .int .i64 m.i, .int .i64 m.s, (.slice Bv m.log.length dv)] 38)).alloc (.cells #[.int .i64 0, .int .i64 0, .int .i64 0, .slice none 0 0, .slice none 0 0, .int .i64 0, .int .i64 0, .slice none 0 0, .bool false] 34)) (w.heap.size + 1 + 1) 34 #[.int .i64 0, .int .i64 0, .int .i64 0, .slice none 0 0, .slice none 0 0, .int .i64 0, .int .i64 0, .slice none 0 0, .bool false] := by
    have := Blk.new ((w.alloc (.cells #[.int .i64 r.id, .int .i64 r.v.e, .int .i64 r.v.p, (.slice A r.v.l.length c), (.slice B r.log.length d), .int .i64 r.joined, .int .i64 (r.sure : Int), (.slice C r.acks.length f0), .bool r.act] 34)).alloc (.cells #[.int .i64 m.k, .int .i64 m.e, .int .i64 m.v.e, .int .i64 m.v.p, (.slice Av m.v.l.length cv), .int .i64 m.i, .int .i64 m.s, (.slice Bv m.log.length dv)] 38)) 34 #[.int .i64 0, .int .i64 0, .int .i64 0, .slice none 0 0, .slice none 0 0, .int .i64 0, .int .i64 0, .slice none 0 0, .bool false]
    simpa using this
   clear h
   clear hrm hnm hEm
   go_enter Tryz.func18, Tryz.ntmps18
   go_upto_region 24 with fail
   refine abstr (fun W => Below w.heap.size w W ∧ Blk W w.heap.size 34 #[.int .i64 r.id, .int .i64 r.v.e, .int .i64 r.v.p, (.slice A r.v.l.length c), (.slice B r.log.length d), .int .i64 r.joined, .int .i64 (r.sure : Int), (.slice C r.acks.length f0), .bool r.act] ∧ Blk W (w.heap.size + 1) 38 #[.int .i64 m.k, .int .i64 m.e, .int .i64 m.v.e, .int .i64 m.v.p, (.slice Av m.v.l.length cv), .int .i64 m.i, .int .i64 m.s, (.slice Bv m.log.length dv)] ∧ Blk W (w.heap.size + 1 + 1) 34 #[.int .i64 0, .int .i64 0, .int .i64 0, .slice none 0 0, .slice none 0 0, .int .i64 0, .int .i64 0, .slice none 0 0, .bool false]) ⟨by (repeat' (first | with_reducible (first | exact Below.refl _ _ | refine Below.ext ?_ ?_ _ | refine Below.alloc ?_ ?_ _ | refine Below.setCell ?_ ?_ _ | refine Below.drew ?_ | assumption) | (simp [World.size_ext]; done) | (simp [World.size_ext]; omega))), by (repeat' (first | with_reducible (first | exact hR0 | refine Blk.ext ?_ _ | refine Blk.alloc ?_ _ | apply Blk.set_to | refine Blk.far ?_ ?_ _) | rfl | (simp [World.size_ext]; done) | (simp [World.size_ext]; omega))), by (repeat' (first | with_reducible (first | exact hM0 | refine Blk.ext ?_ _ | refine Blk.alloc ?_ _ | apply Blk.set_to | refine Blk.far ?_ ?_ _) | rfl | (simp [World.size_ext]; done) | (simp [World.size_ext]; omega))), by (repeat' (first | with_reducible (first | exact hZ0 | refine Blk.ext ?_ _ | refine Blk.alloc ?_ _ | apply Blk.set_to | refine Blk.far ?_ ?_ _) | rfl | (simp [World.size_ext]; done) | (simp [World.size_ext]; omega)))⟩ (fun w8 hW => ?_)
   clear hR0 hM0 hZ0
   obtain ⟨hb8, hB8, hM8, hZ8⟩ := hW
   have hD8 : DrW w8 (fun k => T k ∨ (w.heap.size ≤ k ∧ k ≤ w.heap.size + 1 + 1)) _ _ _ r := (hD.sub (T' := (fun k => T k ∨ (w.heap.size ≤ k ∧ k ≤ w.heap.size + 1 + 1))) (fun k hk ht => ht.elim id (fun h => by omega))).kp (Kp.of_below hb8)
   have hR8 : Recs w8 (fun k => T k ∨ (w.heap.size ≤ k ∧ k ≤ w.heap.size + 1 + 1)) none 0 [] := Recs.nil _ _
   clear hD
   obtain ⟨VM, hVM⟩ : ∃ VM : Value, VM = .slice A r.v.l.length c := ⟨_, rfl⟩
   obtain ⟨VL, hVL⟩ : ∃ VL : Value, VL = .slice B r.log.length d := ⟨_, rfl⟩
   obtain ⟨VA, hVA⟩ : ∃ VA : Value, VA = .slice C r.acks.length f0 := ⟨_, rfl⟩
   rw [← hVM, ← hVL, ← hVA] at hB8 hD8
   clear hVM hVL hVA
   obtain ⟨r2, rfl⟩ : ∃ r2, r2 = r := ⟨_, rfl⟩
   obtain ⟨A2, cA2, B2, cB2, C2, cC2, rfl, rfl, rfl⟩ := hD8.sl
   have sB8 := hb8.size
   have cB8 := hB8.cell
   have lB8 := hB8.lt
   have cM8 := hM8.cell
   have lM8 := hM8.lt
   have lZ8 := hZ8.lt
   have hT8 : ∀ k, (fun k => T k ∨ (w.heap.size ≤ k ∧ k ≤ w.heap.size + 1 + 1)) k → k < w8.heap.size := fun k hk => hk.elim (fun h => by have := hTl k h; omega) (fun h => by omega)
   have hHr := dhear_any r2 f m.s (.slice A2 r2.v.l.length cA2) (.slice B2 r2.log.length cB2) (.slice C2 r2.acks.length cC2) w8 hD8 hT8
   go_upto_region 25 with (go_at_call 53; (with_reducible refine hHr.mono ?_); rintro e w5 ⟨Ah, rfl, hO5, hD5, hb5⟩)
   have s5 := hb5.size
   have hbA : Below w5.heap.size w5 (w5.alloc (.cells #[.int .i64 (hearP r2 m.s).id, .int .i64 (hearP r2 m.s).v.e, .int .i64 (hearP r2 m.s).v.p, (.slice A2 r2.v.l.length cA2), (.slice B2 r2.log.length cB2), .int .i64 (hearP r2 m.s).joined, .int .i64 ((hearP r2 m.s).sure : Int), (.slice C2 r2.acks.length cC2), .bool (hearP r2 m.s).act] 34)) := Below.alloc (Below.refl _ _) (Nat.le_refl _) _
   have hb85 := hb5.trans (hbA.mono s5)
   refine abstr (fun W => Below w.heap.size w W ∧ Blk W w5.heap.size 34 #[.int .i64 (hearP r2 m.s).id, .int .i64 (hearP r2 m.s).v.e, .int .i64 (hearP r2 m.s).v.p, (.slice A2 r2.v.l.length cA2), (.slice B2 r2.log.length cB2), .int .i64 (hearP r2 m.s).joined, .int .i64 ((hearP r2 m.s).sure : Int), (.slice C2 r2.acks.length cC2), .bool (hearP r2 m.s).act] ∧ Blk W (w.heap.size + 1 + 1) 34 #[.int .i64 0, .int .i64 0, .int .i64 0, .slice none 0 0, .slice none 0 0, .int .i64 0, .int .i64 0, .slice none 0 0, .bool false] ∧ DrW W (fun k => T k ∨ (w.heap.size ≤ k ∧ k ≤ w.heap.size + 1 + 1)) (.slice A2 r2.v.l.length cA2) (.slice B2 r2.log.length cB2) (.slice C2 r2.acks.length cC2) (hearP r2 m.s) ∧ Recs W (fun k => T k ∨ (w.heap.size ≤ k ∧ k ≤ w.heap.size + 1 + 1)) none 0 [] ∧ Outs W (fun k => T k ∨ (w.heap.size ≤ k ∧ k ≤ w.heap.size + 1 + 1)) Ah 1 (hearO r2 f)) ⟨hb8.trans (hb85.mono sB8), Blk.new _ _ _, hZ8.below hb85 lZ8, hD5.kp (Kp.of_below hbA), hR8.kp (Kp.of_below hb85), hO5.kp (Kp.of_below hbA)⟩ (fun w9 hW9 => ?_)
   have hq5 : w.heap.size + 1 + 1 < w5.heap.size := by omega
   clear hbA hb85 hD5 hO5 hb5 hHr hT8 cB8 cM8 s5
   generalize w5.heap.size = q at *
   obtain ⟨hb9, hB9, hZ9, hD9, hR9, hO9⟩ := hW9
   have lB9 := hB9.lt
   have lZ9 := hZ9.lt
   refine wp_region_kp (fun k => k = w.heap.size + 1 + 1) [2] [0, 1] [(true, false, 0), (true, false, 1), (true, true, 2), (false, true, 3), (false, true, 4), (false, false, 5)] (by kernel_rfl) (by kernel_rfl) (fun X => ?_); simp only [List.map_cons, List.map_nil, List.getD_cons_zero, List.getD_cons_succ]; (have hne : ¬(q = w.heap.size + 1 + 1) := by omega); (repeat (first | (refine wfp fun K hK => ?_; go_simp; refine hK _ _ ?_; clear hK K) | (refine wff fun K hK => ?_; go_simp; refine hK _ _ ?_; clear hK K))); (refine first_readG rfl (v := .agg #[.int .i64 (hearP r2 m.s).id, .int .i64 (hearP r2 m.s).v.e, .int .i64 (hearP r2 m.s).v.p, (.slice A2 r2.v.l.length cA2), (.slice B2 r2.log.length cB2), .int .i64 (hearP r2 m.s).joined, .int .i64 ((hearP r2 m.s).sure : Int), (.slice C2 r2.acks.length cC2), .bool (hearP r2 m.s).act]) (fun w' hw' => ?_) (fun K hK => ?_); rotate_left 1; go_simp; refine hK _ _ ?_; clear hK K; rotate_left 1; (have hB' := Blk.kp (Blk.ext hB9 _) hw' hne; have c' := Blk.cell hB'; go_simp)); (repeat (first | (refine wfp fun K hK => ?_; go_simp; refine hK _ _ ?_; clear hK K) | (refine wff fun K hK => ?_; go_simp; refine hK _ _ ?_; clear hK K))); (have hbX := hb9.trans ((World.below_ext w9 X).mono hb9.size)); (have hkX : Kp (fun k => T k ∨ (w.heap.size ≤ k ∧ k ≤ w.heap.size + 1 + 1)) w9 (w9.ext X) := Kp.of_below (World.below_ext w9 X)); have hZX := hZ9.ext X; have hDX := hD9.kp hkX; (have hRX := hR9.kp hkX); (have hOX := hO9.kp hkX); clear hkX; generalize w9.ext X = V at *; (have c2 := hZX.cell); (have f2 := hZX.frozen); (have l2 := hZX.lt); (repeat (refine First.wpF_must (fun K hK => ?_); go_wp2; (refine hK _ _ (fun hnd => by first | exact Bool.noConfusion hnd | exact Kp.refl _ _) ?_; clear hK K); (repeat (first | (refine wfp fun K hK => ?_; go_simp; refine hK _ _ ?_; clear hK K) | (refine wff fun K hK => ?_; go_simp; refine hK _ _ ?_; clear hK K))))); (try (refine First.wpF_must (fun K hK => ?_); go_wp2; (refine hK _ _ (fun hnd => by first | exact Bool.noConfusion hnd | exact Kp.nine _ (w.heap.size + 1 + 1) _ _ _ _ _ _ _ _ _) ?_; clear hK K); (repeat (first | (refine wfp fun K hK => ?_; go_simp; refine hK _ _ ?_; clear hK K) | (refine wff fun K hK => ?_; go_simp; refine hK _ _ ?_; clear hK K))))); refine First.wpF_nil ?_; go_wp2; refine bodyPost_ttc Tryz.results18 rfl (Blk.nine hZX) Tryz.underlying34 rfl (by kernel_rfl) rfl ?_
   exact ⟨(.slice A2 r2.v.l.length cA2), (.slice B2 r2.log.length cB2), (.slice C2 r2.acks.length cC2), none, 0, 0, Ah, 1, 1, rfl, (hRX.kp (Kp.weaken (Kp.nine V (w.heap.size + 1 + 1) _ _ _ _ _ _ _ _ _) fun k hk => .inr (by omega))).sub fun k _ hk => .inl hk, (hOX.kp (Kp.weaken (Kp.nine V (w.heap.size + 1 + 1) _ _ _ _ _ _ _ _ _) fun k hk => .inr (by omega))).sub fun k _ hk => .inl hk, (hDX.kp (Kp.weaken (Kp.nine V (w.heap.size + 1 + 1) _ _ _ _ _ _ _ _ _) fun k hk => .inr (by omega))).sub fun k _ hk => .inl hk, hbX.trans (Kp.below (Kp.nine V (w.heap.size + 1 + 1) _ _ _ _ _ _ _ _ _) hbX.size (fun k hk => by omega))⟩
 ·obtain ⟨hx, g2, g3⟩ : m.log = [x] ∧ m.i = r.log.length + 1 ∧ m.i ≤ 4096 := by
   unfold shipIn at hin
   split at hin
   ·split at hin
    ·rename_i h
     cases hin
     exact ⟨‹_›, h.1, h.2⟩
    ·cases hin
   ·cases hin
  have hs1 : ship1 r m = { r with log := r.log ++ [x] } := by unfold ship1; rw [hin]
  have hs2 : ship1R r m = [recEntryP (r.log.length + 1) x] := by unfold ship1R; rw [hin]
  rw [hs1, hs2]
  clear hs1 hs2 hin
  generalize hr2e : ({ r with log := r.log ++ [x] } : Rl) = r2
  have hl4 : r.log.length < 4096 := by omega
  have q1 : ((m.log.length : Int) == 1) = true := by rw [hx]; rfl
  have q2 : (m.i == (r.log.length : Int) + 1) = true := by simpa using g2
  have q3 : decide (m.i ≤ 4096) = true := decide_eq_true g3
  have hlm : m.log.length = 1 := by rw [hx]; rfl
  have hD := h
  obtain ⟨A, c, B, d, C, f0, rfl, rfl, rfl⟩ := h.sl
  obtain ⟨Av, cv, Bv, dv, rfl, rfl, hrm, hnm, hEm⟩ := hm.sl
  have hR0 := Blk.new w 34 #[.int .i64 r.id, .int .i64 r.v.e, .int .i64 r.v.p, (.slice A r.v.l.length c), (.slice B r.log.length d), .int .i64 r.joined, .int .i64 (r.sure : Int), (.slice C r.acks.length f0), .bool r.act]
  have hM0 := Blk.made w (.cells #[.int .i64 r.id, .int .i64 r.v.e, .int .i64 r.v.p, (.slice A r.v.l.length c), (.slice B r.log.length d), .int .i64 r.joined, .int .i64 (r.sure : Int), (.slice C r.acks.length f0), .bool r.act] 34) 38 #[.int .i64 m.k, .int .i64 m.e, .int .i64 m.v.e, .int .i64 m.v.p, (.slice Av m.v.l.length cv), .int .i64 m.i, .int .i64 m.s, (.slice Bv m.log.length dv)]
  have hZ0 : Blk (((w.alloc (.cells #[.int .i64 r.id, .int .i64 r.v.e, .int .i64 r.v.p, (.slice A r.v.l.length c), (.slice B r.log.length d), .int .i64 r.joined, .int .i64 (r.sure : Int), (.slice C r.acks.length f0), .bool r.act] 34)).alloc (.cells #[.int .i64 m.k, .int .i64 m.e, .int .i64 m.v.e, .int .i64 m.v.p, (.slice Av m.v.l.length cv), .int .i64 m.i, .int .i64 m.s, (.slice Bv m.log.length dv)] 38)).alloc (.cells #[.int .i64 0, .int .i64 0, .int .i64 0, .slice none 0 0, .slice none 0 0, .int .i64 0, .int .i64 0, .slice none 0 0, .bool false] 34)) (w.heap.size + 1 + 1) 34 #[.int .i64 0, .int .i64 0, .int .i64 0, .slice none 0 0, .slice none 0 0, .int .i64 0, .int .i64 0, .slice none 0 0, .bool false] := by
   have := Blk.new ((w.alloc (.cells #[.int .i64 r.id, .int .i64 r.v.e, .int .i64 r.v.p, (.slice A r.v.l.length c), (.slice B r.log.length d), .int .i64 r.joined, .int .i64 (r.sure : Int), (.slice C r.acks.length f0), .bool r.act] 34)).alloc (.cells #[.int .i64 m.k, .int .i64 m.e, .int .i64 m.v.e, .int .i64 m.v.p, (.slice Av m.v.l.length cv), .int .i64 m.i, .int .i64 m.s, (.slice Bv m.log.length dv)] 38)) 34 #[.int .i64 0, .int .i64 0, .int .i64 0, .slice none 0 0, .slice none 0 0, .int .i64 0, .int .i64 0, .slice none 0 0, .bool false]
   simpa using this
  clear h
  clear hrm hnm
  rw [hx] at hEm
  have hr2 := hide hr2e
  clear hr2e
  replace hx := hide hx
  replace hlm := hide hlm
  replace g2 := hide g2
  go_enter Tryz.func18, Tryz.ntmps18
  go_upto_region 22 with fail
  refine abstr (fun W => Below w.heap.size w W ∧ Blk W w.heap.size 34 #[.int .i64 r.id, .int .i64 r.v.e, .int .i64 r.v.p, (.slice A r.v.l.length c), (.slice B r.log.length d), .int .i64 r.joined, .int .i64 (r.sure : Int), (.slice C r.acks.length f0), .bool r.act] ∧ Blk W (w.heap.size + 1) 38 #[.int .i64 m.k, .int .i64 m.e, .int .i64 m.v.e, .int .i64 m.v.p, (.slice Av m.v.l.length cv), .int .i64 m.i, .int .i64 m.s, (.slice Bv m.log.length dv)] ∧ Blk W (w.heap.size + 1 + 1) 34 #[.int .i64 0, .int .i64 0, .int .i64 0, .slice none 0 0, .slice none 0 0, .int .i64 0, .int .i64 0, .slice none 0 0, .bool false]) ⟨by (repeat' (first | with_reducible (first | exact Below.refl _ _ | refine Below.ext ?_ ?_ _ | refine Below.alloc ?_ ?_ _ | refine Below.setCell ?_ ?_ _ | refine Below.drew ?_ | assumption) | (simp [World.size_ext]; done) | (simp [World.size_ext]; omega))), by (repeat' (first | with_reducible (first | exact hR0 | refine Blk.ext ?_ _ | refine Blk.alloc ?_ _ | apply Blk.set_to | refine Blk.far ?_ ?_ _) | rfl | (simp [World.size_ext]; done) | (simp [World.size_ext]; omega))), by (repeat' (first | with_reducible (first | exact hM0 | refine Blk.ext ?_ _ | refine Blk.alloc ?_ _ | apply Blk.set_to | refine Blk.far ?_ ?_ _) | rfl | (simp [World.size_ext]; done) | (simp [World.size_ext]; omega))), by (repeat' (first | with_reducible (first | exact hZ0 | refine Blk.ext ?_ _ | refine Blk.alloc ?_ _ | apply Blk.set_to | refine Blk.far ?_ ?_ _) | rfl | (simp [World.size_ext]; done) | (simp [World.size_ext]; omega)))⟩ (fun w5 hW => ?_)
  clear hR0 hM0 hZ0
  obtain ⟨hb5, hB5, hM5, hZ5⟩ := hW
  have hs5 := hb5.size
  have l5 := hB5.lt
  have lM5 := hM5.lt
  have lZ5 := hZ5.lt
  have c5 := hB5.cell
  have cM5 := hM5.cell
  have hDT5 : DrW w5 (fun k => T k ∨ (w.heap.size ≤ k ∧ k ≤ w.heap.size + 1 + 1)) _ _ _ r := (hD.sub (T' := (fun k => T k ∨ (w.heap.size ≤ k ∧ k ≤ w.heap.size + 1 + 1))) (fun k hk ht => ht.elim id (fun h => by omega))).kp (Kp.of_below hb5)
  have hT5 : ∀ k, (fun k => T k ∨ (w.heap.size ≤ k ∧ k ≤ w.heap.size + 1 + 1)) k → k < w5.heap.size := fun k hk => hk.elim (fun h => by have := hTl k h; omega) (fun h => by omega)
  have hE5 : Ents w5 (fun k => T k ∨ (w.heap.size ≤ k ∧ k ≤ w.heap.size + 1 + 1)) Bv 1 [x] := by
   have h1 : Ents w T Bv 1 [x] := hEm
   exact (h1.sub (T' := (fun k => T k ∨ (w.heap.size ≤ k ∧ k ≤ w.heap.size + 1 + 1))) (fun k hk ht => ht.elim id (fun h => by omega))).kp (Kp.of_below hb5)
  obtain ⟨b, o, a4, c4', y, rfl, hbl, hg, hxo, e1, e2, hBT⟩ := hE5.at_ (show 0 < 1 by omega)
  obtain rfl : y = x := by simpa using hg.symm
  have ql := hbl
  have hnb := hE5.nt (by omega) _ rfl
  simp only [Nat.zero_mul, Nat.zero_add, Nat.add_zero] at e1 e2
  have hWi := fun V : Ext => dwith_any (T := (fun k => T k ∨ (w.heap.size ≤ k ∧ k ≤ w.heap.size + 1 + 1))) B r.log.length d r.log y (.slice a4 y.t.length c4') (w5.ext V) ((hDT5.log').kp (Kp.of_below (World.below_ext w5 V))) (hBT.kp (Kp.of_below (World.below_ext w5 V))) hxo (fun k hk => by have := hT5 k hk; have := (World.below_ext w5 V).size; omega) (by omega)
  clear hEm hE5
  rw [hlm.out] at cM5
  refine First.wp_region_first_ext [1, 3, 5] [0, 2, 4, 7] [(true, false, 0), (true, true, 1), (true, false, 2), (true, true, 3), (true, false, 4), (true, true, 5), (false, true, 6), (true, false, 7), (false, false, 8)] (by kernel_rfl) (by kernel_rfl) (fun V => ?_); simp only [List.map_cons, List.map_nil, List.getD_cons_zero, List.getD_cons_succ]
  (repeat (first | (refine wfp fun K hK => ?_; go_simp; refine hK _ _ ?_; clear hK K) | (refine wff fun K hK => ?_; go_simp; refine hK _ _ ?_; clear hK K)))
  refine First.wpF_must (fun K hK => ?_)
  go_wp2_with (go_at_call 39; (with_reducible refine (hWi V).mono ?_); rintro e w6 ⟨A6, c6, ⟨rfl, hcap6⟩, hE6, hbb6⟩)
  have hgr6 : First.Grown _ w6 := World.ext_of_below hbb6
  (refine hK _ _ (fun hnd => by first | exact Bool.noConfusion hnd | assumption | with_reducible (first | exact grown_alloc _ _ | exact First.Grown.refl _ | exact First.Grown.cat _ _ _ | exact First.Grown.ext _ _)) ?_; clear hK K)
  have hbV : Below w5.heap.size w5 (w5.ext V) := World.below_ext w5 V
  have hbb56 : Below w5.heap.size w5 w6 := hbV.trans (hbb6.mono (by simp [World.size_ext]))
  have hB6 := hB5.below hbb56 l5
  have c6x := hB6.cell
  have f6x := hB6.frozen
  have l6x := hB6.lt
  have hb6 : Below w.heap.size w w6 := hb5.trans (hbb56.mono hs5)
  have hs6 := hb6.size
  (repeat (first | (refine wfp fun K hK => ?_; go_simp; refine hK _ _ ?_; clear hK K) | (refine wff fun K hK => ?_; go_simp; refine hK _ _ ?_; clear hK K)))
  refine First.wpF_must (fun K hK => ?_)
  go_wp2
  (refine hK _ _ (fun hnd => by first | exact Bool.noConfusion hnd | assumption | with_reducible (first | exact grown_alloc _ _ | exact First.Grown.refl _ | exact First.Grown.cat _ _ _ | exact First.Grown.ext _ _)) ?_; clear hK K)
  refine First.wpF_nil ?_
  have hLl : (r.log ++ [y]).length = r.log.length + 1 := by rw [List.length_append]; rfl
  have hkS := Kp.put w6 w.heap.size 4 (.slice A6 (r.log.length + 1) c6)
  have hkT : Kp (fun k => T k ∨ (w.heap.size ≤ k ∧ k ≤ w.heap.size + 1 + 1)) w6 (w6.setCell ⟨w.heap.size, 4, none⟩ (.slice A6 (r.log.length + 1) c6)) := hkS.weaken (fun k hk => .inr (by omega))
  have hD7 := ((hDT5.kp (Kp.of_below hbb56)).relog (l := r.log ++ [y]) (c := c6) (by rw [hLl]; exact hE6) (by rw [hLl]; exact hcap6) r.joined).kp (by rw [← hLl] at hkT; exact hkT)
  rw [hLl] at hD7
  refine abstr (fun W => Below w.heap.size w W ∧ Blk W w.heap.size 34 #[.int .i64 r.id, .int .i64 r.v.e, .int .i64 r.v.p, (.slice A r.v.l.length c), (.slice A6 (r.log.length + 1) c6), .int .i64 r.joined, .int .i64 (r.sure : Int), (.slice C r.acks.length f0), .bool r.act] ∧ Blk W (w.heap.size + 1) 38 #[.int .i64 m.k, .int .i64 m.e, .int .i64 m.v.e, .int .i64 m.v.p, (.slice Av m.v.l.length cv), .int .i64 m.i, .int .i64 m.s, (.slice (some ⟨b, o, none⟩) m.log.length dv)] ∧ Blk W (w.heap.size + 1 + 1) 34 #[.int .i64 0, .int .i64 0, .int .i64 0, .slice none 0 0, .slice none 0 0, .int .i64 0, .int .i64 0, .slice none 0 0, .bool false] ∧ DrW W (fun k => T k ∨ (w.heap.size ≤ k ∧ k ≤ w.heap.size + 1 + 1)) (.slice A r.v.l.length c) (.slice A6 (r.log.length + 1) c6) (.slice C r.acks.length f0) { r with log := r.log ++ [y] } ∧ W.cell? ⟨b, o, none⟩ = some (.int .i64 y.e) ∧ W.cell? ⟨b, o + 1, none⟩ = some (.slice a4 y.t.length c4') ∧ Bsl W (fun k => T k ∨ (w.heap.size ≤ k ∧ k ≤ w.heap.size + 1 + 1)) (.slice a4 y.t.length c4') y.t ∧ b < w5.heap.size ∧ w5.heap.size ≤ W.heap.size) ⟨hb6.setCell (p := ⟨w.heap.size, 4, none⟩) (by show w.heap.size ≤ w.heap.size; omega) _, hB6.set_ 4 _, (hM5.below hbb56 lM5).far (p := ⟨w.heap.size, 4, none⟩) (by show w.heap.size + 1 ≠ w.heap.size; omega) _, (hZ5.below hbb56 lZ5).far (p := ⟨w.heap.size, 4, none⟩) (by show w.heap.size + 1 + 1 ≠ w.heap.size; omega) _, hD7, (hkT.cell (p := ⟨b, o, none⟩) (by have := hbb56.size; show b < _; omega) hnb).trans ((hbb56.cell (p := ⟨b, o, none⟩) hbl).trans e1), (hkT.cell (p := ⟨b, o + 1, none⟩) (by have := hbb56.size; show b < _; omega) hnb).trans ((hbb56.cell (p := ⟨b, o + 1, none⟩) hbl).trans e2), (hBT.kp (Kp.of_below hbb56)).kp hkT, hbl, by simp only [World.size_setCell]; exact hbb56.size⟩ (fun w7 hW7 => ?_)
  clear hkS hkT hD7 hLl hb6 hs6 hB6 c6x f6x l6x hbb56 hbV hgr6 hbb6 hE6 hWi hDT5 hB5 hM5 hZ5 c5 cM5 hb5 hBT e1 e2 ql
  obtain ⟨hb7, hB7, hM7, hZ7, hD7, e1, e2, hBT, hbl, hs57⟩ := hW7
  have hbl7 : b < w7.heap.size := by omega
  have hs7 := hb7.size
  have l7 := hB7.lt
  have lM7 := hM7.lt
  have lZ7 := hZ7.lt
  have cM7 := hM7.cell
  rw [hlm.out] at cM7
  have hT7 : ∀ k, (fun k => T k ∨ (w.heap.size ≤ k ∧ k ≤ w.heap.size + 1 + 1)) k → k < w7.heap.size := fun k hk => hk.elim (fun h => by have := hTl k h; omega) (fun h => by omega)
  have hRE := fun V : Ext => drecEntry_any (r.log.length + 1) y (.slice a4 y.t.length c4') (w7.ext V) (hBT.kp (Kp.of_below (World.below_ext w7 V))) hxo (by omega)
  rw [show ((r.log.length + 1 : Nat) : Int) = m.i from g2.out.symm] at hRE
  go_wp2
  refine First.wp_region_first_ext [2, 4, 6] [0, 1, 3, 5] [(true, false, 0), (true, false, 1), (true, true, 2), (true, false, 3), (true, true, 4), (true, false, 5), (true, true, 6), (false, true, 7), (false, true, 8), (false, true, 9), (false, false, 10)] (by kernel_rfl) (by kernel_rfl) (fun V => ?_); simp only [List.map_cons, List.map_nil, List.getD_cons_zero, List.getD_cons_succ]
  (repeat (first | (refine wfp fun K hK => ?_; go_simp; refine hK _ _ ?_; clear hK K) | (refine wff fun K hK => ?_; go_simp; refine hK _ _ ?_; clear hK K)))
  refine First.wpF_must (fun K hK => ?_)
  go_wp2_with (go_at_call 42; (with_reducible refine (hRE V).mono ?_); rintro e w3 ⟨u, rfl, hRow, hb3⟩; obtain ⟨uA, uc, rfl, _⟩ := own_sl hRow)
  have hgr3 : First.Grown _ w3 := World.ext_of_below hb3
  (refine hK _ _ (fun hnd => by first | exact Bool.noConfusion hnd | assumption | with_reducible (first | exact grown_alloc _ _ | exact First.Grown.refl _ | exact First.Grown.cat _ _ _ | exact First.Grown.ext _ _)) ?_; clear hK K)
  (repeat (first | (refine wfp fun K hK => ?_; go_simp; refine hK _ _ ?_; clear hK K) | (refine wff fun K hK => ?_; go_simp; refine hK _ _ ?_; clear hK K)))
  have s3 := hb3.size
  simp only [World.size_ext] at s3
  have hb73 : Below w7.heap.size w7 w3 := (World.below_ext w7 V).trans (hb3.mono (by simp only [World.size_ext]; omega))
  have hbs : Bsl w3 (fun k => (fun k => T k ∨ (w.heap.size ≤ k ∧ k ≤ w.heap.size + 1 + 1)) k ∨ (Value.slice none 0 0).ownBlock = some k) (.slice uA (recEntryP (r.log.length + 1) y).length uc) (recEntryP (r.log.length + 1) y) := (Bsl.row hRow (T := (fun k => T k ∨ (w.heap.size ≤ k ∧ k ≤ w.heap.size + 1 + 1))) (fun k hk => by have := hT7 k hk; simp only [World.size_ext]; omega) (recEntry_by (by omega) hxo)).sub (fun k _ hk => hk.elim id (fun e => by cases e))
  refine First.wpF_must (fun K hK => ?_)
  go_wp2
  (refine hK _ _ (fun hnd => by first | exact Bool.noConfusion hnd | assumption | with_reducible (first | exact grown_alloc _ _ | exact First.Grown.refl _ | exact First.Grown.cat _ _ _ | exact First.Grown.ext _ _)) ?_; clear hK K)
  (repeat (first | (refine wfp fun K hK => ?_; go_simp; refine hK _ _ ?_; clear hK K) | (refine wff fun K hK => ?_; go_simp; refine hK _ _ ?_; clear hK K)))
  refine First.wpF_must (fun K hK => ?_)
  go_wp2_with (at_builtin; refine app_rec rfl (.tmp 192) (.tmp 200) rfl (fun k => T k ∨ (w.heap.size ≤ k ∧ k ≤ w.heap.size + 1 + 1)) w7.heap.size (.slice none 0 0) [] (recEntryP (r.log.length + 1) y, .slice uA (recEntryP (r.log.length + 1) y).length uc) _ rfl rfl (OwnR.nil _ _ _) hbs _ rfl rfl (by simp) (by omega) (fun v' w4 hR4 hc4 hk4 => ?_))
  have hb4 : Below (w3.alloc (.cells #[.slice uA (recEntryP (r.log.length + 1) y).length uc] 36)).heap.size (w3.alloc (.cells #[.slice uA (recEntryP (r.log.length + 1) y).length uc] 36)) w4 := ⟨hk4.os, hk4.tape, hk4.output, hk4.size, fun k hk => hk4.block k hk (by simp [Value.ownBlock])⟩
  have hgr4 : First.Grown _ w4 := World.ext_of_below hb4
  (refine hK _ _ (fun hnd => by first | exact Bool.noConfusion hnd | assumption | with_reducible (first | exact grown_alloc _ _ | exact First.Grown.refl _ | exact First.Grown.cat _ _ _ | exact First.Grown.ext _ _)) ?_; clear hK K)
  (repeat (first | (refine wfp fun K hK => ?_; go_simp; refine hK _ _ ?_; clear hK K) | (refine wff fun K hK => ?_; go_simp; refine hK _ _ ?_; clear hK K)))
  refine First.wpF_must (fun K hK => ?_)
  go_wp2
  (refine hK _ _ (fun hnd => by first | exact Bool.noConfusion hnd | assumption | with_reducible (first | exact grown_alloc _ _ | exact First.Grown.refl _ | exact First.Grown.cat _ _ _ | exact First.Grown.ext _ _)) ?_; clear hK K)
  refine First.wpF_nil ?_
  have hbA : Below w3.heap.size w3 (w3.alloc (.cells #[.slice uA (recEntryP (r.log.length + 1) y).length uc] 36)) := Below.alloc (Below.refl _ _) (Nat.le_refl _) _
  have hb34 := hbA.trans (hb4.mono (by simp only [World.size_alloc]; omega))
  have hb74 := hb73.trans (hb34.mono (by omega))
  obtain ⟨A8, c8, rfl, hRc8⟩ := hR4.recs' (fun k hk hT => by have := (hR4.lt k hk).1; have := hT7 k hT; omega)
  refine abstr (fun W => Below w.heap.size w W ∧ Blk W w.heap.size 34 #[.int .i64 r2.id, .int .i64 r2.v.e, .int .i64 r2.v.p, (.slice A r.v.l.length c), (.slice A6 (r.log.length + 1) c6), .int .i64 r2.joined, .int .i64 (r2.sure : Int), (.slice C r.acks.length f0), .bool r2.act] ∧ Blk W (w.heap.size + 1) 38 #[.int .i64 m.k, .int .i64 m.e, .int .i64 m.v.e, .int .i64 m.v.p, (.slice Av m.v.l.length cv), .int .i64 m.i, .int .i64 m.s, (.slice (some ⟨b, o, none⟩) m.log.length dv)] ∧ Blk W (w.heap.size + 1 + 1) 34 #[.int .i64 0, .int .i64 0, .int .i64 0, .slice none 0 0, .slice none 0 0, .int .i64 0, .int .i64 0, .slice none 0 0, .bool false] ∧ DrW W (fun k => T k ∨ (w.heap.size ≤ k ∧ k ≤ w.heap.size + 1 + 1)) (.slice A r.v.l.length c) (.slice A6 (r.log.length + 1) c6) (.slice C r.acks.length f0) r2 ∧ Recs W (fun k => T k ∨ (w.heap.size ≤ k ∧ k ≤ w.heap.size + 1 + 1)) A8 1 [recEntryP (r.log.length + 1) y]) ⟨hb7.trans (hb74.mono hs7), by rw [← hr2.out]; exact hB7.below hb74 l7, hM7.below hb74 lM7, hZ7.below hb74 lZ7, by rw [← hr2.out]; exact hD7.kp (Kp.of_below hb74), hRc8⟩ (fun w8 hW8 => ?_)
  clear hb74 hb34 hbA hgr4 hb4 hk4 hc4 hR4 hRc8 hbs hb73 s3 hgr3 hb3 hRow hRE hT7 cM7 hb7 hB7 hM7 hZ7 hD7 e1 e2 hBT hs7
  obtain ⟨hb8, hB8, hM8, hZ8, hD8, hR8⟩ := hW8
  obtain ⟨A2, cA2, B2, cB2, C2, cC2, eA, eB, eC⟩ := hD8.sl
  rw [eA, eB, eC] at hB8 hD8
  clear eA eB eC
  have sB8 := hb8.size
  have cB8 := hB8.cell
  have lB8 := hB8.lt
  have cM8 := hM8.cell
  have lM8 := hM8.lt
  have lZ8 := hZ8.lt
  have hT8 : ∀ k, (fun k => T k ∨ (w.heap.size ≤ k ∧ k ≤ w.heap.size + 1 + 1)) k → k < w8.heap.size := fun k hk => hk.elim (fun h => by have := hTl k h; omega) (fun h => by omega)
  have hHr := dhear_any r2 f m.s (.slice A2 r2.v.l.length cA2) (.slice B2 r2.log.length cB2) (.slice C2 r2.acks.length cC2) w8 hD8 hT8
  go_upto_region 25 with (go_at_call 53; (with_reducible refine hHr.mono ?_); rintro e w5 ⟨Ah, rfl, hO5, hD5, hb5⟩)
  have s5 := hb5.size
  have hbA : Below w5.heap.size w5 (w5.alloc (.cells #[.int .i64 (hearP r2 m.s).id, .int .i64 (hearP r2 m.s).v.e, .int .i64 (hearP r2 m.s).v.p, (.slice A2 r2.v.l.length cA2), (.slice B2 r2.log.length cB2), .int .i64 (hearP r2 m.s).joined, .int .i64 ((hearP r2 m.s).sure : Int), (.slice C2 r2.acks.length cC2), .bool (hearP r2 m.s).act] 34)) := Below.alloc (Below.refl _ _) (Nat.le_refl _) _
  have hb85 := hb5.trans (hbA.mono s5)
  refine abstr (fun W => Below w.heap.size w W ∧ Blk W w5.heap.size 34 #[.int .i64 (hearP r2 m.s).id, .int .i64 (hearP r2 m.s).v.e, .int .i64 (hearP r2 m.s).v.p, (.slice A2 r2.v.l.length cA2), (.slice B2 r2.log.length cB2), .int .i64 (hearP r2 m.s).joined, .int .i64 ((hearP r2 m.s).sure : Int), (.slice C2 r2.acks.length cC2), .bool (hearP r2 m.s).act] ∧ Blk W (w.heap.size + 1 + 1) 34 #[.int .i64 0, .int .i64 0, .int .i64 0, .slice none 0 0, .slice none 0 0, .int .i64 0, .int .i64 0, .slice none 0 0, .bool false] ∧ DrW W (fun k => T k ∨ (w.heap.size ≤ k ∧ k ≤ w.heap.size + 1 + 1)) (.slice A2 r2.v.l.length cA2) (.slice B2 r2.log.length cB2) (.slice C2 r2.acks.length cC2) (hearP r2 m.s) ∧ Recs W (fun k => T k ∨ (w.heap.size ≤ k ∧ k ≤ w.heap.size + 1 + 1)) A8 1 [recEntryP (r.log.length + 1) y] ∧ Outs W (fun k => T k ∨ (w.heap.size ≤ k ∧ k ≤ w.heap.size + 1 + 1)) Ah 1 (hearO r2 f)) ⟨hb8.trans (hb85.mono sB8), Blk.new _ _ _, hZ8.below hb85 lZ8, hD5.kp (Kp.of_below hbA), hR8.kp (Kp.of_below hb85), hO5.kp (Kp.of_below hbA)⟩ (fun w9 hW9 => ?_)
  have hq5 : w.heap.size + 1 + 1 < w5.heap.size := by omega
  clear hbA hb85 hD5 hO5 hb5 hHr hT8 cB8 cM8 s5
  generalize w5.heap.size = q at *
  obtain ⟨hb9, hB9, hZ9, hD9, hR9, hO9⟩ := hW9
  have lB9 := hB9.lt
  have lZ9 := hZ9.lt
  refine wp_region_kp (fun k => k = w.heap.size + 1 + 1) [2] [0, 1] [(true, false, 0), (true, false, 1), (true, true, 2), (false, true, 3), (false, true, 4), (false, false, 5)] (by kernel_rfl) (by kernel_rfl) (fun X => ?_); simp only [List.map_cons, List.map_nil, List.getD_cons_zero, List.getD_cons_succ]; (have hne : ¬(q = w.heap.size + 1 + 1) := by omega); (repeat (first | (refine wfp fun K hK => ?_; go_simp; refine hK _ _ ?_; clear hK K) | (refine wff fun K hK => ?_; go_simp; refine hK _ _ ?_; clear hK K))); (refine first_readG rfl (v := .agg #[.int .i64 (hearP r2 m.s).id, .int .i64 (hearP r2 m.s).v.e, .int .i64 (hearP r2 m.s).v.p, (.slice A2 r2.v.l.length cA2), (.slice B2 r2.log.length cB2), .int .i64 (hearP r2 m.s).joined, .int .i64 ((hearP r2 m.s).sure : Int), (.slice C2 r2.acks.length cC2), .bool (hearP r2 m.s).act]) (fun w' hw' => ?_) (fun K hK => ?_); rotate_left 1; go_simp; refine hK _ _ ?_; clear hK K; rotate_left 1; (have hB' := Blk.kp (Blk.ext hB9 _) hw' hne; have c' := Blk.cell hB'; go_simp)); (repeat (first | (refine wfp fun K hK => ?_; go_simp; refine hK _ _ ?_; clear hK K) | (refine wff fun K hK => ?_; go_simp; refine hK _ _ ?_; clear hK K))); (have hbX := hb9.trans ((World.below_ext w9 X).mono hb9.size)); (have hkX : Kp (fun k => T k ∨ (w.heap.size ≤ k ∧ k ≤ w.heap.size + 1 + 1)) w9 (w9.ext X) := Kp.of_below (World.below_ext w9 X)); have hZX := hZ9.ext X; have hDX := hD9.kp hkX; (have hRX := hR9.kp hkX); (have hOX := hO9.kp hkX); clear hkX; generalize w9.ext X = V at *; (have c2 := hZX.cell); (have f2 := hZX.frozen); (have l2 := hZX.lt); (repeat (refine First.wpF_must (fun K hK => ?_); go_wp2; (refine hK _ _ (fun hnd => by first | exact Bool.noConfusion hnd | exact Kp.refl _ _) ?_; clear hK K); (repeat (first | (refine wfp fun K hK => ?_; go_simp; refine hK _ _ ?_; clear hK K) | (refine wff fun K hK => ?_; go_simp; refine hK _ _ ?_; clear hK K))))); (try (refine First.wpF_must (fun K hK => ?_); go_wp2; (refine hK _ _ (fun hnd => by first | exact Bool.noConfusion hnd | exact Kp.nine _ (w.heap.size + 1 + 1) _ _ _ _ _ _ _ _ _) ?_; clear hK K); (repeat (first | (refine wfp fun K hK => ?_; go_simp; refine hK _ _ ?_; clear hK K) | (refine wff fun K hK => ?_; go_simp; refine hK _ _ ?_; clear hK K))))); refine First.wpF_nil ?_; go_wp2; refine bodyPost_ttc Tryz.results18 rfl (Blk.nine hZX) Tryz.underlying34 rfl (by kernel_rfl) rfl ?_
  exact ⟨(.slice A2 r2.v.l.length cA2), (.slice B2 r2.log.length cB2), (.slice C2 r2.acks.length cC2), A8, 1, c8, Ah, 1, 1, rfl, (hRX.kp (Kp.weaken (Kp.nine V (w.heap.size + 1 + 1) _ _ _ _ _ _ _ _ _) fun k hk => .inr (by omega))).sub fun k _ hk => .inl hk, (hOX.kp (Kp.weaken (Kp.nine V (w.heap.size + 1 + 1) _ _ _ _ _ _ _ _ _) fun k hk => .inr (by omega))).sub fun k _ hk => .inl hk, (hDX.kp (Kp.weaken (Kp.nine V (w.heap.size + 1 + 1) _ _ _ _ _ _ _ _ _) fun k hk => .inr (by omega))).sub fun k _ hk => .inl hk, hbX.trans (Kp.below (Kp.nine V (w.heap.size + 1 + 1) _ _ _ _ _ _ _ _ _) hbX.size (fun k hk => by omega))⟩
end Go.Proofs.YtjhcgnmibnjocaaGreat
