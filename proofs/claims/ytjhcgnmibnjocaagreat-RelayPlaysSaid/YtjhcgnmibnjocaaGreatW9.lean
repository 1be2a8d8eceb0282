import Derived.Test.YtjhcgnmibnjocaaGreatW8
/-! The document's relay takes an ack. -/
namespace Go.Proofs.YtjhcgnmibnjocaaGreat
open Go.RowKit Go.Maps
set_option linter.unusedVariables false
set_option linter.unusedSimpArgs false
set_option maxRecDepth 100000 in
set_option maxHeartbeats 40000000 in
theorem dack_yes {T : Nat → Prop} (r : Rl) (f : Int) (m : Mg) (vm vl va mv ml : Value) (w : World) (h : DrW w T vm vl va r) (hm : MgW w T mv ml m) (hTl : ∀ k, T k → k < w.heap.size) (hok : r.ok) (hml : m.v.l.length ≤ 1000000) (hk : m.k = 3) (ho : ackOk r f m = true) :
  Calls Tryz.prog 18 #[.agg #[.int .i64 r.id, .int .i64 r.v.e, .int .i64 r.v.p, vm, vl, .int .i64 r.joined, .int .i64 (r.sure : Int), va, .bool r.act], .int .i64 f, .agg #[.int .i64 m.k, .int .i64 m.e, .int .i64 m.v.e, .int .i64 m.v.p, mv, .int .i64 m.i, .int .i64 m.s, ml]] w fun e w' => ∃ va', e = .returned (.tuple #[.slice none 0 0, .slice none 0 0, .agg #[.int .i64 (ackP r f m).id, .int .i64 (ackP r f m).v.e, .int .i64 (ackP r f m).v.p, vm, vl, .int .i64 (ackP r f m).joined, .int .i64 ((ackP r f m).sure : Int), va', .bool (ackP r f m).act]]) ∧ DrW w' T vm vl va' (ackP r f m) ∧ Below w.heap.size w w' := by
 have hP := hide (show ackP r f m = settleP { r with acks := ackedL f (max ((r.acks.lookup f).getD 0) m.i.toNat) r.acks } by unfold ackP; rw [if_pos ho])
 unfold ackOk at ho
 simp only [Bool.and_eq_true, Bool.not_eq_true', decide_eq_true_eq] at ho
 obtain ⟨⟨⟨⟨⟨h1, h2⟩, h3⟩, h4⟩, h5⟩, h6⟩ := ho
 have d2 : (m.e == r.v.e) = true := by simpa using h2
 have d3 : (f != r.id) = true := by simpa using h3
 have d5 : decide (0 ≤ m.i) = true := by simpa using h5
 have d6 : decide (m.i ≤ (r.log.length : Int)) = true := by simpa using h6
 have hk3 : (m.k == 1) = false := by rw [hk]; rfl
 have hk2 : (m.k == 2) = false := by rw [hk]; rfl
 have hk1 : (m.k == 3) = true := by rw [hk]; rfl
 replace h2 := hide h2
 replace hk := hide hk
 have hD := h
 obtain ⟨A, c, B, d, C, f0, rfl, rfl, rfl⟩ := h.sl
 obtain ⟨Av, cv, Bv, dv, rfl, rfl, hrm, hnm, hEm⟩ := hm.sl
 have hR0 := Blk.new w 34 #[.int .i64 r.id, .int .i64 r.v.e, .int .i64 r.v.p, (.slice A r.v.l.length c), (.slice B r.log.length d), .int .i64 r.joined, .int .i64 (r.sure : Int), (.slice C r.acks.length f0), .bool r.act]
 have hM0 := Blk.made w (.cells #[.int .i64 r.id, .int .i64 r.v.e, .int .i64 r.v.p, (.slice A r.v.l.length c), (.slice B r.log.length d), .int .i64 r.joined, .int .i64 (r.sure : Int), (.slice C r.acks.length f0), .bool r.act] 34) 38 #[.int .i64 m.k, .int .i64 m.e, .int .i64 m.v.e, .int .i64 m.v.p, (.slice Av m.v.l.length cv), .int .i64 m.i, .int .i64 m.s, (.slice Bv m.log.length dv)]
 have hZ0 : Blk (((w.alloc (.cells #[.int .i64 r.id, .int .i64 r.v.e, .int .i64 r.v.p, (.slice A r.v.l.length c), (.slice B r.log.length d), .int .i64 r.joined, .int .i64 (r.sure : Int), (.slice C r.acks.length f0), .bool r.act] 34)).alloc (.cells #[.int .i64 m.k, .int .i64 m.e, .int .i64 m.v.e, .int .i64 m.v.p, (.slice Av m.v.l.length cv), .int .i64 m.i, .int .i64 m.s, (.slice Bv m.log.length dv)] 38)).alloc (.cells #[.int .i64 0, .int .i64 0, .int .i64 0, .slice none 0 0, .slice none 0 0, .int .i64 0, .int .i64 0, .slice none 0 0, .bool false] 34)) (w.heap.size + 1 + 1) 34 #[.int .i64 0, .int .i64 0, .int .i64 0, .slice none 0 0, .slice none 0 0, .int .i64 0, .int .i64 0, .slice none 0 0, .bool false] := by
  have := Blk.new ((w.alloc (.cells #[.int .i64 r.id, .int .i64 r.v.e, .int .i64 r.v.p, (.slice A r.v.l.length c), (.slice B r.log.length d), .int .i64 r.joined, .int .i64 (r.sure : Int), (.slice C r.acks.length f0), .bool r.act] 34)).alloc (.cells #[.int .i64 m.k, .int .i64 m.e, .int .i64 m.v.e, .int .i64 m.v.p, (.slice Av m.v.l.length cv), .int .i64 m.i, .int .i64 m.s, (.slice Bv m.log.length dv)] 38)) 34 #[.int .i64 0, .int .i64 0, .int .i64 0, .slice none 0 0, .slice none 0 0, .int .i64 0, .int .i64 0, .slice none 0 0, .bool false]
  simpa using this
 clear h
 have hLt := fun W (hW : Below w.heap.size w W) => dleads_any r _ _ _ W (hD.kp (Kp.of_below hW))
 rw [h1] at hLt
 obtain ⟨⟨A', c', e', hra, _⟩, _, _⟩ := id hD
 simp only [Value.slice.injEq] at e'
 obtain ⟨rfl, -, rfl⟩ := e'
 have hCt := fun W (hW : Below w.heap.size w W) => rhas_any A r.v.l.length c r.v.l f W (Reads.kp hra (Kp.of_below (S := fun _ => False) hW) (fun _ _ _ h => h)) (by have := hok.mem.2; omega)
 rw [h4] at hCt
 clear hrm hnm hEm hra
 go_enter Tryz.func18, Tryz.ntmps18
 go_upto_region 28 with (first | (go_at_call 29; (with_reducible refine (hRt _ (by (repeat' (first | with_reducible (first | exact Below.refl _ _ | refine Below.ext ?_ ?_ _ | refine Below.alloc ?_ ?_ _ | refine Below.setCell ?_ ?_ _ | refine Below.drew ?_ | assumption) | (simp [World.size_ext]; done) | (simp [World.size_ext]; omega))))).mono ?_); rintro e w' ⟨rfl, hb⟩; obtain ⟨X, rfl⟩ := World.ext_of_below hb; clear hb) | (go_at_call 38; (with_reducible refine (hLt _ (by (repeat' (first | with_reducible (first | exact Below.refl _ _ | refine Below.ext ?_ ?_ _ | refine Below.alloc ?_ ?_ _ | refine Below.setCell ?_ ?_ _ | refine Below.drew ?_ | assumption) | (simp [World.size_ext]; done) | (simp [World.size_ext]; omega))))).mono ?_); rintro e w' ⟨rfl, hb⟩; obtain ⟨X, rfl⟩ := World.ext_of_below hb; clear hb) | (go_at_call 51; (with_reducible refine (hCt _ (by (repeat' (first | with_reducible (first | exact Below.refl _ _ | refine Below.ext ?_ ?_ _ | refine Below.alloc ?_ ?_ _ | refine Below.setCell ?_ ?_ _ | refine Below.drew ?_ | assumption) | (simp [World.size_ext]; done) | (simp [World.size_ext]; omega))))).mono ?_); rintro e w' ⟨rfl, rfl⟩))
 refine abstr (fun W => Below w.heap.size w W ∧ Blk W w.heap.size 34 #[.int .i64 r.id, .int .i64 r.v.e, .int .i64 r.v.p, (.slice A r.v.l.length c), (.slice B r.log.length d), .int .i64 r.joined, .int .i64 (r.sure : Int), (.slice C r.acks.length f0), .bool r.act] ∧ Blk W (w.heap.size + 1) 38 #[.int .i64 m.k, .int .i64 m.e, .int .i64 m.v.e, .int .i64 m.v.p, (.slice Av m.v.l.length cv), .int .i64 m.i, .int .i64 m.s, (.slice Bv m.log.length dv)] ∧ Blk W (w.heap.size + 1 + 1) 34 #[.int .i64 0, .int .i64 0, .int .i64 0, .slice none 0 0, .slice none 0 0, .int .i64 0, .int .i64 0, .slice none 0 0, .bool false]) ⟨by (repeat' (first | with_reducible (first | exact Below.refl _ _ | refine Below.ext ?_ ?_ _ | refine Below.alloc ?_ ?_ _ | refine Below.setCell ?_ ?_ _ | refine Below.drew ?_ | assumption) | (simp [World.size_ext]; done) | (simp [World.size_ext]; omega))), by (repeat' (first | with_reducible (first | exact hR0 | refine Blk.ext ?_ _ | refine Blk.alloc ?_ _ | apply Blk.set_to | refine Blk.far ?_ ?_ _) | rfl | (simp [World.size_ext]; done) | (simp [World.size_ext]; omega))), by (repeat' (first | with_reducible (first | exact hM0 | refine Blk.ext ?_ _ | refine Blk.alloc ?_ _ | apply Blk.set_to | refine Blk.far ?_ ?_ _) | rfl | (simp [World.size_ext]; done) | (simp [World.size_ext]; omega))), by (repeat' (first | with_reducible (first | exact hZ0 | refine Blk.ext ?_ _ | refine Blk.alloc ?_ _ | apply Blk.set_to | refine Blk.far ?_ ?_ _) | rfl | (simp [World.size_ext]; done) | (simp [World.size_ext]; omega)))⟩ (fun w1 hW => ?_)
 clear hR0 hM0 hZ0 hLt hCt
 obtain ⟨hb1, hB1, hM1, hZ1⟩ := hW
 have hs1 := hb1.size
 have c1 := hB1.cell
 have l1 := hB1.lt
 have cM1 := hM1.cell
 have lM1 := hM1.lt
 have hDW : DrW w1 (fun k => T k ∨ (w.heap.size ≤ k ∧ k ≤ w.heap.size + 1 + 1)) _ _ _ r := (hD.sub (T' := (fun k => T k ∨ (w.heap.size ≤ k ∧ k ≤ w.heap.size + 1 + 1))) (fun k hk ht => ht.elim id (fun h => by omega))).kp (Kp.of_below hb1)
 have hTW : ∀ k, (fun k => T k ∨ (w.heap.size ≤ k ∧ k ≤ w.heap.size + 1 + 1)) k → k < w1.heap.size := fun k hk => hk.elim (fun h => by have := hTl k h; omega) (fun h => by have := hZ1.lt; omega)
 have hal := ack_len hok.ak hok.an
 have hAk := dack_any r f _ _ _ w1 hDW (by omega)
 have ha4 : (r.acks.lookup f).getD 0 ≤ 4096 := by
  cases hl : r.acks.lookup f with
  | none => simp
  | some k => exact (hok.ak _ (lookup_mem hl)).1
 have hn4 := hok.n
 have hokB : ({ r with acks := ackedL f (max ((r.acks.lookup f).getD 0) m.i.toNat) r.acks } : Rl).ok := ⟨hok.id, hok.v, hok.n, hok.log, hok.j, hok.s, acked_ok hok.ak (by omega) (hok.mem.1 f (hasB_mem.1 h4)), acked_nodup hok.an⟩
 generalize (r.acks.lookup f).isSome = ab at *
 generalize hav : (r.acks.lookup f).getD 0 = a at *
 clear hav
 by_cases hlt : (a : Int) < m.i
 ·have hv : ((max a m.i.toNat : Nat) : Int) = m.i := by omega
  have d7 : decide ((a : Int) < m.i) = true := decide_eq_true hlt
  have hAc := fun W5 (hD5 : DrW W5 (fun k => T k ∨ (w.heap.size ≤ k ∧ k ≤ w.heap.size + 1 + 1)) (.slice A r.v.l.length c) (.slice B r.log.length d) (.slice C r.acks.length f0) r) (hT5 : ∀ k, (fun k => T k ∨ (w.heap.size ≤ k ∧ k ≤ w.heap.size + 1 + 1)) k → k < W5.heap.size) => dacked_any r f (max a m.i.toNat) _ _ _ W5 hD5 hT5 (by omega)
  have hSt := fun W5 va' (hD5 : DrW W5 (fun k => T k ∨ (w.heap.size ≤ k ∧ k ≤ w.heap.size + 1 + 1)) (.slice A r.v.l.length c) (.slice B r.log.length d) va' { r with acks := ackedL f (max a m.i.toNat) r.acks }) => show Calls Tryz.prog 41 #[.agg #[.int .i64 r.id, .int .i64 r.v.e, .int .i64 r.v.p, (.slice A r.v.l.length c), (.slice B r.log.length d), .int .i64 r.joined, .int .i64 (r.sure : Int), va', .bool r.act]] W5 (fun e w' => e = .returned (.agg #[.int .i64 (settleP { r with acks := ackedL f (max a m.i.toNat) r.acks }).id, .int .i64 (settleP { r with acks := ackedL f (max a m.i.toNat) r.acks }).v.e, .int .i64 (settleP { r with acks := ackedL f (max a m.i.toNat) r.acks }).v.p, (.slice A r.v.l.length c), (.slice B r.log.length d), .int .i64 (settleP { r with acks := ackedL f (max a m.i.toNat) r.acks }).joined, .int .i64 ((settleP { r with acks := ackedL f (max a m.i.toNat) r.acks }).sure : Int), va', .bool (settleP { r with acks := ackedL f (max a m.i.toNat) r.acks }).act]) ∧ DrW w' (fun k => T k ∨ (w.heap.size ≤ k ∧ k ≤ w.heap.size + 1 + 1)) (.slice A r.v.l.length c) (.slice B r.log.length d) va' (settleP { r with acks := ackedL f (max a m.i.toNat) r.acks }) ∧ Below W5.heap.size W5 w') from
   dsettle_any { r with acks := ackedL f (max a m.i.toNat) r.acks } _ _ va' W5 hD5 hok.n (by have := ack_len hokB.ak hokB.an; omega) (by have := hok.mem.2; show r.v.l.length ≤ 1000000; omega) (fun x hx => (hokB.ak x hx).1)
  rw [← hP.out] at hSt
  generalize hAPe : ackP r f m = AP at *
  have hAP' := hide hAPe
  clear hAPe
  rw [hv] at hAc
  clear hv
  replace hlt := hide hlt
  go_upto_region 32 with (first | (go_at_call 46; (with_reducible refine hAk.mono ?_); rintro e w4 ⟨rfl, hb4⟩; have hB4 := hB1.below hb4 l1; have c4 := hB4.cell; have l4 := hB4.lt; have hM4 := hM1.below hb4 lM1; have cM4 := hM4.cell; have lM4 := hM4.lt; have hs4 := hb4.size) | (go_at_call 40; (with_reducible refine (hAc w4 (hDW.kp (Kp.of_below hb4)) (fun k hk => by have := hTW k hk; omega)).mono ?_); rintro e w5 ⟨va5, rfl, hD5, hb5⟩; obtain ⟨C5, f5, rfl⟩ := hD5.sla; have hB5 := hB4.below hb5 l4; have c5 := hB5.cell; have fx5 := hB5.frozen; have l5 := hB5.lt) | (go_at_call 41; (with_reducible refine (hSt _ _ hD5).mono ?_); rintro e w6 ⟨rfl, hD6, hb6⟩; have hB6 := hB5.below hb6 l5; have c6 := hB6.cell; have f6 := hB6.frozen; have l6 := hB6.lt))
  have hs5 := hb5.size
  have hs6 := hb6.size
  have hb46 := hb4.trans ((hb5.trans (hb6.mono hs5)).mono hs4)
  have hb06 := hb1.trans (hb46.mono hs1)
  have hkN := Kp.nine w6 w.heap.size (.int .i64 AP.id) (.int .i64 AP.v.e) (.int .i64 AP.v.p) (.slice A r.v.l.length c) (.slice B r.log.length d) (.int .i64 AP.joined) (.int .i64 (AP.sure : Int)) (.slice C5 (ackedL f (max a m.i.toNat) r.acks).length f5) (.bool AP.act)
  refine abstr (fun W => Below w.heap.size w W ∧ Blk W w.heap.size 34 #[.int .i64 AP.id, .int .i64 AP.v.e, .int .i64 AP.v.p, (.slice A r.v.l.length c), (.slice B r.log.length d), .int .i64 AP.joined, .int .i64 (AP.sure : Int), (.slice C5 (ackedL f (max a m.i.toNat) r.acks).length f5), .bool AP.act] ∧ Blk W (w.heap.size + 1 + 1) 34 #[.int .i64 0, .int .i64 0, .int .i64 0, .slice none 0 0, .slice none 0 0, .int .i64 0, .int .i64 0, .slice none 0 0, .bool false] ∧ DrW W (fun k => T k ∨ (w.heap.size ≤ k ∧ k ≤ w.heap.size + 1 + 1)) (.slice A r.v.l.length c) (.slice B r.log.length d) (.slice C5 (ackedL f (max a m.i.toNat) r.acks).length f5) AP) ⟨hb06.trans (Kp.below hkN hb06.size (fun k hk => by omega)), Blk.nine hB6, Blk.kp (hZ1.below hb46 hZ1.lt) hkN (by omega), hD6.kp (hkN.weaken (fun k hk => .inr (by omega)))⟩ (fun w9 hW9 => ?_)
  clear hkN hb06 hb46 hs6 hs5 hB6 c6 f6 l6 hB5 c5 fx5 l5 hD6 hb6 hD5 hb5 hAk hAc hSt hB4 c4 l4 hM4 cM4 lM4 hs4 hb4
  obtain ⟨hb9, hB9, hZ9, hD9⟩ := hW9
  have lB9 := hB9.lt
  have lZ9 := hZ9.lt
  have hR9 : Recs w9 (fun k => T k ∨ (w.heap.size ≤ k ∧ k ≤ w.heap.size + 1 + 1)) none 0 [] := Recs.nil _ _
  have hO9 : Outs w9 (fun k => T k ∨ (w.heap.size ≤ k ∧ k ≤ w.heap.size + 1 + 1)) none 0 [] := Outs.nil _ _
  refine wp_region_kp (fun k => k = w.heap.size + 1 + 1) [0] [] [(true, true, 0), (false, true, 1), (false, true, 2), (false, false, 3)] (by kernel_rfl) (by kernel_rfl) (fun X => ?_); simp only [List.map_cons, List.map_nil, List.getD_cons_zero, List.getD_cons_succ]; (have hne : ¬(w.heap.size = w.heap.size + 1 + 1) := by omega); (repeat (first | (refine wfp fun K hK => ?_; go_simp; refine hK _ _ ?_; clear hK K) | (refine wff fun K hK => ?_; go_simp; refine hK _ _ ?_; clear hK K))); (refine first_readG rfl (v := .agg #[.int .i64 AP.id, .int .i64 AP.v.e, .int .i64 AP.v.p, (.slice A r.v.l.length c), (.slice B r.log.length d), .int .i64 AP.joined, .int .i64 (AP.sure : Int), (.slice C5 (ackedL f (max a m.i.toNat) r.acks).length f5), .bool AP.act]) (fun w' hw' => ?_) (fun K hK => ?_); rotate_left 1; go_simp; refine hK _ _ ?_; clear hK K; rotate_left 1; (have hB' := Blk.kp (Blk.ext hB9 _) hw' hne; have c' := Blk.cell hB'; go_simp)); (repeat (first | (refine wfp fun K hK => ?_; go_simp; refine hK _ _ ?_; clear hK K) | (refine wff fun K hK => ?_; go_simp; refine hK _ _ ?_; clear hK K))); (have hbX := hb9.trans ((World.below_ext w9 X).mono hb9.size)); (have hkX : Kp (fun k => T k ∨ (w.heap.size ≤ k ∧ k ≤ w.heap.size + 1 + 1)) w9 (w9.ext X) := Kp.of_below (World.below_ext w9 X)); have hZX := hZ9.ext X; have hDX := hD9.kp hkX; (have hRX := hR9.kp hkX); (have hOX := hO9.kp hkX); clear hkX; generalize w9.ext X = V at *; (have c2 := hZX.cell); (have f2 := hZX.frozen); (have l2 := hZX.lt); (repeat (refine First.wpF_must (fun K hK => ?_); go_wp2; (refine hK _ _ (fun hnd => by first | exact Bool.noConfusion hnd | exact Kp.refl _ _) ?_; clear hK K); (repeat (first | (refine wfp fun K hK => ?_; go_simp; refine hK _ _ ?_; clear hK K) | (refine wff fun K hK => ?_; go_simp; refine hK _ _ ?_; clear hK K))))); (try (refine First.wpF_must (fun K hK => ?_); go_wp2; (refine hK _ _ (fun hnd => by first | exact Bool.noConfusion hnd | exact Kp.nine _ (w.heap.size + 1 + 1) _ _ _ _ _ _ _ _ _) ?_; clear hK K); (repeat (first | (refine wfp fun K hK => ?_; go_simp; refine hK _ _ ?_; clear hK K) | (refine wff fun K hK => ?_; go_simp; refine hK _ _ ?_; clear hK K))))); refine First.wpF_nil ?_; go_wp2; refine bodyPost_ttc Tryz.results18 rfl (Blk.nine hZX) Tryz.underlying34 rfl (by kernel_rfl) rfl ?_
  rw [hAP'.out]
  exact ⟨_, rfl, (hDX.kp (Kp.weaken (Kp.nine V (w.heap.size + 1 + 1) _ _ _ _ _ _ _ _ _) fun k hk => .inr (by omega))).sub fun k _ hk => .inl hk, hbX.trans (Kp.below (Kp.nine V (w.heap.size + 1 + 1) _ _ _ _ _ _ _ _ _) hbX.size (fun k hk => by omega))⟩
 ·have hv : ((max a m.i.toNat : Nat) : Int) = (a : Int) := by omega
  have d7 : decide ((a : Int) < m.i) = false := decide_eq_false hlt
  have hAc := fun W5 (hD5 : DrW W5 (fun k => T k ∨ (w.heap.size ≤ k ∧ k ≤ w.heap.size + 1 + 1)) (.slice A r.v.l.length c) (.slice B r.log.length d) (.slice C r.acks.length f0) r) (hT5 : ∀ k, (fun k => T k ∨ (w.heap.size ≤ k ∧ k ≤ w.heap.size + 1 + 1)) k → k < W5.heap.size) => dacked_any r f (max a m.i.toNat) _ _ _ W5 hD5 hT5 (by omega)
  have hSt := fun W5 va' (hD5 : DrW W5 (fun k => T k ∨ (w.heap.size ≤ k ∧ k ≤ w.heap.size + 1 + 1)) (.slice A r.v.l.length c) (.slice B r.log.length d) va' { r with acks := ackedL f (max a m.i.toNat) r.acks }) => show Calls Tryz.prog 41 #[.agg #[.int .i64 r.id, .int .i64 r.v.e, .int .i64 r.v.p, (.slice A r.v.l.length c), (.slice B r.log.length d), .int .i64 r.joined, .int .i64 (r.sure : Int), va', .bool r.act]] W5 (fun e w' => e = .returned (.agg #[.int .i64 (settleP { r with acks := ackedL f (max a m.i.toNat) r.acks }).id, .int .i64 (settleP { r with acks := ackedL f (max a m.i.toNat) r.acks }).v.e, .int .i64 (settleP { r with acks := ackedL f (max a m.i.toNat) r.acks }).v.p, (.slice A r.v.l.length c), (.slice B r.log.length d), .int .i64 (settleP { r with acks := ackedL f (max a m.i.toNat) r.acks }).joined, .int .i64 ((settleP { r with acks := ackedL f (max a m.i.toNat) r.acks }).sure : Int), va', .bool (settleP { r with acks := ackedL f (max a m.i.toNat) r.acks }).act]) ∧ DrW w' (fun k => T k ∨ (w.heap.size ≤ k ∧ k ≤ w.heap.size + 1 + 1)) (.slice A r.v.l.length c) (.slice B r.log.length d) va' (settleP { r with acks := ackedL f (max a m.i.toNat) r.acks }) ∧ Below W5.heap.size W5 w') from
   dsettle_any { r with acks := ackedL f (max a m.i.toNat) r.acks } _ _ va' W5 hD5 hok.n (by have := ack_len hokB.ak hokB.an; omega) (by have := hok.mem.2; show r.v.l.length ≤ 1000000; omega) (fun x hx => (hokB.ak x hx).1)
  rw [← hP.out] at hSt
  generalize hAPe : ackP r f m = AP at *
  have hAP' := hide hAPe
  clear hAPe
  rw [hv] at hAc
  clear hv
  replace hlt := hide hlt
  go_upto_region 32 with (first | (go_at_call 46; (with_reducible refine hAk.mono ?_); rintro e w4 ⟨rfl, hb4⟩; have hB4 := hB1.below hb4 l1; have c4 := hB4.cell; have l4 := hB4.lt; have hM4 := hM1.below hb4 lM1; have cM4 := hM4.cell; have lM4 := hM4.lt; have hs4 := hb4.size) | (go_at_call 40; (with_reducible refine (hAc w4 (hDW.kp (Kp.of_below hb4)) (fun k hk => by have := hTW k hk; omega)).mono ?_); rintro e w5 ⟨va5, rfl, hD5, hb5⟩; obtain ⟨C5, f5, rfl⟩ := hD5.sla; have hB5 := hB4.below hb5 l4; have c5 := hB5.cell; have fx5 := hB5.frozen; have l5 := hB5.lt) | (go_at_call 41; (with_reducible refine (hSt _ _ hD5).mono ?_); rintro e w6 ⟨rfl, hD6, hb6⟩; have hB6 := hB5.below hb6 l5; have c6 := hB6.cell; have f6 := hB6.frozen; have l6 := hB6.lt))
  have hs5 := hb5.size
  have hs6 := hb6.size
  have hb46 := hb4.trans ((hb5.trans (hb6.mono hs5)).mono hs4)
  have hb06 := hb1.trans (hb46.mono hs1)
  have hkN := Kp.nine w6 w.heap.size (.int .i64 AP.id) (.int .i64 AP.v.e) (.int .i64 AP.v.p) (.slice A r.v.l.length c) (.slice B r.log.length d) (.int .i64 AP.joined) (.int .i64 (AP.sure : Int)) (.slice C5 (ackedL f (max a m.i.toNat) r.acks).length f5) (.bool AP.act)
  refine abstr (fun W => Below w.heap.size w W ∧ Blk W w.heap.size 34 #[.int .i64 AP.id, .int .i64 AP.v.e, .int .i64 AP.v.p, (.slice A r.v.l.length c), (.slice B r.log.length d), .int .i64 AP.joined, .int .i64 (AP.sure : Int), (.slice C5 (ackedL f (max a m.i.toNat) r.acks).length f5), .bool AP.act] ∧ Blk W (w.heap.size + 1 + 1) 34 #[.int .i64 0, .int .i64 0, .int .i64 0, .slice none 0 0, .slice none 0 0, .int .i64 0, .int .i64 0, .slice none 0 0, .bool false] ∧ DrW W (fun k => T k ∨ (w.heap.size ≤ k ∧ k ≤ w.heap.size + 1 + 1)) (.slice A r.v.l.length c) (.slice B r.log.length d) (.slice C5 (ackedL f (max a m.i.toNat) r.acks).length f5) AP) ⟨hb06.trans (Kp.below hkN hb06.size (fun k hk => by omega)), Blk.nine hB6, Blk.kp (hZ1.below hb46 hZ1.lt) hkN (by omega), hD6.kp (hkN.weaken (fun k hk => .inr (by omega)))⟩ (fun w9 hW9 => ?_)
  clear hkN hb06 hb46 hs6 hs5 hB6 c6 f6 l6 hB5 c5 fx5 l5 hD6 hb6 hD5 hb5 hAk hAc hSt hB4 c4 l4 hM4 cM4 lM4 hs4 hb4
  obtain ⟨hb9, hB9, hZ9, hD9⟩ := hW9
  have lB9 := hB9.lt
  have lZ9 := hZ9.lt
  have hR9 : Recs w9 (fun k => T k ∨ (w.heap.size ≤ k ∧ k ≤ w.heap.size + 1 + 1)) none 0 [] := Recs.nil _ _
  have hO9 : Outs w9 (fun k => T k ∨ (w.heap.size ≤ k ∧ k ≤ w.heap.size + 1 + 1)) none 0 [] := Outs.nil _ _
  refine wp_region_kp (fun k => k = w.heap.size + 1 + 1) [0] [] [(true, true, 0), (false, true, 1), (false, true, 2), (false, false, 3)] (by kernel_rfl) (by kernel_rfl) (fun X => ?_); simp only [List.map_cons, List.map_nil, List.getD_cons_zero, List.getD_cons_succ]; (have hne : ¬(w.heap.size = w.heap.size + 1 + 1) := by omega); (repeat (first | (refine wfp fun K hK => ?_; go_simp; refine hK _ _ ?_; clear hK K) | (refine wff fun K hK => ?_; go_simp; refine hK _ _ ?_; clear hK K))); (refine first_readG rfl (v := .agg #[.int .i64 AP.id, .int .i64 AP.v.e, .int .i64 AP.v.p, (.slice A r.v.l.length c), (.slice B r.log.length d), .int .i64 AP.joined, .int .i64 (AP.sure : Int), (.slice C5 (ackedL f (max a m.i.toNat) r.acks).length f5), .bool AP.act]) (fun w' hw' => ?_) (fun K hK => ?_); rotate_left 1; go_simp; refine hK _ _ ?_; clear hK K; rotate_left 1; (have hB' := Blk.kp (Blk.ext hB9 _) hw' hne; have c' := Blk.cell hB'; go_simp)); (repeat (first | (refine wfp fun K hK => ?_; go_simp; refine hK _ _ ?_; clear hK K) | (refine wff fun K hK => ?_; go_simp; refine hK _ _ ?_; clear hK K))); (have hbX := hb9.trans ((World.below_ext w9 X).mono hb9.size)); (have hkX : Kp (fun k => T k ∨ (w.heap.size ≤ k ∧ k ≤ w.heap.size + 1 + 1)) w9 (w9.ext X) := Kp.of_below (World.below_ext w9 X)); have hZX := hZ9.ext X; have hDX := hD9.kp hkX; (have hRX := hR9.kp hkX); (have hOX := hO9.kp hkX); clear hkX; generalize w9.ext X = V at *; (have c2 := hZX.cell); (have f2 := hZX.frozen); (have l2 := hZX.lt); (repeat (refine First.wpF_must (fun K hK => ?_); go_wp2; (refine hK _ _ (fun hnd => by first | exact Bool.noConfusion hnd | exact Kp.refl _ _) ?_; clear hK K); (repeat (first | (refine wfp fun K hK => ?_; go_simp; refine hK _ _ ?_; clear hK K) | (refine wff fun K hK => ?_; go_simp; refine hK _ _ ?_; clear hK K))))); (try (refine First.wpF_must (fun K hK => ?_); go_wp2; (refine hK _ _ (fun hnd => by first | exact Bool.noConfusion hnd | exact Kp.nine _ (w.heap.size + 1 + 1) _ _ _ _ _ _ _ _ _) ?_; clear hK K); (repeat (first | (refine wfp fun K hK => ?_; go_simp; refine hK _ _ ?_; clear hK K) | (refine wff fun K hK => ?_; go_simp; refine hK _ _ ?_; clear hK K))))); refine First.wpF_nil ?_; go_wp2; refine bodyPost_ttc Tryz.results18 rfl (Blk.nine hZX) Tryz.underlying34 rfl (by kernel_rfl) rfl ?_
  rw [hAP'.out]
  exact ⟨_, rfl, (hDX.kp (Kp.weaken (Kp.nine V (w.heap.size + 1 + 1) _ _ _ _ _ _ _ _ _) fun k hk => .inr (by omega))).sub fun k _ hk => .inl hk, hbX.trans (Kp.below (Kp.nine V (w.heap.size + 1 + 1) _ _ _ _ _ _ _ _ _) hbX.size (fun k hk => by omega))⟩
end Go.Proofs.YtjhcgnmibnjocaaGreat
