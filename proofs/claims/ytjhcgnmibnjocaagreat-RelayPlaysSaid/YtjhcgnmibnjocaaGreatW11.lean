import Derived.Test.YtjhcgnmibnjocaaGreatW10
/-! The document's relay takes a whole log. -/
namespace Go.Proofs.YtjhcgnmibnjocaaGreat
open Go.RowKit Go.Maps
set_option linter.unusedVariables false
set_option linter.unusedSimpArgs false
theorem OwnR.recs2 {w : World} {T : Nat → Prop} {base : Nat} {v : Value} {l : List (List Nat)} (h : OwnR w T base v l) (hT : ∀ k, v.ownBlock = some k → ¬T k) : ∃ A n c, v = .slice A n c ∧ Recs w T A n l := by
 obtain ⟨A, c, e, hR⟩ := h.recs' hT
 exact ⟨A, _, c, e, hR⟩
set_option maxRecDepth 100000 in
set_option maxHeartbeats 40000000 in
theorem doffer_yes {T : Nat → Prop} (r : Rl) (f : Int) (m : Mg) (vm vl va mv ml : Value) (w : World) (h : DrW w T vm vl va r) (hm : MgW w T mv ml m) (hTl : ∀ k, T k → k < w.heap.size) (hok : r.ok) (hml : m.v.l.length ≤ 1000000) (hcm : ∀ A n c, ml = .slice A n c → n ≤ c) (hk : m.k = 1) (h1 : m.v.right = true) (d2 : (m.v.e != m.e) = false) (d3 : (m.v.p != f) = false) (d4 : (f == r.id) = false) (h5 : hasB m.v.l r.id = true)
  (d6 : decide ((4096 : Int) < m.log.length) = false) (d7 : decide (m.e < r.v.e) = false) (h8 : ((m.e == r.v.e) = false ∧ decide (r.v.e < m.e) = true) ∨ ((m.e == r.v.e) = true ∧ (r.v.p != f) = false ∧ decide (r.v.e < m.e) = false)) :
  Calls Tryz.prog 18 #[.agg #[.int .i64 r.id, .int .i64 r.v.e, .int .i64 r.v.p, vm, vl, .int .i64 r.joined, .int .i64 (r.sure : Int), va, .bool r.act], .int .i64 f, .agg #[.int .i64 m.k, .int .i64 m.e, .int .i64 m.v.e, .int .i64 m.v.p, mv, .int .i64 m.i, .int .i64 m.s, ml]] w fun e w' => ∃ vm' vl' va' A1 n1 c1 A2 n2 c2, e = .returned (.tuple #[.slice A1 n1 c1, .slice A2 n2 c2, .agg #[.int .i64 (hearP (offer2 (offer1 r m) m) m.s).id, .int .i64 (hearP (offer2 (offer1 r m) m) m.s).v.e, .int .i64 (hearP (offer2 (offer1 r m) m) m.s).v.p, vm', vl', .int .i64 (hearP (offer2 (offer1 r m) m) m.s).joined, .int .i64 ((hearP (offer2 (offer1 r m) m) m.s).sure : Int), va', .bool (hearP (offer2 (offer1 r m) m) m.s).act]]) ∧ Recs w' T A1 n1 (offerR r m ++ offer2R (offer1 r m) m) ∧ Outs w' T A2 n2 (hearO (offer2 (offer1 r m) m) f) ∧ DrW w' T vm' vl' va' (hearP (offer2 (offer1 r m) m) m.s) ∧ Below w.heap.size w w' := by
 have hk1 : (m.k == 1) = true := by rw [hk]; rfl
 replace hk := hide hk
 generalize g1 : offer1 r m = r1
 generalize g2 : offer2 r1 m = r2
 generalize g3 : offer2R r1 m = R2
 generalize g4 : offerR r m = R9
 have hr1 := hide g1
 have hr2 := hide g2
 have hR2 := hide g3
 have hR9 := hide g4
 have hok1 : r1.ok := by rw [← g1]; exact offer1_ok hok h1
 have hlg1 : r1.log = r.log := by rw [← g1]; exact offer1_log r m
 have hR9l : R9.length ≤ 1 := by rw [← g4]; unfold offerR; split <;> simp
 clear g1 g2 g3 g4
 have hml4 : m.log.length ≤ 4096 := by have := of_decide_eq_false d6; omega
 have he1 : I64 r1.v.e := by have := he64 hok1; unfold I64; omega
 have hl8 := rising_len (right_bd h1).2.2.1
 have hTs : ∀ k, w.heap.size ≤ k → ¬T k := fun k hk ht => by have := hTl k ht; omega
 have hD := h
 obtain ⟨A, c, B, d, C, f0, rfl, rfl, rfl⟩ := h.sl
 obtain ⟨Av, cv, Bv, dv, rfl, rfl, hrm, hnm, hEm⟩ := hm.sl
 have hR0 := Blk.new w 34 #[.int .i64 r.id, .int .i64 r.v.e, .int .i64 r.v.p, (.slice A r.v.l.length c), (.slice B r.log.length d), .int .i64 r.joined, .int .i64 (r.sure : Int), (.slice C r.acks.length f0), .bool r.act]
 have hM0 := Blk.made w (.cells #[.int .i64 r.id, .int .i64 r.v.e, .int .i64 r.v.p, (.slice A r.v.l.length c), (.slice B r.log.length d), .int .i64 r.joined, .int .i64 (r.sure : Int), (.slice C r.acks.length f0), .bool r.act] 34) 38 #[.int .i64 m.k, .int .i64 m.e, .int .i64 m.v.e, .int .i64 m.v.p, (.slice Av m.v.l.length cv), .int .i64 m.i, .int .i64 m.s, (.slice Bv m.log.length dv)]
 have hZ0 : Blk (((w.alloc (.cells #[.int .i64 r.id, .int .i64 r.v.e, .int .i64 r.v.p, (.slice A r.v.l.length c), (.slice B r.log.length d), .int .i64 r.joined, .int .i64 (r.sure : Int), (.slice C r.acks.length f0), .bool r.act] 34)).alloc (.cells #[.int .i64 m.k, .int .i64 m.e, .int .i64 m.v.e, .int .i64 m.v.p, (.slice Av m.v.l.length cv), .int .i64 m.i, .int .i64 m.s, (.slice Bv m.log.length dv)] 38)).alloc (.cells #[.int .i64 0, .int .i64 0, .int .i64 0, .slice none 0 0, .slice none 0 0, .int .i64 0, .int .i64 0, .slice none 0 0, .bool false] 34)) (w.heap.size + 1 + 1) 34 #[.int .i64 0, .int .i64 0, .int .i64 0, .slice none 0 0, .slice none 0 0, .int .i64 0, .int .i64 0, .slice none 0 0, .bool false] := by
  have := Blk.new ((w.alloc (.cells #[.int .i64 r.id, .int .i64 r.v.e, .int .i64 r.v.p, (.slice A r.v.l.length c), (.slice B r.log.length d), .int .i64 r.joined, .int .i64 (r.sure : Int), (.slice C r.acks.length f0), .bool r.act] 34)).alloc (.cells #[.int .i64 m.k, .int .i64 m.e, .int .i64 m.v.e, .int .i64 m.v.p, (.slice Av m.v.l.length cv), .int .i64 m.i, .int .i64 m.s, (.slice Bv m.log.length dv)] 38)) 34 #[.int .i64 0, .int .i64 0, .int .i64 0, .slice none 0 0, .slice none 0 0, .int .i64 0, .int .i64 0, .slice none 0 0, .bool false]
  simpa using this
 clear h
 have hcap := hcm _ _ _ rfl
 clear hcm
 have hRt := fun W (hW : Below w.heap.size w W) => rvright_any m.v.e m.v.p Av m.v.l.length cv m.v.l W (Reads.kp hrm (Kp.of_below (S := fun _ => False) hW) (fun _ _ _ h => h)) (by omega)
 have hCt := fun W (hW : Below w.heap.size w W) => rhas_any Av m.v.l.length cv m.v.l r.id W (Reads.kp hrm (Kp.of_below (S := fun _ => False) hW) (fun _ _ _ h => h)) (by omega)
 rw [h5] at hCt
 have h1v := hide h1
 unfold Vi.right at h1
 rw [h1] at hRt
 clear h1 h5
 have hlg := hide hlg1
 clear hlg1
 rcases h8 with ⟨d8, d10⟩ | ⟨d8, d9, d10⟩
 ·have e1 : r1 = promiseP r m.v := by rw [← hr1.out]; unfold offer1; rw [if_pos (by simpa using d10)]
  have e2 : R9 = [recPromiseP m.v] := by rw [← hR9.out]; unfold offerR; rw [if_pos (by simpa using d10)]
  have E1 := hide e1
  have E2 := hide e2
  clear hR9 hr1 e1 e2
  have hV0 : Blk ((((w.alloc (.cells #[.int .i64 r.id, .int .i64 r.v.e, .int .i64 r.v.p, (.slice A r.v.l.length c), (.slice B r.log.length d), .int .i64 r.joined, .int .i64 (r.sure : Int), (.slice C r.acks.length f0), .bool r.act] 34)).alloc (.cells #[.int .i64 m.k, .int .i64 m.e, .int .i64 m.v.e, .int .i64 m.v.p, (.slice Av m.v.l.length cv), .int .i64 m.i, .int .i64 m.s, (.slice Bv m.log.length dv)] 38)).alloc (.cells #[.int .i64 0, .int .i64 0, .int .i64 0, .slice none 0 0, .slice none 0 0, .int .i64 0, .int .i64 0, .slice none 0 0, .bool false] 34)).alloc (.cells #[.int .i64 m.v.e, .int .i64 m.v.p, .slice Av m.v.l.length cv] 30)) (w.heap.size + 1 + 1 + 1) 30 #[.int .i64 m.v.e, .int .i64 m.v.p, .slice Av m.v.l.length cv] := by
   have := Blk.new (((w.alloc (.cells #[.int .i64 r.id, .int .i64 r.v.e, .int .i64 r.v.p, (.slice A r.v.l.length c), (.slice B r.log.length d), .int .i64 r.joined, .int .i64 (r.sure : Int), (.slice C r.acks.length f0), .bool r.act] 34)).alloc (.cells #[.int .i64 m.k, .int .i64 m.e, .int .i64 m.v.e, .int .i64 m.v.p, (.slice Av m.v.l.length cv), .int .i64 m.i, .int .i64 m.s, (.slice Bv m.log.length dv)] 38)).alloc (.cells #[.int .i64 0, .int .i64 0, .int .i64 0, .slice none 0 0, .slice none 0 0, .int .i64 0, .int .i64 0, .slice none 0 0, .bool false] 34)) 30 #[.int .i64 m.v.e, .int .i64 m.v.p, .slice Av m.v.l.length cv]
   simpa using this
  go_enter Tryz.func18, Tryz.ntmps18
  go_upto_if 87 with (first | (go_at_call 29; (with_reducible refine (hRt _ (by (repeat' (first | with_reducible (first | exact Below.refl _ _ | refine Below.ext ?_ ?_ _ | refine Below.alloc ?_ ?_ _ | refine Below.setCell ?_ ?_ _ | refine Below.drew ?_ | assumption) | (simp [World.size_ext]; done) | (simp [World.size_ext]; omega))))).mono ?_); rintro e w' ⟨rfl, hb⟩; obtain ⟨X, rfl⟩ := World.ext_of_below hb; clear hb) | (go_at_call 38; (with_reducible refine (hLt _ (by (repeat' (first | with_reducible (first | exact Below.refl _ _ | refine Below.ext ?_ ?_ _ | refine Below.alloc ?_ ?_ _ | refine Below.setCell ?_ ?_ _ | refine Below.drew ?_ | assumption) | (simp [World.size_ext]; done) | (simp [World.size_ext]; omega))))).mono ?_); rintro e w' ⟨rfl, hb⟩; obtain ⟨X, rfl⟩ := World.ext_of_below hb; clear hb) | (go_at_call 51; (with_reducible refine (hCt _ (by (repeat' (first | with_reducible (first | exact Below.refl _ _ | refine Below.ext ?_ ?_ _ | refine Below.alloc ?_ ?_ _ | refine Below.setCell ?_ ?_ _ | refine Below.drew ?_ | assumption) | (simp [World.size_ext]; done) | (simp [World.size_ext]; omega))))).mono ?_); rintro e w' ⟨rfl, rfl⟩))
  refine abstr (fun W => Below w.heap.size w W ∧ Blk W w.heap.size 34 #[.int .i64 r.id, .int .i64 r.v.e, .int .i64 r.v.p, (.slice A r.v.l.length c), (.slice B r.log.length d), .int .i64 r.joined, .int .i64 (r.sure : Int), (.slice C r.acks.length f0), .bool r.act] ∧ Blk W (w.heap.size + 1) 38 #[.int .i64 m.k, .int .i64 m.e, .int .i64 m.v.e, .int .i64 m.v.p, (.slice Av m.v.l.length cv), .int .i64 m.i, .int .i64 m.s, (.slice Bv m.log.length dv)] ∧ Blk W (w.heap.size + 1 + 1) 34 #[.int .i64 0, .int .i64 0, .int .i64 0, .slice none 0 0, .slice none 0 0, .int .i64 0, .int .i64 0, .slice none 0 0, .bool false] ∧ Blk W (w.heap.size + 1 + 1 + 1) 30 #[.int .i64 m.v.e, .int .i64 m.v.p, .slice Av m.v.l.length cv]) ⟨by (repeat' (first | with_reducible (first | exact Below.refl _ _ | refine Below.ext ?_ ?_ _ | refine Below.alloc ?_ ?_ _ | refine Below.setCell ?_ ?_ _ | refine Below.drew ?_ | assumption) | (simp [World.size_ext]; done) | (simp [World.size_ext]; omega))), by (repeat' (first | with_reducible (first | exact hR0 | refine Blk.ext ?_ _ | refine Blk.alloc ?_ _ | apply Blk.set_to | refine Blk.far ?_ ?_ _) | rfl | (simp [World.size_ext]; done) | (simp [World.size_ext]; omega))), by (repeat' (first | with_reducible (first | exact hM0 | refine Blk.ext ?_ _ | refine Blk.alloc ?_ _ | apply Blk.set_to | refine Blk.far ?_ ?_ _) | rfl | (simp [World.size_ext]; done) | (simp [World.size_ext]; omega))), by (repeat' (first | with_reducible (first | exact hZ0 | refine Blk.ext ?_ _ | refine Blk.alloc ?_ _ | apply Blk.set_to | refine Blk.far ?_ ?_ _) | rfl | (simp [World.size_ext]; done) | (simp [World.size_ext]; omega))), by (repeat' (first | with_reducible (first | exact hV0 | refine Blk.ext ?_ _ | refine Blk.alloc ?_ _ | apply Blk.set_to | refine Blk.far ?_ ?_ _) | rfl | (simp [World.size_ext]; done) | (simp [World.size_ext]; omega)))⟩ (fun w1 hW => ?_)
  clear hR0 hM0 hZ0 hV0 hRt hCt
  obtain ⟨hb1, hB1, hM1, hZ1, hV1⟩ := hW
  have s1 := hb1.size
  have lB1 := hB1.lt
  have lM1 := hM1.lt
  have lZ1 := hZ1.lt
  have lV1 := hV1.lt
  have cB1 := hB1.cell
  have cV1 := hV1.cell
  have hDT : DrW w1 (fun k => T k ∨ (w.heap.size ≤ k ∧ k ≤ w.heap.size + 1 + 1)) _ _ _ r := (hD.sub (T' := (fun k => T k ∨ (w.heap.size ≤ k ∧ k ≤ w.heap.size + 1 + 1))) (fun k hk ht => ht.elim id (fun h => by omega))).kp (Kp.of_below hb1)
  have hT1 : ∀ k, (fun k => T k ∨ (w.heap.size ≤ k ∧ k ≤ w.heap.size + 1 + 1)) k → k < w1.heap.size := fun k hk => hk.elim (fun h => by have := hTl k h; omega) (fun h => by omega)
  have hAl : 0 < m.v.l.length → ∀ a, Av = some a → a.block < w.heap.size := fun h0 a ha => by
   obtain ⟨a', e', hl', _⟩ := hrm.2 h0
   rw [ha] at e'; cases e'; exact hl'
  have hPr := dpromise_any (T := (fun k => T k ∨ (w.heap.size ≤ k ∧ k ≤ w.heap.size + 1 + 1))) r m.v _ _ _ Av cv w1 hDT hT1 (Reads.kp hrm (Kp.of_below (S := fun _ => False) hb1) (fun _ _ _ h => h)) (fun h0 a ha ht => ht.elim (hnm h0 a ha) (fun h => by have := hAl h0 a ha; omega)) hok.n (by omega)
  rw [← E1.out] at hPr
  clear hAl
  go_upto_region 11 with (go_at_call 31; (with_reducible refine hPr.mono ?_); rintro e w2 ⟨va2, rfl, hD2, hb2⟩; obtain ⟨C1, fC1, rfl⟩ := hD2.sla; have hB2 := hB1.below hb2 lB1; have c2 := hB2.cell; have f2 := hB2.frozen; have l2 := hB2.lt)
  have hRP := fun W (hW : Below w.heap.size w W) => drecPromise_any Av cv m.v W (Reads.kp hrm (Kp.of_below (S := fun _ => False) hW) (fun _ _ _ h => h)) h1v.out (fun x hx => by have := rising_mem (right_bd h1v.out).2.2.1 x hx; unfold I64; omega) (by omega) (by have := rising_mem (right_bd h1v.out).2.2.1 _ (right_bd h1v.out).2.2.2; unfold I64; omega)
  have s2 := hb2.size
  have hkN := Kp.nine w2 w.heap.size (.int .i64 r1.id) (.int .i64 r1.v.e) (.int .i64 r1.v.p) (.slice Av m.v.l.length cv) (.slice B r.log.length d) (.int .i64 r1.joined) (.int .i64 (r1.sure : Int)) (.slice C1 r1.acks.length fC1) (.bool r1.act)
  have hb12 := hb1.trans (hb2.mono s1)
  refine abstr (fun W => Below w.heap.size w W ∧ Blk W w.heap.size 34 #[.int .i64 r1.id, .int .i64 r1.v.e, .int .i64 r1.v.p, (.slice Av m.v.l.length cv), (.slice B r.log.length d), .int .i64 r1.joined, .int .i64 (r1.sure : Int), (.slice C1 r1.acks.length fC1), .bool r1.act] ∧ Blk W (w.heap.size + 1) 38 #[.int .i64 m.k, .int .i64 m.e, .int .i64 m.v.e, .int .i64 m.v.p, (.slice Av m.v.l.length cv), .int .i64 m.i, .int .i64 m.s, (.slice Bv m.log.length dv)] ∧ Blk W (w.heap.size + 1 + 1) 34 #[.int .i64 0, .int .i64 0, .int .i64 0, .slice none 0 0, .slice none 0 0, .int .i64 0, .int .i64 0, .slice none 0 0, .bool false] ∧ Blk W (w.heap.size + 1 + 1 + 1) 30 #[.int .i64 m.v.e, .int .i64 m.v.p, .slice Av m.v.l.length cv] ∧ DrW W (fun k => T k ∨ (w.heap.size ≤ k ∧ k ≤ w.heap.size + 1 + 1)) (.slice Av m.v.l.length cv) (.slice B r.log.length d) (.slice C1 r1.acks.length fC1) r1) ⟨hb12.trans (Kp.below hkN hb12.size (fun k hk => by omega)), Blk.nine hB2, Blk.kp (hM1.below hb2 lM1) hkN (by omega), Blk.kp (hZ1.below hb2 lZ1) hkN (by omega), Blk.kp (hV1.below hb2 lV1) hkN (by omega), hD2.kp (hkN.weaken (fun k hk => .inr (by omega)))⟩ (fun w3 hW3 => ?_)
  clear hkN hb12 s2 hB2 c2 f2 l2 hD2 hb2 hPr hDT hT1 cB1 cV1 lB1 lM1 lZ1 lV1 s1 hb1 hB1 hM1 hZ1 hV1
  obtain ⟨hb3, hB3, hM3, hZ3, hV3, hD3⟩ := hW3
  have s3 := hb3.size
  have lB3 := hB3.lt
  have lM3 := hM3.lt
  have lZ3 := hZ3.lt
  have lV3 := hV3.lt
  have cV3 := hV3.cell
  have hT3 : ∀ k, (fun k => T k ∨ (w.heap.size ≤ k ∧ k ≤ w.heap.size + 1 + 1)) k → k < w3.heap.size := fun k hk => hk.elim (fun h => by have := hTl k h; omega) (fun h => by omega)
  have hby := recPromise_by h1v.out
  go_upto_region 12 with (first | (go_at_call 30; (with_reducible refine (hRP w3 hb3).mono ?_); rintro e w4 ⟨u, rfl, hRow, hb4⟩; obtain ⟨uA, uc, rfl, _⟩ := own_sl hRow; have hbs4 : Bsl w4 (fun k => (fun k => T k ∨ (w.heap.size ≤ k ∧ k ≤ w.heap.size + 1 + 1)) k ∨ (Value.slice none 0 0).ownBlock = some k) (.slice uA (recPromiseP m.v).length uc) (recPromiseP m.v) := (Bsl.row hRow (T := (fun k => T k ∨ (w.heap.size ≤ k ∧ k ≤ w.heap.size + 1 + 1))) hT3 hby).sub (fun k _ hk => hk.elim id (fun e => by cases e)); have s4 := hb4.size) | (at_builtin; refine app_rec rfl (.tmp 91) (.tmp 94) rfl (fun k => T k ∨ (w.heap.size ≤ k ∧ k ≤ w.heap.size + 1 + 1)) (w.heap.size + 1 + 1 + 1) (.slice none 0 0) [] (recPromiseP m.v, .slice uA (recPromiseP m.v).length uc) _ rfl rfl (OwnR.nil _ _ _) hbs4 _ rfl rfl (by simp) (by omega) (fun v' w6 hR6 hc6 hk6 => ?_)))
  have hbA : Below w4.heap.size w4 (w4.alloc (.cells #[.slice uA (recPromiseP m.v).length uc] 36)) := Below.alloc (Below.refl _ _) (Nat.le_refl _) _
  have hb6 : Below (w4.alloc (.cells #[.slice uA (recPromiseP m.v).length uc] 36)).heap.size (w4.alloc (.cells #[.slice uA (recPromiseP m.v).length uc] 36)) w6 := ⟨hk6.os, hk6.tape, hk6.output, hk6.size, fun k hk => hk6.block k hk (by simp [Value.ownBlock])⟩
  have hb46 := hbA.trans (hb6.mono (by simp only [World.size_alloc]; omega))
  have hb36 := hb4.trans (hb46.mono s4)
  have hge6 : ∀ k, v'.ownBlock = some k → w3.heap.size ≤ k := fun k hk => by
   rcases hc6.lies with h | ⟨b, h, hb⟩
   ·rw [h] at hk; cases hk
   ·rw [h] at hk; cases hk; omega
  obtain ⟨A9, n9, c9, rfl, _⟩ := OwnR.recs2 hR6 (fun k hk hT => by have := hge6 k hk; have := hT3 k hT; omega)
  have hD6 : DrW w6 (fun k => (fun k => T k ∨ (w.heap.size ≤ k ∧ k ≤ w.heap.size + 1 + 1)) k ∨ (Value.slice A9 n9 c9).ownBlock = some k) _ _ _ r1 := ((hD3.sub (T' := fun k => (fun k => T k ∨ (w.heap.size ≤ k ∧ k ≤ w.heap.size + 1 + 1)) k ∨ w3.heap.size ≤ k) (fun k hk ht => ht.elim id (fun h => by omega))).kp (Kp.of_below hb36)).sub (T' := (fun k => (fun k => T k ∨ (w.heap.size ≤ k ∧ k ≤ w.heap.size + 1 + 1)) k ∨ (Value.slice A9 n9 c9).ownBlock = some k)) (fun k _ hk => hk.imp id (hge6 k))
  obtain ⟨A1, cA1, B1', cB1', C1', fC1', eA, eB', eC'⟩ := hD6.sl
  have eL : r.log.length = r1.log.length := by rw [hlg.out]
  have hB6 := hB3.below hb36 lB3
  rw [eA, eL] at hB6 hD6
  refine abstr (fun W => Below w.heap.size w W ∧ Blk W w.heap.size 34 #[.int .i64 r1.id, .int .i64 r1.v.e, .int .i64 r1.v.p, (.slice A1 r1.v.l.length cA1), (.slice B r1.log.length d), .int .i64 r1.joined, .int .i64 (r1.sure : Int), (.slice C1 r1.acks.length fC1), .bool r1.act] ∧ Blk W (w.heap.size + 1) 38 #[.int .i64 m.k, .int .i64 m.e, .int .i64 m.v.e, .int .i64 m.v.p, (.slice Av m.v.l.length cv), .int .i64 m.i, .int .i64 m.s, (.slice Bv m.log.length dv)] ∧ Blk W (w.heap.size + 1 + 1) 34 #[.int .i64 0, .int .i64 0, .int .i64 0, .slice none 0 0, .slice none 0 0, .int .i64 0, .int .i64 0, .slice none 0 0, .bool false] ∧ w.heap.size + 1 + 1 + 1 ≤ W.heap.size ∧ OwnR W (fun k => T k ∨ (w.heap.size ≤ k ∧ k ≤ w.heap.size + 1 + 1)) (w.heap.size + 1 + 1 + 1) (.slice A9 n9 c9) R9 ∧ DrW W (fun k => (fun k => T k ∨ (w.heap.size ≤ k ∧ k ≤ w.heap.size + 1 + 1)) k ∨ (Value.slice A9 n9 c9).ownBlock = some k) (.slice A1 r1.v.l.length cA1) (.slice B r1.log.length d) (.slice C1 r1.acks.length fC1) r1) ⟨hb3.trans (hb36.mono s3), hB6, hM3.below hb36 lM3, hZ3.below hb36 lZ3, by have := hb36.size; omega, by rw [E2.out]; exact hR6, hD6⟩ (fun w5 hW5 => ?_)
  clear E1 E2 eA eB' eC' eL hB6 hD6 hge6 hb36 hb46 hb6 hbA hk6 hc6 hR6 hbs4 hRow hb4 s4 hby hT3 cV3 lV3 lZ3 lM3 lB3 s3 hRP hb3 hB3 hM3 hZ3 hV3 hD3
  obtain ⟨hb5, hB5, hM5, hZ5, hs5, hR5, hD5⟩ := hW5
  have lB5 := hB5.lt
  have lM5 := hM5.lt
  have lZ5 := hZ5.lt
  have s5 := hb5.size
  have cB5 := hB5.cell
  have cM5 := hM5.cell
  have fB5 := hB5.frozen
  have hmok := hEm.okAll
  have hRl := fun W (hW : Below w.heap.size w W) => drecLog_any (T := fun k => T k ∨ w.heap.size ≤ k) r1.v.e Bv m.log.length dv m.log W ((hEm.sub (T' := fun k => T k ∨ w.heap.size ≤ k) (fun k hk ht => ht.elim id (fun h => by omega))).kp (Kp.of_below hW)) hml4 he1
  have hkW : Kp (fun k => k = w.heap.size) w5 ((w5.setCell ⟨w.heap.size, 5, none⟩ (.int .i64 r1.v.e)).setCell ⟨w.heap.size, 4, none⟩ (.slice Bv m.log.length dv)) := (Kp.put w5 w.heap.size 5 _).trans (Kp.put _ w.heap.size 4 _)
  have hRW := hR5.kp hkW (fun k hk => .inr (by omega)) (fun k hk e => by have := (hR5.lt k hk).1; omega)
  by_cases t1 : r1.joined = r1.v.e
  ·have q1 : (r1.joined != r1.v.e) = false := by simpa using t1
   by_cases t2 : r1.log.length ≤ m.log.length
   ·have q2 : decide ((r1.log.length : Int) ≤ m.log.length) = true := by simp; omega
    have htk := hide (show takes r1 m = true by unfold takes; rw [decide_eq_true t2, Bool.or_true])
    replace t1 := hide t1
    have hr2' := hide <| show r2 = { r1 with joined := r1.v.e, log := m.log } by rw [← hr2.out]; unfold offer2; rw [if_pos htk.out]
    have hR2' := hide <| show R2 = [recLogP r1.v.e m.log] by rw [← hR2.out]; unfold offer2R; rw [if_pos htk.out]
    clear htk hr2 hR2
    go_upto_region 16 with (first | (go_at_call 52; (with_reducible refine (hRl _ (by (repeat' (first | with_reducible (first | exact Below.refl _ _ | refine Below.ext ?_ ?_ _ | refine Below.alloc ?_ ?_ _ | refine Below.setCell ?_ ?_ _ | refine Below.drew ?_ | assumption) | (simp [World.size_ext]; done) | (simp [World.size_ext]; omega))))).mono ?_); rintro e w6 ⟨u, rfl, hRow, hb6⟩; obtain ⟨uA, uc, rfl, _⟩ := own_sl hRow; have hbs6 : Bsl w6 (fun k => (fun k => T k ∨ (w.heap.size ≤ k ∧ k ≤ w.heap.size + 1 + 1)) k ∨ (Value.slice A9 n9 c9).ownBlock = some k) (.slice uA (recLogP r1.v.e m.log).length uc) (recLogP r1.v.e m.log) := Bsl.row hRow (T := (fun k => (fun k => T k ∨ (w.heap.size ≤ k ∧ k ≤ w.heap.size + 1 + 1)) k ∨ (Value.slice A9 n9 c9).ownBlock = some k)) (fun k hk => by simp only [World.size_setCell]; exact hk.elim (fun h => h.elim (fun h => by have := hTl k h; omega) (fun h => by omega)) (fun h => (hR5.lt k h).2)) (recLog_by he1 hmok hml4)) | (at_builtin; go_loud (refine app_rec rfl (.tmp 118) (.tmp 124) rfl (fun k => T k ∨ (w.heap.size ≤ k ∧ k ≤ w.heap.size + 1 + 1)) (w.heap.size + 1 + 1 + 1) (.slice A9 n9 c9) R9 (recLogP r1.v.e m.log, .slice uA (recLogP r1.v.e m.log).length uc) _ rfl rfl (hRW.below hb6) hbs6 _ rfl rfl (by omega) (by have := hb6.size; simp only [World.size_setCell] at this; omega) (fun v' w7 hR7 hc7 hk7 => ?_))))
    have s6 := hb6.size
    have hW5 := hkW.size
    have hbA : Below w6.heap.size w6 (w6.alloc (.cells #[.slice uA (recLogP r1.v.e m.log).length uc] 36)) := Below.alloc (Below.refl _ _) (Nat.le_refl _) _
    have hk57 := ((hkW.weaken (T := fun k => k = w.heap.size ∨ (Value.slice A9 n9 c9).ownBlock = some k) (fun k hk => .inl hk)).trans (Kp.of_below (hb6.trans (hbA.mono s6)))).trans (hk7.weaken (fun k hk => .inr hk))
    have hb57 := Kp.below hk57 (show w.heap.size ≤ w5.heap.size by omega) (fun k hk => hk.elim (fun h => by omega) (fun h => by have := (hR5.lt k h).1; omega))
    have hbw7 : Below w.heap.size w w7 := hb5.trans hb57
    have hE7 : Ents w7 (fun k => (fun k => T k ∨ (w.heap.size ≤ k ∧ k ≤ w.heap.size + 1 + 1)) k ∨ (Value.slice A9 n9 c9).ownBlock = some k) Bv m.log.length m.log := ((hEm.sub (T' := fun k => T k ∨ w.heap.size ≤ k) (fun k hk ht => ht.elim id (fun h => by omega))).kp (Kp.of_below hbw7)).sub (fun k _ hk => hk.elim (fun h => h.elim .inl (fun h => .inr h.1)) (fun h => .inr (by have := (hR5.lt k h).1; omega)))
    have hD7 := ((hD5.kp (hk57.weaken (T := (fun k => (fun k => T k ∨ (w.heap.size ≤ k ∧ k ≤ w.heap.size + 1 + 1)) k ∨ (Value.slice A9 n9 c9).ownBlock = some k)) (fun k hk => hk.elim (fun h => .inl (.inr (by omega))) .inr))).relog hE7 hcap r1.v.e).sub (T' := (fun k => T k ∨ (w.heap.size ≤ k ∧ k ≤ w.heap.size + 1 + 1))) (fun k _ hk => .inl hk)
    obtain ⟨A8, n8, c8, rfl, hRc8⟩ := OwnR.recs2 hR7 (fun k hk hT => by have := (hR7.lt k hk).1; exact hT.elim (fun h => by have := hTl k h; omega) (fun h => by omega))
    have hn7 : ∀ k, k < w5.heap.size → k ≠ w.heap.size → (Value.slice A9 n9 c9).ownBlock ≠ some k → w7.heap[k]? = w5.heap[k]? := fun k hk h1 h2 => hk57.block k hk (fun e => e.elim h1 h2)
    have hB6 := ((hB5.set_ 5 (.int .i64 r1.v.e)).set_ 4 (.slice Bv m.log.length dv)).below hb6 (by simp only [World.size_setCell]; exact lB5)
    have hB7 : Blk w7 w.heap.size 34 _ := (hc7.block w.heap.size hB6.lt (fun e => by have := (hR5.lt _ e).1; omega)).trans hB6
    refine abstr (fun W => Below w.heap.size w W ∧ Blk W w.heap.size 34 #[.int .i64 r2.id, .int .i64 r2.v.e, .int .i64 r2.v.p, (.slice A1 r1.v.l.length cA1), (.slice Bv m.log.length dv), .int .i64 r2.joined, .int .i64 (r2.sure : Int), (.slice C1 r1.acks.length fC1), .bool r2.act] ∧ Blk W (w.heap.size + 1) 38 #[.int .i64 m.k, .int .i64 m.e, .int .i64 m.v.e, .int .i64 m.v.p, (.slice Av m.v.l.length cv), .int .i64 m.i, .int .i64 m.s, (.slice Bv m.log.length dv)] ∧ Blk W (w.heap.size + 1 + 1) 34 #[.int .i64 0, .int .i64 0, .int .i64 0, .slice none 0 0, .slice none 0 0, .int .i64 0, .int .i64 0, .slice none 0 0, .bool false] ∧ DrW W (fun k => T k ∨ (w.heap.size ≤ k ∧ k ≤ w.heap.size + 1 + 1)) (.slice A1 r1.v.l.length cA1) (.slice Bv m.log.length dv) (.slice C1 r1.acks.length fC1) r2 ∧ Recs W (fun k => T k ∨ (w.heap.size ≤ k ∧ k ≤ w.heap.size + 1 + 1)) A8 n8 (R9 ++ R2)) ⟨hbw7, by rw [hr2'.out]; exact hB7, (hn7 _ lM5 (by omega) (fun e => by have := (hR5.lt _ e).1; omega)).trans hM5, (hn7 _ lZ5 (by omega) (fun e => by have := (hR5.lt _ e).1; omega)).trans hZ5, by rw [hr2'.out]; exact hD7, by rw [hR2'.out]; exact hRc8⟩ (fun w8 hW8 => ?_)
    clear hB7 hB6 hn7 hRc8 hD7 hE7 hbw7 hb57 hk57 hbA hW5 s6 hR7 hc7 hk7 hbs6 hRow hb6 hRW hkW hRl hR5 hD5 hB5 hM5 hZ5 hb5 cB5 cM5 fB5 lB5 lM5 lZ5 s5
    obtain ⟨hb8, hB8, hM8, hZ8, hD8, hR8⟩ := hW8
    obtain ⟨A2, cA2, B2, cB2, C2, cC2, eA, eB, eC⟩ := hD8.sl
    rw [eA, eB, eC] at hB8 hD8
    clear eA eB eC
    have sB8 := hb8.size
    have cB8 := hB8.cell
    have lB8 := hB8.lt
    have cM8 := hM8.cell
    have lM8 := hM8.lt
    have lZ8 := hZ8.lt
    have hT8 : ∀ k, (fun k => T k ∨ (w.heap.size ≤ k ∧ k ≤ w.heap.size + 1 + 1)) k → k < w8.heap.size := fun k hk => hk.elim (fun h => by have := hTl k h; omega) (fun h => by omega)
    have hHr := dhear_any r2 f m.s (.slice A2 r2.v.l.length cA2) (.slice B2 r2.log.length cB2) (.slice C2 r2.acks.length cC2) w8 hD8 hT8
    go_upto_region 17 with (go_at_call 53; (with_reducible refine hHr.mono ?_); rintro e w5 ⟨Ah, rfl, hO5, hD5, hb5⟩)
    have s5 := hb5.size
    have hbA : Below w5.heap.size w5 (w5.alloc (.cells #[.int .i64 (hearP r2 m.s).id, .int .i64 (hearP r2 m.s).v.e, .int .i64 (hearP r2 m.s).v.p, (.slice A2 r2.v.l.length cA2), (.slice B2 r2.log.length cB2), .int .i64 (hearP r2 m.s).joined, .int .i64 ((hearP r2 m.s).sure : Int), (.slice C2 r2.acks.length cC2), .bool (hearP r2 m.s).act] 34)) := Below.alloc (Below.refl _ _) (Nat.le_refl _) _
    have hb85 := hb5.trans (hbA.mono s5)
    refine abstr (fun W => Below w.heap.size w W ∧ Blk W w5.heap.size 34 #[.int .i64 (hearP r2 m.s).id, .int .i64 (hearP r2 m.s).v.e, .int .i64 (hearP r2 m.s).v.p, (.slice A2 r2.v.l.length cA2), (.slice B2 r2.log.length cB2), .int .i64 (hearP r2 m.s).joined, .int .i64 ((hearP r2 m.s).sure : Int), (.slice C2 r2.acks.length cC2), .bool (hearP r2 m.s).act] ∧ Blk W (w.heap.size + 1 + 1) 34 #[.int .i64 0, .int .i64 0, .int .i64 0, .slice none 0 0, .slice none 0 0, .int .i64 0, .int .i64 0, .slice none 0 0, .bool false] ∧ DrW W (fun k => T k ∨ (w.heap.size ≤ k ∧ k ≤ w.heap.size + 1 + 1)) (.slice A2 r2.v.l.length cA2) (.slice B2 r2.log.length cB2) (.slice C2 r2.acks.length cC2) (hearP r2 m.s) ∧ Recs W (fun k => T k ∨ (w.heap.size ≤ k ∧ k ≤ w.heap.size + 1 + 1)) A8 n8 (R9 ++ R2) ∧ Outs W (fun k => T k ∨ (w.heap.size ≤ k ∧ k ≤ w.heap.size + 1 + 1)) Ah 1 (hearO r2 f)) ⟨hb8.trans (hb85.mono sB8), Blk.new _ _ _, hZ8.below hb85 lZ8, hD5.kp (Kp.of_below hbA), hR8.kp (Kp.of_below hb85), hO5.kp (Kp.of_below hbA)⟩ (fun w9 hW9 => ?_)
    have hq5 : w.heap.size + 1 + 1 < w5.heap.size := by omega
    clear hbA hb85 hD5 hO5 hb5 hHr hT8 cB8 cM8 s5
    generalize w5.heap.size = q at *
    obtain ⟨hb9, hB9, hZ9, hD9, hR9, hO9⟩ := hW9
    have lB9 := hB9.lt
    have lZ9 := hZ9.lt
    refine wp_region_kp (fun k => k = w.heap.size + 1 + 1) [2] [0, 1] [(true, false, 0), (true, false, 1), (true, true, 2), (false, true, 3), (false, true, 4), (false, false, 5)] (by kernel_rfl) (by kernel_rfl) (fun X => ?_); simp only [List.map_cons, List.map_nil, List.getD_cons_zero, List.getD_cons_succ]; (have hne : ¬(q = w.heap.size + 1 + 1) := by omega); (repeat (first | (refine wfp fun K hK => ?_; go_simp; refine hK _ _ ?_; clear hK K) | (refine wff fun K hK => ?_; go_simp; refine hK _ _ ?_; clear hK K))); (refine first_readG rfl (v := .agg #[.int .i64 (hearP r2 m.s).id, .int .i64 (hearP r2 m.s).v.e, .int .i64 (hearP r2 m.s).v.p, (.slice A2 r2.v.l.length cA2), (.slice B2 r2.log.length cB2), .int .i64 (hearP r2 m.s).joined, .int .i64 ((hearP r2 m.s).sure : Int), (.slice C2 r2.acks.length cC2), .bool (hearP r2 m.s).act]) (fun w' hw' => ?_) (fun K hK => ?_); rotate_left 1; go_simp; refine hK _ _ ?_; clear hK K; rotate_left 1; (have hB' := Blk.kp (Blk.ext hB9 _) hw' hne; have c' := Blk.cell hB'; go_simp)); (repeat (first | (refine wfp fun K hK => ?_; go_simp; refine hK _ _ ?_; clear hK K) | (refine wff fun K hK => ?_; go_simp; refine hK _ _ ?_; clear hK K))); (have hbX := hb9.trans ((World.below_ext w9 X).mono hb9.size)); (have hkX : Kp (fun k => T k ∨ (w.heap.size ≤ k ∧ k ≤ w.heap.size + 1 + 1)) w9 (w9.ext X) := Kp.of_below (World.below_ext w9 X)); have hZX := hZ9.ext X; have hDX := hD9.kp hkX; (have hRX := hR9.kp hkX); (have hOX := hO9.kp hkX); clear hkX; generalize w9.ext X = V at *; (have c2 := hZX.cell); (have f2 := hZX.frozen); (have l2 := hZX.lt); (repeat (refine First.wpF_must (fun K hK => ?_); go_wp2; (refine hK _ _ (fun hnd => by first | exact Bool.noConfusion hnd | exact Kp.refl _ _) ?_; clear hK K); (repeat (first | (refine wfp fun K hK => ?_; go_simp; refine hK _ _ ?_; clear hK K) | (refine wff fun K hK => ?_; go_simp; refine hK _ _ ?_; clear hK K))))); (try (refine First.wpF_must (fun K hK => ?_); go_wp2; (refine hK _ _ (fun hnd => by first | exact Bool.noConfusion hnd | exact Kp.nine _ (w.heap.size + 1 + 1) _ _ _ _ _ _ _ _ _) ?_; clear hK K); (repeat (first | (refine wfp fun K hK => ?_; go_simp; refine hK _ _ ?_; clear hK K) | (refine wff fun K hK => ?_; go_simp; refine hK _ _ ?_; clear hK K))))); refine First.wpF_nil ?_; go_wp2; refine bodyPost_ttc Tryz.results18 rfl (Blk.nine hZX) Tryz.underlying34 rfl (by kernel_rfl) rfl ?_
    exact ⟨(.slice A2 r2.v.l.length cA2), (.slice B2 r2.log.length cB2), (.slice C2 r2.acks.length cC2), A8, n8, c8, Ah, 1, 1, rfl, (hRX.kp (Kp.weaken (Kp.nine V (w.heap.size + 1 + 1) _ _ _ _ _ _ _ _ _) fun k hk => .inr (by omega))).sub fun k _ hk => .inl hk, (hOX.kp (Kp.weaken (Kp.nine V (w.heap.size + 1 + 1) _ _ _ _ _ _ _ _ _) fun k hk => .inr (by omega))).sub fun k _ hk => .inl hk, (hDX.kp (Kp.weaken (Kp.nine V (w.heap.size + 1 + 1) _ _ _ _ _ _ _ _ _) fun k hk => .inr (by omega))).sub fun k _ hk => .inl hk, hbX.trans (Kp.below (Kp.nine V (w.heap.size + 1 + 1) _ _ _ _ _ _ _ _ _) hbX.size (fun k hk => by omega))⟩
   ·have q2 : decide ((r1.log.length : Int) ≤ m.log.length) = false := by simp; omega
    have htk := show takes r1 m = false by unfold takes; rw [decide_eq_false t2, t1]; simp
    replace t1 := hide t1
    have e2 := hide <| show r2 = r1 by rw [← hr2.out]; unfold offer2; rw [if_neg (by rw [htk]; simp)]
    have e3 := hide <| show R2 = [] by rw [← hR2.out]; unfold offer2R; rw [if_neg (by rw [htk]; simp)]
    clear htk hr2 hR2
    go_upto_region 16 with fail
    obtain ⟨A8, n8, c8, e8, hRc8⟩ := OwnR.recs2 hR5 (fun k hk hT => by have := (hR5.lt k hk).1; exact hT.elim (fun h => by have := hTl k h; omega) (fun h => by omega))
    have hD8 : DrW w5 (fun k => T k ∨ (w.heap.size ≤ k ∧ k ≤ w.heap.size + 1 + 1)) _ _ _ r1 := hD5.sub (T' := (fun k => T k ∨ (w.heap.size ≤ k ∧ k ≤ w.heap.size + 1 + 1))) (fun k _ hk => .inl hk)
    have e8' : A8 = A9 ∧ n8 = n9 ∧ c8 = c9 := by simp only [Value.slice.injEq] at e8; exact ⟨e8.1.symm, e8.2.1.symm, e8.2.2.symm⟩
    obtain ⟨rfl, rfl, rfl⟩ := e8'
    refine abstr (fun W => Below w.heap.size w W ∧ Blk W w.heap.size 34 #[.int .i64 r2.id, .int .i64 r2.v.e, .int .i64 r2.v.p, (.slice A1 r1.v.l.length cA1), (.slice B r1.log.length d), .int .i64 r2.joined, .int .i64 (r2.sure : Int), (.slice C1 r1.acks.length fC1), .bool r2.act] ∧ Blk W (w.heap.size + 1) 38 #[.int .i64 m.k, .int .i64 m.e, .int .i64 m.v.e, .int .i64 m.v.p, (.slice Av m.v.l.length cv), .int .i64 m.i, .int .i64 m.s, (.slice Bv m.log.length dv)] ∧ Blk W (w.heap.size + 1 + 1) 34 #[.int .i64 0, .int .i64 0, .int .i64 0, .slice none 0 0, .slice none 0 0, .int .i64 0, .int .i64 0, .slice none 0 0, .bool false] ∧ DrW W (fun k => T k ∨ (w.heap.size ≤ k ∧ k ≤ w.heap.size + 1 + 1)) (.slice A1 r1.v.l.length cA1) (.slice B r1.log.length d) (.slice C1 r1.acks.length fC1) r2 ∧ Recs W (fun k => T k ∨ (w.heap.size ≤ k ∧ k ≤ w.heap.size + 1 + 1)) A8 n8 (R9 ++ R2)) ⟨hb5, by rw [e2.out]; exact hB5, hM5, hZ5, by rw [e2.out]; exact hD8, by rw [e3.out, List.append_nil]; exact hRc8⟩ (fun w8 hW8 => ?_)
    clear hRc8 hD8 hRW hkW hRl hR5 hD5 hB5 hM5 hZ5 hb5 cB5 cM5 fB5 lB5 lM5 lZ5 s5 e8
    obtain ⟨hb8, hB8, hM8, hZ8, hD8, hR8⟩ := hW8
    obtain ⟨A2, cA2, B2, cB2, C2, cC2, eA, eB, eC⟩ := hD8.sl
    rw [eA, eB, eC] at hB8 hD8
    clear eA eB eC
    have sB8 := hb8.size
    have cB8 := hB8.cell
    have lB8 := hB8.lt
    have cM8 := hM8.cell
    have lM8 := hM8.lt
    have lZ8 := hZ8.lt
    have hT8 : ∀ k, (fun k => T k ∨ (w.heap.size ≤ k ∧ k ≤ w.heap.size + 1 + 1)) k → k < w8.heap.size := fun k hk => hk.elim (fun h => by have := hTl k h; omega) (fun h => by omega)
    have hHr := dhear_any r2 f m.s (.slice A2 r2.v.l.length cA2) (.slice B2 r2.log.length cB2) (.slice C2 r2.acks.length cC2) w8 hD8 hT8
    go_upto_region 17 with (go_at_call 53; (with_reducible refine hHr.mono ?_); rintro e w5 ⟨Ah, rfl, hO5, hD5, hb5⟩)
    have s5 := hb5.size
    have hbA : Below w5.heap.size w5 (w5.alloc (.cells #[.int .i64 (hearP r2 m.s).id, .int .i64 (hearP r2 m.s).v.e, .int .i64 (hearP r2 m.s).v.p, (.slice A2 r2.v.l.length cA2), (.slice B2 r2.log.length cB2), .int .i64 (hearP r2 m.s).joined, .int .i64 ((hearP r2 m.s).sure : Int), (.slice C2 r2.acks.length cC2), .bool (hearP r2 m.s).act] 34)) := Below.alloc (Below.refl _ _) (Nat.le_refl _) _
    have hb85 := hb5.trans (hbA.mono s5)
    refine abstr (fun W => Below w.heap.size w W ∧ Blk W w5.heap.size 34 #[.int .i64 (hearP r2 m.s).id, .int .i64 (hearP r2 m.s).v.e, .int .i64 (hearP r2 m.s).v.p, (.slice A2 r2.v.l.length cA2), (.slice B2 r2.log.length cB2), .int .i64 (hearP r2 m.s).joined, .int .i64 ((hearP r2 m.s).sure : Int), (.slice C2 r2.acks.length cC2), .bool (hearP r2 m.s).act] ∧ Blk W (w.heap.size + 1 + 1) 34 #[.int .i64 0, .int .i64 0, .int .i64 0, .slice none 0 0, .slice none 0 0, .int .i64 0, .int .i64 0, .slice none 0 0, .bool false] ∧ DrW W (fun k => T k ∨ (w.heap.size ≤ k ∧ k ≤ w.heap.size + 1 + 1)) (.slice A2 r2.v.l.length cA2) (.slice B2 r2.log.length cB2) (.slice C2 r2.acks.length cC2) (hearP r2 m.s) ∧ Recs W (fun k => T k ∨ (w.heap.size ≤ k ∧ k ≤ w.heap.size + 1 + 1)) A8 n8 (R9 ++ R2) ∧ Outs W (fun k => T k ∨ (w.heap.size ≤ k ∧ k ≤ w.heap.size + 1 + 1)) Ah 1 (hearO r2 f)) ⟨hb8.trans (hb85.mono sB8), Blk.new _ _ _, hZ8.below hb85 lZ8, hD5.kp (Kp.of_below hbA), hR8.kp (Kp.of_below hb85), hO5.kp (Kp.of_below hbA)⟩ (fun w9 hW9 => ?_)
    have hq5 : w.heap.size + 1 + 1 < w5.heap.size := by omega
    clear hbA hb85 hD5 hO5 hb5 hHr hT8 cB8 cM8 s5
    generalize w5.heap.size = q at *
    obtain ⟨hb9, hB9, hZ9, hD9, hR9, hO9⟩ := hW9
    have lB9 := hB9.lt
    have lZ9 := hZ9.lt
    refine wp_region_kp (fun k => k = w.heap.size + 1 + 1) [2] [0, 1] [(true, false, 0), (true, false, 1), (true, true, 2), (false, true, 3), (false, true, 4), (false, false, 5)] (by kernel_rfl) (by kernel_rfl) (fun X => ?_); simp only [List.map_cons, List.map_nil, List.getD_cons_zero, List.getD_cons_succ]; (have hne : ¬(q = w.heap.size + 1 + 1) := by omega); (repeat (first | (refine wfp fun K hK => ?_; go_simp; refine hK _ _ ?_; clear hK K) | (refine wff fun K hK => ?_; go_simp; refine hK _ _ ?_; clear hK K))); (refine first_readG rfl (v := .agg #[.int .i64 (hearP r2 m.s).id, .int .i64 (hearP r2 m.s).v.e, .int .i64 (hearP r2 m.s).v.p, (.slice A2 r2.v.l.length cA2), (.slice B2 r2.log.length cB2), .int .i64 (hearP r2 m.s).joined, .int .i64 ((hearP r2 m.s).sure : Int), (.slice C2 r2.acks.length cC2), .bool (hearP r2 m.s).act]) (fun w' hw' => ?_) (fun K hK => ?_); rotate_left 1; go_simp; refine hK _ _ ?_; clear hK K; rotate_left 1; (have hB' := Blk.kp (Blk.ext hB9 _) hw' hne; have c' := Blk.cell hB'; go_simp)); (repeat (first | (refine wfp fun K hK => ?_; go_simp; refine hK _ _ ?_; clear hK K) | (refine wff fun K hK => ?_; go_simp; refine hK _ _ ?_; clear hK K))); (have hbX := hb9.trans ((World.below_ext w9 X).mono hb9.size)); (have hkX : Kp (fun k => T k ∨ (w.heap.size ≤ k ∧ k ≤ w.heap.size + 1 + 1)) w9 (w9.ext X) := Kp.of_below (World.below_ext w9 X)); have hZX := hZ9.ext X; have hDX := hD9.kp hkX; (have hRX := hR9.kp hkX); (have hOX := hO9.kp hkX); clear hkX; generalize w9.ext X = V at *; (have c2 := hZX.cell); (have f2 := hZX.frozen); (have l2 := hZX.lt); (repeat (refine First.wpF_must (fun K hK => ?_); go_wp2; (refine hK _ _ (fun hnd => by first | exact Bool.noConfusion hnd | exact Kp.refl _ _) ?_; clear hK K); (repeat (first | (refine wfp fun K hK => ?_; go_simp; refine hK _ _ ?_; clear hK K) | (refine wff fun K hK => ?_; go_simp; refine hK _ _ ?_; clear hK K))))); (try (refine First.wpF_must (fun K hK => ?_); go_wp2; (refine hK _ _ (fun hnd => by first | exact Bool.noConfusion hnd | exact Kp.nine _ (w.heap.size + 1 + 1) _ _ _ _ _ _ _ _ _) ?_; clear hK K); (repeat (first | (refine wfp fun K hK => ?_; go_simp; refine hK _ _ ?_; clear hK K) | (refine wff fun K hK => ?_; go_simp; refine hK _ _ ?_; clear hK K))))); refine First.wpF_nil ?_; go_wp2; refine bodyPost_ttc Tryz.results18 rfl (Blk.nine hZX) Tryz.underlying34 rfl (by kernel_rfl) rfl ?_
    exact ⟨(.slice A2 r2.v.l.length cA2), (.slice B2 r2.log.length cB2), (.slice C2 r2.acks.length cC2), A8, n8, c8, Ah, 1, 1, rfl, (hRX.kp (Kp.weaken (Kp.nine V (w.heap.size + 1 + 1) _ _ _ _ _ _ _ _ _) fun k hk => .inr (by omega))).sub fun k _ hk => .inl hk, (hOX.kp (Kp.weaken (Kp.nine V (w.heap.size + 1 + 1) _ _ _ _ _ _ _ _ _) fun k hk => .inr (by omega))).sub fun k _ hk => .inl hk, (hDX.kp (Kp.weaken (Kp.nine V (w.heap.size + 1 + 1) _ _ _ _ _ _ _ _ _) fun k hk => .inr (by omega))).sub fun k _ hk => .inl hk, hbX.trans (Kp.below (Kp.nine V (w.heap.size + 1 + 1) _ _ _ _ _ _ _ _ _) hbX.size (fun k hk => by omega))⟩
  ·have q1 : (r1.joined != r1.v.e) = true := by simpa using t1
   have htk := hide (show takes r1 m = true by unfold takes; rw [show (r1.joined == r1.v.e) = false by simpa using t1]; rfl)
   clear t1
   have hr2' := hide <| show r2 = { r1 with joined := r1.v.e, log := m.log } by rw [← hr2.out]; unfold offer2; rw [if_pos htk.out]
   have hR2' := hide <| show R2 = [recLogP r1.v.e m.log] by rw [← hR2.out]; unfold offer2R; rw [if_pos htk.out]
   clear htk hr2 hR2
   go_upto_region 16 with (first | (go_at_call 52; (with_reducible refine (hRl _ (by (repeat' (first | with_reducible (first | exact Below.refl _ _ | refine Below.ext ?_ ?_ _ | refine Below.alloc ?_ ?_ _ | refine Below.setCell ?_ ?_ _ | refine Below.drew ?_ | assumption) | (simp [World.size_ext]; done) | (simp [World.size_ext]; omega))))).mono ?_); rintro e w6 ⟨u, rfl, hRow, hb6⟩; obtain ⟨uA, uc, rfl, _⟩ := own_sl hRow; have hbs6 : Bsl w6 (fun k => (fun k => T k ∨ (w.heap.size ≤ k ∧ k ≤ w.heap.size + 1 + 1)) k ∨ (Value.slice A9 n9 c9).ownBlock = some k) (.slice uA (recLogP r1.v.e m.log).length uc) (recLogP r1.v.e m.log) := Bsl.row hRow (T := (fun k => (fun k => T k ∨ (w.heap.size ≤ k ∧ k ≤ w.heap.size + 1 + 1)) k ∨ (Value.slice A9 n9 c9).ownBlock = some k)) (fun k hk => by simp only [World.size_setCell]; exact hk.elim (fun h => h.elim (fun h => by have := hTl k h; omega) (fun h => by omega)) (fun h => (hR5.lt k h).2)) (recLog_by he1 hmok hml4)) | (at_builtin; go_loud (refine app_rec rfl (.tmp 118) (.tmp 124) rfl (fun k => T k ∨ (w.heap.size ≤ k ∧ k ≤ w.heap.size + 1 + 1)) (w.heap.size + 1 + 1 + 1) (.slice A9 n9 c9) R9 (recLogP r1.v.e m.log, .slice uA (recLogP r1.v.e m.log).length uc) _ rfl rfl (hRW.below hb6) hbs6 _ rfl rfl (by omega) (by have := hb6.size; simp only [World.size_setCell] at this; omega) (fun v' w7 hR7 hc7 hk7 => ?_))))
   have s6 := hb6.size
   have hW5 := hkW.size
   have hbA : Below w6.heap.size w6 (w6.alloc (.cells #[.slice uA (recLogP r1.v.e m.log).length uc] 36)) := Below.alloc (Below.refl _ _) (Nat.le_refl _) _
   have hk57 := ((hkW.weaken (T := fun k => k = w.heap.size ∨ (Value.slice A9 n9 c9).ownBlock = some k) (fun k hk => .inl hk)).trans (Kp.of_below (hb6.trans (hbA.mono s6)))).trans (hk7.weaken (fun k hk => .inr hk))
   have hb57 := Kp.below hk57 (show w.heap.size ≤ w5.heap.size by omega) (fun k hk => hk.elim (fun h => by omega) (fun h => by have := (hR5.lt k h).1; omega))
   have hbw7 : Below w.heap.size w w7 := hb5.trans hb57
   have hE7 : Ents w7 (fun k => (fun k => T k ∨ (w.heap.size ≤ k ∧ k ≤ w.heap.size + 1 + 1)) k ∨ (Value.slice A9 n9 c9).ownBlock = some k) Bv m.log.length m.log := ((hEm.sub (T' := fun k => T k ∨ w.heap.size ≤ k) (fun k hk ht => ht.elim id (fun h => by omega))).kp (Kp.of_below hbw7)).sub (fun k _ hk => hk.elim (fun h => h.elim .inl (fun h => .inr h.1)) (fun h => .inr (by have := (hR5.lt k h).1; omega)))
   have hD7 := ((hD5.kp (hk57.weaken (T := (fun k => (fun k => T k ∨ (w.heap.size ≤ k ∧ k ≤ w.heap.size + 1 + 1)) k ∨ (Value.slice A9 n9 c9).ownBlock = some k)) (fun k hk => hk.elim (fun h => .inl (.inr (by omega))) .inr))).relog hE7 hcap r1.v.e).sub (T' := (fun k => T k ∨ (w.heap.size ≤ k ∧ k ≤ w.heap.size + 1 + 1))) (fun k _ hk => .inl hk)
   obtain ⟨A8, n8, c8, rfl, hRc8⟩ := OwnR.recs2 hR7 (fun k hk hT => by have := (hR7.lt k hk).1; exact hT.elim (fun h => by have := hTl k h; omega) (fun h => by omega))
   have hn7 : ∀ k, k < w5.heap.size → k ≠ w.heap.size → (Value.slice A9 n9 c9).ownBlock ≠ some k → w7.heap[k]? = w5.heap[k]? := fun k hk h1 h2 => hk57.block k hk (fun e => e.elim h1 h2)
   have hB6 := ((hB5.set_ 5 (.int .i64 r1.v.e)).set_ 4 (.slice Bv m.log.length dv)).below hb6 (by simp only [World.size_setCell]; exact lB5)
   have hB7 : Blk w7 w.heap.size 34 _ := (hc7.block w.heap.size hB6.lt (fun e => by have := (hR5.lt _ e).1; omega)).trans hB6
   refine abstr (fun W => Below w.heap.size w W ∧ Blk W w.heap.size 34 #[.int .i64 r2.id, .int .i64 r2.v.e, .int .i64 r2.v.p, (.slice A1 r1.v.l.length cA1), (.slice Bv m.log.length dv), .int .i64 r2.joined, .int .i64 (r2.sure : Int), (.slice C1 r1.acks.length fC1), .bool r2.act] ∧ Blk W (w.heap.size + 1) 38 #[.int .i64 m.k, .int .i64 m.e, .int .i64 m.v.e, .int .i64 m.v.p, (.slice Av m.v.l.length cv), .int .i64 m.i, .int .i64 m.s, (.slice Bv m.log.length dv)] ∧ Blk W (w.heap.size + 1 + 1) 34 #[.int .i64 0, .int .i64 0, .int .i64 0, .slice none 0 0, .slice none 0 0, .int .i64 0, .int .i64 0, .slice none 0 0, .bool false] ∧ DrW W (fun k => T k ∨ (w.heap.size ≤ k ∧ k ≤ w.heap.size + 1 + 1)) (.slice A1 r1.v.l.length cA1) (.slice Bv m.log.length dv) (.slice C1 r1.acks.length fC1) r2 ∧ Recs W (fun k => T k ∨ (w.heap.size ≤ k ∧ k ≤ w.heap.size + 1 + 1)) A8 n8 (R9 ++ R2)) ⟨hbw7, by rw [hr2'.out]; exact hB7, (hn7 _ lM5 (by omega) (fun e => by have := (hR5.lt _ e).1; omega)).trans hM5, (hn7 _ lZ5 (by omega) (fun e => by have := (hR5.lt _ e).1; omega)).trans hZ5, by rw [hr2'.out]; exact hD7, by rw [hR2'.out]; exact hRc8⟩ (fun w8 hW8 => ?_)
   clear hB7 hB6 hn7 hRc8 hD7 hE7 hbw7 hb57 hk57 hbA hW5 s6 hR7 hc7 hk7 hbs6 hRow hb6 hRW hkW hRl hR5 hD5 hB5 hM5 hZ5 hb5 cB5 cM5 fB5 lB5 lM5 lZ5 s5
   obtain ⟨hb8, hB8, hM8, hZ8, hD8, hR8⟩ := hW8
   obtain ⟨A2, cA2, B2, cB2, C2, cC2, eA, eB, eC⟩ := hD8.sl
   rw [eA, eB, eC] at hB8 hD8
   clear eA eB eC
   have sB8 := hb8.size
   have cB8 := hB8.cell
   have lB8 := hB8.lt
   have cM8 := hM8.cell
   have lM8 := hM8.lt
   have lZ8 := hZ8.lt
   have hT8 : ∀ k, (fun k => T k ∨ (w.heap.size ≤ k ∧ k ≤ w.heap.size + 1 + 1)) k → k < w8.heap.size := fun k hk => hk.elim (fun h => by have := hTl k h; omega) (fun h => by omega)
   have hHr := dhear_any r2 f m.s (.slice A2 r2.v.l.length cA2) (.slice B2 r2.log.length cB2) (.slice C2 r2.acks.length cC2) w8 hD8 hT8
   go_upto_region 17 with (go_at_call 53; (with_reducible refine hHr.mono ?_); rintro e w5 ⟨Ah, rfl, hO5, hD5, hb5⟩)
   have s5 := hb5.size
   have hbA : Below w5.heap.size w5 (w5.alloc (.cells #[.int .i64 (hearP r2 m.s).id, .int .i64 (hearP r2 m.s).v.e, .int .i64 (hearP r2 m.s).v.p, (.slice A2 r2.v.l.length cA2), (.slice B2 r2.log.length cB2), .int .i64 (hearP r2 m.s).joined, .int .i64 ((hearP r2 m.s).sure : Int), (.slice C2 r2.acks.length cC2), .bool (hearP r2 m.s).act] 34)) := Below.alloc (Below.refl _ _) (Nat.le_refl _) _
   have hb85 := hb5.trans (hbA.mono s5)
   refine abstr (fun W => Below w.heap.size w W ∧ Blk W w5.heap.size 34 #[.int .i64 (hearP r2 m.s).id, .int .i64 (hearP r2 m.s).v.e, .int .i64 (hearP r2 m.s).v.p, (.slice A2 r2.v.l.length cA2), (.slice B2 r2.log.length cB2), .int .i64 (hearP r2 m.s).joined, .int .i64 ((hearP r2 m.s).sure : Int), (.slice C2 r2.acks.length cC2), .bool (hearP r2 m.s).act] ∧ Blk W (w.heap.size + 1 + 1) 34 #[.int .i64 0, .int .i64 0, .int .i64 0, .slice none 0 0, .slice none 0 0, .int .i64 0, .int .i64 0, .slice none 0 0, .bool false] ∧ DrW W (fun k => T k ∨ (w.heap.size ≤ k ∧ k ≤ w.heap.size + 1 + 1)) (.slice A2 r2.v.l.length cA2) (.slice B2 r2.log.length cB2) (.slice C2 r2.acks.length cC2) (hearP r2 m.s) ∧ Recs W (fun k => T k ∨ (w.heap.size ≤ k ∧ k ≤ w.heap.size + 1 + 1)) A8 n8 (R9 ++ R2) ∧ Outs W (fun k => T k ∨ (w.heap.size ≤ k ∧ k ≤ w.heap.size + 1 + 1)) Ah 1 (hearO r2 f)) ⟨hb8.trans (hb85.mono sB8), Blk.new _ _ _, hZ8.below hb85 lZ8, hD5.kp (Kp.of_below hbA), hR8.kp (Kp.of_below hb85), hO5.kp (Kp.of_below hbA)⟩ (fun w9 hW9 => ?_)
   have hq5 : w.heap.size + 1 + 1 < w5.heap.size := by omega
   clear hbA hb85 hD5 hO5 hb5 hHr hT8 cB8 cM8 s5
   generalize w5.heap.size = q at *
   obtain ⟨hb9, hB9, hZ9, hD9, hR9, hO9⟩ := hW9
   have lB9 := hB9.lt
   have lZ9 := hZ9.lt
   refine wp_region_kp (fun k => k = w.heap.size + 1 + 1) [2] [0, 1] [(true, false, 0), (true, false, 1), (true, true, 2), (false, true, 3), (false, true, 4), (false, false, 5)] (by kernel_rfl) (by kernel_rfl) (fun X => ?_); simp only [List.map_cons, List.map_nil, List.getD_cons_zero, List.getD_cons_succ]; (have hne : ¬(q = w.heap.size + 1 + 1) := by omega); (repeat (first | (refine wfp fun K hK => ?_; go_simp; refine hK _ _ ?_; clear hK K) | (refine wff fun K hK => ?_; go_simp; refine hK _ _ ?_; clear hK K))); (refine first_readG rfl (v := .agg #[.int .i64 (hearP r2 m.s).id, .int .i64 (hearP r2 m.s).v.e, .int .i64 (hearP r2 m.s).v.p, (.slice A2 r2.v.l.length cA2), (.slice B2 r2.log.length cB2), .int .i64 (hearP r2 m.s).joined, .int .i64 ((hearP r2 m.s).sure : Int), (.slice C2 r2.acks.length cC2), .bool (hearP r2 m.s).act]) (fun w' hw' => ?_) (fun K hK => ?_); rotate_left 1; go_simp; refine hK _ _ ?_; clear hK K; rotate_left 1; (have hB' := Blk.kp (Blk.ext hB9 _) hw' hne; have c' := Blk.cell hB'; go_simp)); (repeat (first | (refine wfp fun K hK => ?_; go_simp; refine hK _ _ ?_; clear hK K) | (refine wff fun K hK => ?_; go_simp; refine hK _ _ ?_; clear hK K))); (have hbX := hb9.trans ((World.below_ext w9 X).mono hb9.size)); (have hkX : Kp (fun k => T k ∨ (w.heap.size ≤ k ∧ k ≤ w.heap.size + 1 + 1)) w9 (w9.ext X) := Kp.of_below (World.below_ext w9 X)); have hZX := hZ9.ext X; have hDX := hD9.kp hkX; (have hRX := hR9.kp hkX); (have hOX := hO9.kp hkX); clear hkX; generalize w9.ext X = V at *; (have c2 := hZX.cell); (have f2 := hZX.frozen); (have l2 := hZX.lt); (repeat (refine First.wpF_must (fun K hK => ?_); go_wp2; (refine hK _ _ (fun hnd => by first | exact Bool.noConfusion hnd | exact Kp.refl _ _) ?_; clear hK K); (repeat (first | (refine wfp fun K hK => ?_; go_simp; refine hK _ _ ?_; clear hK K) | (refine wff fun K hK => ?_; go_simp; refine hK _ _ ?_; clear hK K))))); (try (refine First.wpF_must (fun K hK => ?_); go_wp2; (refine hK _ _ (fun hnd => by first | exact Bool.noConfusion hnd | exact Kp.nine _ (w.heap.size + 1 + 1) _ _ _ _ _ _ _ _ _) ?_; clear hK K); (repeat (first | (refine wfp fun K hK => ?_; go_simp; refine hK _ _ ?_; clear hK K) | (refine wff fun K hK => ?_; go_simp; refine hK _ _ ?_; clear hK K))))); refine First.wpF_nil ?_; go_wp2; refine bodyPost_ttc Tryz.results18 rfl (Blk.nine hZX) Tryz.underlying34 rfl (by kernel_rfl) rfl ?_
   exact ⟨(.slice A2 r2.v.l.length cA2), (.slice B2 r2.log.length cB2), (.slice C2 r2.acks.length cC2), A8, n8, c8, Ah, 1, 1, rfl, (hRX.kp (Kp.weaken (Kp.nine V (w.heap.size + 1 + 1) _ _ _ _ _ _ _ _ _) fun k hk => .inr (by omega))).sub fun k _ hk => .inl hk, (hOX.kp (Kp.weaken (Kp.nine V (w.heap.size + 1 + 1) _ _ _ _ _ _ _ _ _) fun k hk => .inr (by omega))).sub fun k _ hk => .inl hk, (hDX.kp (Kp.weaken (Kp.nine V (w.heap.size + 1 + 1) _ _ _ _ _ _ _ _ _) fun k hk => .inr (by omega))).sub fun k _ hk => .inl hk, hbX.trans (Kp.below (Kp.nine V (w.heap.size + 1 + 1) _ _ _ _ _ _ _ _ _) hbX.size (fun k hk => by omega))⟩
 ·have e1 : r1 = r := by rw [← hr1.out]; unfold offer1; rw [if_neg (by simpa using d10)]
  have e2 : R9 = [] := by rw [← hR9.out]; unfold offerR; rw [if_neg (by simpa using d10)]
  have E1 := hide e1
  have E2 := hide e2
  clear hR9 hr1 e1 e2
  go_enter Tryz.func18, Tryz.ntmps18
  go_upto_if 87 with (first | (go_at_call 29; (with_reducible refine (hRt _ (by (repeat' (first | with_reducible (first | exact Below.refl _ _ | refine Below.ext ?_ ?_ _ | refine Below.alloc ?_ ?_ _ | refine Below.setCell ?_ ?_ _ | refine Below.drew ?_ | assumption) | (simp [World.size_ext]; done) | (simp [World.size_ext]; omega))))).mono ?_); rintro e w' ⟨rfl, hb⟩; obtain ⟨X, rfl⟩ := World.ext_of_below hb; clear hb) | (go_at_call 38; (with_reducible refine (hLt _ (by (repeat' (first | with_reducible (first | exact Below.refl _ _ | refine Below.ext ?_ ?_ _ | refine Below.alloc ?_ ?_ _ | refine Below.setCell ?_ ?_ _ | refine Below.drew ?_ | assumption) | (simp [World.size_ext]; done) | (simp [World.size_ext]; omega))))).mono ?_); rintro e w' ⟨rfl, hb⟩; obtain ⟨X, rfl⟩ := World.ext_of_below hb; clear hb) | (go_at_call 51; (with_reducible refine (hCt _ (by (repeat' (first | with_reducible (first | exact Below.refl _ _ | refine Below.ext ?_ ?_ _ | refine Below.alloc ?_ ?_ _ | refine Below.setCell ?_ ?_ _ | refine Below.drew ?_ | assumption) | (simp [World.size_ext]; done) | (simp [World.size_ext]; omega))))).mono ?_); rintro e w' ⟨rfl, rfl⟩))
  refine abstr (fun W => Below w.heap.size w W ∧ Blk W w.heap.size 34 #[.int .i64 r.id, .int .i64 r.v.e, .int .i64 r.v.p, (.slice A r.v.l.length c), (.slice B r.log.length d), .int .i64 r.joined, .int .i64 (r.sure : Int), (.slice C r.acks.length f0), .bool r.act] ∧ Blk W (w.heap.size + 1) 38 #[.int .i64 m.k, .int .i64 m.e, .int .i64 m.v.e, .int .i64 m.v.p, (.slice Av m.v.l.length cv), .int .i64 m.i, .int .i64 m.s, (.slice Bv m.log.length dv)] ∧ Blk W (w.heap.size + 1 + 1) 34 #[.int .i64 0, .int .i64 0, .int .i64 0, .slice none 0 0, .slice none 0 0, .int .i64 0, .int .i64 0, .slice none 0 0, .bool false] ∧ w.heap.size + 1 + 1 + 1 ≤ W.heap.size) ⟨by (repeat' (first | with_reducible (first | exact Below.refl _ _ | refine Below.ext ?_ ?_ _ | refine Below.alloc ?_ ?_ _ | refine Below.setCell ?_ ?_ _ | refine Below.drew ?_ | assumption) | (simp [World.size_ext]; done) | (simp [World.size_ext]; omega))), by (repeat' (first | with_reducible (first | exact hR0 | refine Blk.ext ?_ _ | refine Blk.alloc ?_ _ | apply Blk.set_to | refine Blk.far ?_ ?_ _) | rfl | (simp [World.size_ext]; done) | (simp [World.size_ext]; omega))), by (repeat' (first | with_reducible (first | exact hM0 | refine Blk.ext ?_ _ | refine Blk.alloc ?_ _ | apply Blk.set_to | refine Blk.far ?_ ?_ _) | rfl | (simp [World.size_ext]; done) | (simp [World.size_ext]; omega))), by (repeat' (first | with_reducible (first | exact hZ0 | refine Blk.ext ?_ _ | refine Blk.alloc ?_ _ | apply Blk.set_to | refine Blk.far ?_ ?_ _) | rfl | (simp [World.size_ext]; done) | (simp [World.size_ext]; omega))), by simp [World.size_ext] <;> omega⟩ (fun w1 hW => ?_)
  clear hR0 hM0 hZ0 hRt hCt
  obtain ⟨hb1, hB1, hM1, hZ1, hs1⟩ := hW
  go_cut [9] (fun s9 wx => ∃ (A9 : Option Addr) (n9 c9 : Nat) (A1 : Option Addr) (cA1 : Nat) (C1 : Option Addr) (fC1 : Nat), s9 = .slice A9 n9 c9 ∧ Below w.heap.size w wx ∧ Blk wx w.heap.size 34 #[.int .i64 r1.id, .int .i64 r1.v.e, .int .i64 r1.v.p, (.slice A1 r1.v.l.length cA1), (.slice B r1.log.length d), .int .i64 r1.joined, .int .i64 (r1.sure : Int), (.slice C1 r1.acks.length fC1), .bool r1.act] ∧ Blk wx (w.heap.size + 1) 38 #[.int .i64 m.k, .int .i64 m.e, .int .i64 m.v.e, .int .i64 m.v.p, (.slice Av m.v.l.length cv), .int .i64 m.i, .int .i64 m.s, (.slice Bv m.log.length dv)] ∧ Blk wx (w.heap.size + 1 + 1) 34 #[.int .i64 0, .int .i64 0, .int .i64 0, .slice none 0 0, .slice none 0 0, .int .i64 0, .int .i64 0, .slice none 0 0, .bool false] ∧ w.heap.size + 1 + 1 + 1 ≤ wx.heap.size ∧ OwnR wx (fun k => T k ∨ (w.heap.size ≤ k ∧ k ≤ w.heap.size + 1 + 1)) (w.heap.size + 1 + 1 + 1) s9 R9 ∧ DrW wx (fun k => (fun k => T k ∨ (w.heap.size ≤ k ∧ k ≤ w.heap.size + 1 + 1)) k ∨ (Value.slice A9 n9 c9).ownBlock = some k) (.slice A1 r1.v.l.length cA1) (.slice B r1.log.length d) (.slice C1 r1.acks.length fC1) r1)
  case first =>
   go_wp2_with fail
   go_meet
   case rel =>
    rw [E1.out, E2.out]
    exact ⟨none, 0, 0, A, c, C, f0, rfl, hb1, hB1, hM1, hZ1, hs1, OwnR.nil _ _ _, (hD.sub (T' := (fun k => T k ∨ (w.heap.size ≤ k ∧ k ≤ w.heap.size + 1 + 1))) (fun k hk ht => ht.elim id (fun h => by omega))).kp (Kp.of_below hb1) |>.sub (fun k hk ht => ht.elim id (fun e => by cases e))⟩
  case rest =>
   clear E1 E2 hb1 hB1 hM1 hZ1 hs1
   obtain ⟨A9, n9, c9, A1, cA1, C1, fC1, rfl, hb5, hB5, hM5, hZ5, hs5, hR5, hD5⟩ := hcut
   obtain ⟨w5, rfl⟩ : ∃ w5 : World, w5 = wc := ⟨_, rfl⟩
   have lB5 := hB5.lt
   have lM5 := hM5.lt
   have lZ5 := hZ5.lt
   have s5 := hb5.size
   have cB5 := hB5.cell
   have cM5 := hM5.cell
   have fB5 := hB5.frozen
   have hmok := hEm.okAll
   have hRl := fun W (hW : Below w.heap.size w W) => drecLog_any (T := fun k => T k ∨ w.heap.size ≤ k) r1.v.e Bv m.log.length dv m.log W ((hEm.sub (T' := fun k => T k ∨ w.heap.size ≤ k) (fun k hk ht => ht.elim id (fun h => by omega))).kp (Kp.of_below hW)) hml4 he1
   have hkW : Kp (fun k => k = w.heap.size) w5 ((w5.setCell ⟨w.heap.size, 5, none⟩ (.int .i64 r1.v.e)).setCell ⟨w.heap.size, 4, none⟩ (.slice Bv m.log.length dv)) := (Kp.put w5 w.heap.size 5 _).trans (Kp.put _ w.heap.size 4 _)
   have hRW := hR5.kp hkW (fun k hk => .inr (by omega)) (fun k hk e => by have := (hR5.lt k hk).1; omega)
   by_cases t1 : r1.joined = r1.v.e
   ·have q1 : (r1.joined != r1.v.e) = false := by simpa using t1
    by_cases t2 : r1.log.length ≤ m.log.length
    ·have q2 : decide ((r1.log.length : Int) ≤ m.log.length) = true := by simp; omega
     have htk := hide (show takes r1 m = true by unfold takes; rw [decide_eq_true t2, Bool.or_true])
     replace t1 := hide t1
     have hr2' := hide <| show r2 = { r1 with joined := r1.v.e, log := m.log } by rw [← hr2.out]; unfold offer2; rw [if_pos htk.out]
     have hR2' := hide <| show R2 = [recLogP r1.v.e m.log] by rw [← hR2.out]; unfold offer2R; rw [if_pos htk.out]
     clear htk hr2 hR2
     go_upto_region 16 with (first | (go_at_call 52; (with_reducible refine (hRl _ (by (repeat' (first | with_reducible (first | exact Below.refl _ _ | refine Below.ext ?_ ?_ _ | refine Below.alloc ?_ ?_ _ | refine Below.setCell ?_ ?_ _ | refine Below.drew ?_ | assumption) | (simp [World.size_ext]; done) | (simp [World.size_ext]; omega))))).mono ?_); rintro e w6 ⟨u, rfl, hRow, hb6⟩; obtain ⟨uA, uc, rfl, _⟩ := own_sl hRow; have hbs6 : Bsl w6 (fun k => (fun k => T k ∨ (w.heap.size ≤ k ∧ k ≤ w.heap.size + 1 + 1)) k ∨ (Value.slice A9 n9 c9).ownBlock = some k) (.slice uA (recLogP r1.v.e m.log).length uc) (recLogP r1.v.e m.log) := Bsl.row hRow (T := (fun k => (fun k => T k ∨ (w.heap.size ≤ k ∧ k ≤ w.heap.size + 1 + 1)) k ∨ (Value.slice A9 n9 c9).ownBlock = some k)) (fun k hk => by simp only [World.size_setCell]; exact hk.elim (fun h => h.elim (fun h => by have := hTl k h; omega) (fun h => by omega)) (fun h => (hR5.lt k h).2)) (recLog_by he1 hmok hml4)) | (at_builtin; go_loud (refine app_rec rfl (.tmp 118) (.tmp 124) rfl (fun k => T k ∨ (w.heap.size ≤ k ∧ k ≤ w.heap.size + 1 + 1)) (w.heap.size + 1 + 1 + 1) (.slice A9 n9 c9) R9 (recLogP r1.v.e m.log, .slice uA (recLogP r1.v.e m.log).length uc) _ rfl rfl (hRW.below hb6) hbs6 _ rfl rfl (by omega) (by have := hb6.size; simp only [World.size_setCell] at this; omega) (fun v' w7 hR7 hc7 hk7 => ?_))))
     have s6 := hb6.size
     have hW5 := hkW.size
     have hbA : Below w6.heap.size w6 (w6.alloc (.cells #[.slice uA (recLogP r1.v.e m.log).length uc] 36)) := Below.alloc (Below.refl _ _) (Nat.le_refl _) _
     have hk57 := ((hkW.weaken (T := fun k => k = w.heap.size ∨ (Value.slice A9 n9 c9).ownBlock = some k) (fun k hk => .inl hk)).trans (Kp.of_below (hb6.trans (hbA.mono s6)))).trans (hk7.weaken (fun k hk => .inr hk))
     have hb57 := Kp.below hk57 (show w.heap.size ≤ w5.heap.size by omega) (fun k hk => hk.elim (fun h => by omega) (fun h => by have := (hR5.lt k h).1; omega))
     have hbw7 : Below w.heap.size w w7 := hb5.trans hb57
     have hE7 : Ents w7 (fun k => (fun k => T k ∨ (w.heap.size ≤ k ∧ k ≤ w.heap.size + 1 + 1)) k ∨ (Value.slice A9 n9 c9).ownBlock = some k) Bv m.log.length m.log := ((hEm.sub (T' := fun k => T k ∨ w.heap.size ≤ k) (fun k hk ht => ht.elim id (fun h => by omega))).kp (Kp.of_below hbw7)).sub (fun k _ hk => hk.elim (fun h => h.elim .inl (fun h => .inr h.1)) (fun h => .inr (by have := (hR5.lt k h).1; omega)))
     have hD7 := ((hD5.kp (hk57.weaken (T := (fun k => (fun k => T k ∨ (w.heap.size ≤ k ∧ k ≤ w.heap.size + 1 + 1)) k ∨ (Value.slice A9 n9 c9).ownBlock = some k)) (fun k hk => hk.elim (fun h => .inl (.inr (by omega))) .inr))).relog hE7 hcap r1.v.e).sub (T' := (fun k => T k ∨ (w.heap.size ≤ k ∧ k ≤ w.heap.size + 1 + 1))) (fun k _ hk => .inl hk)
     obtain ⟨A8, n8, c8, rfl, hRc8⟩ := OwnR.recs2 hR7 (fun k hk hT => by have := (hR7.lt k hk).1; exact hT.elim (fun h => by have := hTl k h; omega) (fun h => by omega))
     have hn7 : ∀ k, k < w5.heap.size → k ≠ w.heap.size → (Value.slice A9 n9 c9).ownBlock ≠ some k → w7.heap[k]? = w5.heap[k]? := fun k hk h1 h2 => hk57.block k hk (fun e => e.elim h1 h2)
     have hB6 := ((hB5.set_ 5 (.int .i64 r1.v.e)).set_ 4 (.slice Bv m.log.length dv)).below hb6 (by simp only [World.size_setCell]; exact lB5)
     have hB7 : Blk w7 w.heap.size 34 _ := (hc7.block w.heap.size hB6.lt (fun e => by have := (hR5.lt _ e).1; omega)).trans hB6
     refine abstr (fun W => Below w.heap.size w W ∧ Blk W w.heap.size 34 #[.int .i64 r2.id, .int .i64 r2.v.e, .int .i64 r2.v.p, (.slice A1 r1.v.l.length cA1), (.slice Bv m.log.length dv), .int .i64 r2.joined, .int .i64 (r2.sure : Int), (.slice C1 r1.acks.length fC1), .bool r2.act] ∧ Blk W (w.heap.size + 1) 38 #[.int .i64 m.k, .int .i64 m.e, .int .i64 m.v.e, .int .i64 m.v.p, (.slice Av m.v.l.length cv), .int .i64 m.i, .int .i64 m.s, (.slice Bv m.log.length dv)] ∧ Blk W (w.heap.size + 1 + 1) 34 #[.int .i64 0, .int .i64 0, .int .i64 0, .slice none 0 0, .slice none 0 0, .int .i64 0, .int .i64 0, .slice none 0 0, .bool false] ∧ DrW W (fun k => T k ∨ (w.heap.size ≤ k ∧ k ≤ w.heap.size + 1 + 1)) (.slice A1 r1.v.l.length cA1) (.slice Bv m.log.length dv) (.slice C1 r1.acks.length fC1) r2 ∧ Recs W (fun k => T k ∨ (w.heap.size ≤ k ∧ k ≤ w.heap.size + 1 + 1)) A8 n8 (R9 ++ R2)) ⟨hbw7, by rw [hr2'.out]; exact hB7, (hn7 _ lM5 (by omega) (fun e => by have := (hR5.lt _ e).1; omega)).trans hM5, (hn7 _ lZ5 (by omega) (fun e => by have := (hR5.lt _ e).1; omega)).trans hZ5, by rw [hr2'.out]; exact hD7, by rw [hR2'.out]; exact hRc8⟩ (fun w8 hW8 => ?_)
     clear hB7 hB6 hn7 hRc8 hD7 hE7 hbw7 hb57 hk57 hbA hW5 s6 hR7 hc7 hk7 hbs6 hRow hb6 hRW hkW hRl hR5 hD5 hB5 hM5 hZ5 hb5 cB5 cM5 fB5 lB5 lM5 lZ5 s5
     obtain ⟨hb8, hB8, hM8, hZ8, hD8, hR8⟩ := hW8
     obtain ⟨A2, cA2, B2, cB2, C2, cC2, eA, eB, eC⟩ := hD8.sl
     rw [eA, eB, eC] at hB8 hD8
     clear eA eB eC
     have sB8 := hb8.size
     have cB8 := hB8.cell
     have lB8 := hB8.lt
     have cM8 := hM8.cell
     have lM8 := hM8.lt
     have lZ8 := hZ8.lt
     have hT8 : ∀ k, (fun k => T k ∨ (w.heap.size ≤ k ∧ k ≤ w.heap.size + 1 + 1)) k → k < w8.heap.size := fun k hk => hk.elim (fun h => by have := hTl k h; omega) (fun h => by omega)
     have hHr := dhear_any r2 f m.s (.slice A2 r2.v.l.length cA2) (.slice B2 r2.log.length cB2) (.slice C2 r2.acks.length cC2) w8 hD8 hT8
     go_upto_region 17 with (go_at_call 53; (with_reducible refine hHr.mono ?_); rintro e w5 ⟨Ah, rfl, hO5, hD5, hb5⟩)
     have s5 := hb5.size
     have hbA : Below w5.heap.size w5 (w5.alloc (.cells #[.int .i64 (hearP r2 m.s).id, .int .i64 (hearP r2 m.s).v.e, .int .i64 (hearP r2 m.s).v.p, (.slice A2 r2.v.l.length cA2), (.slice B2 r2.log.length cB2), .int .i64 (hearP r2 m.s).joined, .int .i64 ((hearP r2 m.s).sure : Int), (.slice C2 r2.acks.length cC2), .bool (hearP r2 m.s).act] 34)) := Below.alloc (Below.refl _ _) (Nat.le_refl _) _
     have hb85 := hb5.trans (hbA.mono s5)
     refine abstr (fun W => Below w.heap.size w W ∧ Blk W w5.heap.size 34 #[.int .i64 (hearP r2 m.s).id, .int .i64 (hearP r2 m.s).v.e, .int .i64 (hearP r2 m.s).v.p, (.slice A2 r2.v.l.length cA2), (.slice B2 r2.log.length cB2), .int .i64 (hearP r2 m.s).joined, .int .i64 ((hearP r2 m.s).sure : Int), (.slice C2 r2.acks.length cC2), .bool (hearP r2 m.s).act] ∧ Blk W (w.heap.size + 1 + 1) 34 #[.int .i64 0, .int .i64 0, .int .i64 0, .slice none 0 0, .slice none 0 0, .int .i64 0, .int .i64 0, .slice none 0 0, .bool false] ∧ DrW W (fun k => T k ∨ (w.heap.size ≤ k ∧ k ≤ w.heap.size + 1 + 1)) (.slice A2 r2.v.l.length cA2) (.slice B2 r2.log.length cB2) (.slice C2 r2.acks.length cC2) (hearP r2 m.s) ∧ Recs W (fun k => T k ∨ (w.heap.size ≤ k ∧ k ≤ w.heap.size + 1 + 1)) A8 n8 (R9 ++ R2) ∧ Outs W (fun k => T k ∨ (w.heap.size ≤ k ∧ k ≤ w.heap.size + 1 + 1)) Ah 1 (hearO r2 f)) ⟨hb8.trans (hb85.mono sB8), Blk.new _ _ _, hZ8.below hb85 lZ8, hD5.kp (Kp.of_below hbA), hR8.kp (Kp.of_below hb85), hO5.kp (Kp.of_below hbA)⟩ (fun w9 hW9 => ?_)
     have hq5 : w.heap.size + 1 + 1 < w5.heap.size := by omega
     clear hbA hb85 hD5 hO5 hb5 hHr hT8 cB8 cM8 s5
     generalize w5.heap.size = q at *
     obtain ⟨hb9, hB9, hZ9, hD9, hR9, hO9⟩ := hW9
     have lB9 := hB9.lt
     have lZ9 := hZ9.lt
     refine wp_region_kp (fun k => k = w.heap.size + 1 + 1) [2] [0, 1] [(true, false, 0), (true, false, 1), (true, true, 2), (false, true, 3), (false, true, 4), (false, false, 5)] (by kernel_rfl) (by kernel_rfl) (fun X => ?_); simp only [List.map_cons, List.map_nil, List.getD_cons_zero, List.getD_cons_succ]; (have hne : ¬(q = w.heap.size + 1 + 1) := by omega); (repeat (first | (refine wfp fun K hK => ?_; go_simp; refine hK _ _ ?_; clear hK K) | (refine wff fun K hK => ?_; go_simp; refine hK _ _ ?_; clear hK K))); (refine first_readG rfl (v := .agg #[.int .i64 (hearP r2 m.s).id, .int .i64 (hearP r2 m.s).v.e, .int .i64 (hearP r2 m.s).v.p, (.slice A2 r2.v.l.length cA2), (.slice B2 r2.log.length cB2), .int .i64 (hearP r2 m.s).joined, .int .i64 ((hearP r2 m.s).sure : Int), (.slice C2 r2.acks.length cC2), .bool (hearP r2 m.s).act]) (fun w' hw' => ?_) (fun K hK => ?_); rotate_left 1; go_simp; refine hK _ _ ?_; clear hK K; rotate_left 1; (have hB' := Blk.kp (Blk.ext hB9 _) hw' hne; have c' := Blk.cell hB'; go_simp)); (repeat (first | (refine wfp fun K hK => ?_; go_simp; refine hK _ _ ?_; clear hK K) | (refine wff fun K hK => ?_; go_simp; refine hK _ _ ?_; clear hK K))); (have hbX := hb9.trans ((World.below_ext w9 X).mono hb9.size)); (have hkX : Kp (fun k => T k ∨ (w.heap.size ≤ k ∧ k ≤ w.heap.size + 1 + 1)) w9 (w9.ext X) := Kp.of_below (World.below_ext w9 X)); have hZX := hZ9.ext X; have hDX := hD9.kp hkX; (have hRX := hR9.kp hkX); (have hOX := hO9.kp hkX); clear hkX; generalize w9.ext X = V at *; (have c2 := hZX.cell); (have f2 := hZX.frozen); (have l2 := hZX.lt); (repeat (refine First.wpF_must (fun K hK => ?_); go_wp2; (refine hK _ _ (fun hnd => by first | exact Bool.noConfusion hnd | exact Kp.refl _ _) ?_; clear hK K); (repeat (first | (refine wfp fun K hK => ?_; go_simp; refine hK _ _ ?_; clear hK K) | (refine wff fun K hK => ?_; go_simp; refine hK _ _ ?_; clear hK K))))); (try (refine First.wpF_must (fun K hK => ?_); go_wp2; (refine hK _ _ (fun hnd => by first | exact Bool.noConfusion hnd | exact Kp.nine _ (w.heap.size + 1 + 1) _ _ _ _ _ _ _ _ _) ?_; clear hK K); (repeat (first | (refine wfp fun K hK => ?_; go_simp; refine hK _ _ ?_; clear hK K) | (refine wff fun K hK => ?_; go_simp; refine hK _ _ ?_; clear hK K))))); refine First.wpF_nil ?_; go_wp2; refine bodyPost_ttc Tryz.results18 rfl (Blk.nine hZX) Tryz.underlying34 rfl (by kernel_rfl) rfl ?_
     exact ⟨(.slice A2 r2.v.l.length cA2), (.slice B2 r2.log.length cB2), (.slice C2 r2.acks.length cC2), A8, n8, c8, Ah, 1, 1, rfl, (hRX.kp (Kp.weaken (Kp.nine V (w.heap.size + 1 + 1) _ _ _ _ _ _ _ _ _) fun k hk => .inr (by omega))).sub fun k _ hk => .inl hk, (hOX.kp (Kp.weaken (Kp.nine V (w.heap.size + 1 + 1) _ _ _ _ _ _ _ _ _) fun k hk => .inr (by omega))).sub fun k _ hk => .inl hk, (hDX.kp (Kp.weaken (Kp.nine V (w.heap.size + 1 + 1) _ _ _ _ _ _ _ _ _) fun k hk => .inr (by omega))).sub fun k _ hk => .inl hk, hbX.trans (Kp.below (Kp.nine V (w.heap.size + 1 + 1) _ _ _ _ _ _ _ _ _) hbX.size (fun k hk => by omega))⟩
    ·have q2 : decide ((r1.log.length : Int) ≤ m.log.length) = false := by simp; omega
     have htk := show takes r1 m = false by unfold takes; rw [decide_eq_false t2, t1]; simp
     replace t1 := hide t1
     have e2 := hide <| show r2 = r1 by rw [← hr2.out]; unfold offer2; rw [if_neg (by rw [htk]; simp)]
     have e3 := hide <| show R2 = [] by rw [← hR2.out]; unfold offer2R; rw [if_neg (by rw [htk]; simp)]
     clear htk hr2 hR2
     go_upto_region 16 with fail
     obtain ⟨A8, n8, c8, e8, hRc8⟩ := OwnR.recs2 hR5 (fun k hk hT => by have := (hR5.lt k hk).1; exact hT.elim (fun h => by have := hTl k h; omega) (fun h => by omega))
     have hD8 : DrW w5 (fun k => T k ∨ (w.heap.size ≤ k ∧ k ≤ w.heap.size + 1 + 1)) _ _ _ r1 := hD5.sub (T' := (fun k => T k ∨ (w.heap.size ≤ k ∧ k ≤ w.heap.size + 1 + 1))) (fun k _ hk => .inl hk)
     have e8' : A8 = A9 ∧ n8 = n9 ∧ c8 = c9 := by simp only [Value.slice.injEq] at e8; exact ⟨e8.1.symm, e8.2.1.symm, e8.2.2.symm⟩
     obtain ⟨rfl, rfl, rfl⟩ := e8'
     refine abstr (fun W => Below w.heap.size w W ∧ Blk W w.heap.size 34 #[.int .i64 r2.id, .int .i64 r2.v.e, .int .i64 r2.v.p, (.slice A1 r1.v.l.length cA1), (.slice B r1.log.length d), .int .i64 r2.joined, .int .i64 (r2.sure : Int), (.slice C1 r1.acks.length fC1), .bool r2.act] ∧ Blk W (w.heap.size + 1) 38 #[.int .i64 m.k, .int .i64 m.e, .int .i64 m.v.e, .int .i64 m.v.p, (.slice Av m.v.l.length cv), .int .i64 m.i, .int .i64 m.s, (.slice Bv m.log.length dv)] ∧ Blk W (w.heap.size + 1 + 1) 34 #[.int .i64 0, .int .i64 0, .int .i64 0, .slice none 0 0, .slice none 0 0, .int .i64 0, .int .i64 0, .slice none 0 0, .bool false] ∧ DrW W (fun k => T k ∨ (w.heap.size ≤ k ∧ k ≤ w.heap.size + 1 + 1)) (.slice A1 r1.v.l.length cA1) (.slice B r1.log.length d) (.slice C1 r1.acks.length fC1) r2 ∧ Recs W (fun k => T k ∨ (w.heap.size ≤ k ∧ k ≤ w.heap.size + 1 + 1)) A8 n8 (R9 ++ R2)) ⟨hb5, by rw [e2.out]; exact hB5, hM5, hZ5, by rw [e2.out]; exact hD8, by rw [e3.out, List.append_nil]; exact hRc8⟩ (fun w8 hW8 => ?_)
     clear hRc8 hD8 hRW hkW hRl hR5 hD5 hB5 hM5 hZ5 hb5 cB5 cM5 fB5 lB5 lM5 lZ5 s5 e8
     obtain ⟨hb8, hB8, hM8, hZ8, hD8, hR8⟩ := hW8
     obtain ⟨A2, cA2, B2, cB2, C2, cC2, eA, eB, eC⟩ := hD8.sl
     rw [eA, eB, eC] at hB8 hD8
     clear eA eB eC
     have sB8 := hb8.size
     have cB8 := hB8.cell
     have lB8 := hB8.lt
     have cM8 := hM8.cell
     have lM8 := hM8.lt
     have lZ8 := hZ8.lt
     have hT8 : ∀ k, (fun k => T k ∨ (w.heap.size ≤ k ∧ k ≤ w.heap.size + 1 + 1)) k → k < w8.heap.size := fun k hk => hk.elim (fun h => by have := hTl k h; omega) (fun h => by omega)
     have hHr := dhear_any r2 f m.s (.slice A2 r2.v.l.length cA2) (.slice B2 r2.log.length cB2) (.slice C2 r2.acks.length cC2) w8 hD8 hT8
     go_upto_region 17 with (go_at_call 53; (with_reducible refine hHr.mono ?_); rintro e w5 ⟨Ah, rfl, hO5, hD5, hb5⟩)
     have s5 := hb5.size
     have hbA : Below w5.heap.size w5 (w5.alloc (.cells #[.int .i64 (hearP r2 m.s).id, .int .i64 (hearP r2 m.s).v.e, .int .i64 (hearP r2 m.s).v.p, (.slice A2 r2.v.l.length cA2), (.slice B2 r2.log.length cB2), .int .i64 (hearP r2 m.s).joined, .int .i64 ((hearP r2 m.s).sure : Int), (.slice C2 r2.acks.length cC2), .bool (hearP r2 m.s).act] 34)) := Below.alloc (Below.refl _ _) (Nat.le_refl _) _
     have hb85 := hb5.trans (hbA.mono s5)
     refine abstr (fun W => Below w.heap.size w W ∧ Blk W w5.heap.size 34 #[.int .i64 (hearP r2 m.s).id, .int .i64 (hearP r2 m.s).v.e, .int .i64 (hearP r2 m.s).v.p, (.slice A2 r2.v.l.length cA2), (.slice B2 r2.log.length cB2), .int .i64 (hearP r2 m.s).joined, .int .i64 ((hearP r2 m.s).sure : Int), (.slice C2 r2.acks.length cC2), .bool (hearP r2 m.s).act] ∧ Blk W (w.heap.size + 1 + 1) 34 #[.int .i64 0, .int .i64 0, .int .i64 0, .slice none 0 0, .slice none 0 0, .int .i64 0, .int .i64 0, .slice none 0 0, .bool false] ∧ DrW W (fun k => T k ∨ (w.heap.size ≤ k ∧ k ≤ w.heap.size + 1 + 1)) (.slice A2 r2.v.l.length cA2) (.slice B2 r2.log.length cB2) (.slice C2 r2.acks.length cC2) (hearP r2 m.s) ∧ Recs W (fun k => T k ∨ (w.heap.size ≤ k ∧ k ≤ w.heap.size + 1 + 1)) A8 n8 (R9 ++ R2) ∧ Outs W (fun k => T k ∨ (w.heap.size ≤ k ∧ k ≤ w.heap.size + 1 + 1)) Ah 1 (hearO r2 f)) ⟨hb8.trans (hb85.mono sB8), Blk.new _ _ _, hZ8.below hb85 lZ8, hD5.kp (Kp.of_below hbA), hR8.kp (Kp.of_below hb85), hO5.kp (Kp.of_below hbA)⟩ (fun w9 hW9 => ?_)
     have hq5 : w.heap.size + 1 + 1 < w5.heap.size := by omega
     clear hbA hb85 hD5 hO5 hb5 hHr hT8 cB8 cM8 s5
     generalize w5.heap.size = q at *
     obtain ⟨hb9, hB9, hZ9, hD9, hR9, hO9⟩ := hW9
     have lB9 := hB9.lt
     have lZ9 := hZ9.lt
     refine wp_region_kp (fun k => k = w.heap.size + 1 + 1) [2] [0, 1] [(true, false, 0), (true, false, 1), (true, true, 2), (false, true, 3), (false, true, 4), (false, false, 5)] (by kernel_rfl) (by kernel_rfl) (fun X => ?_); simp only [List.map_cons, List.map_nil, List.getD_cons_zero, List.getD_cons_succ]; (have hne : ¬(q = w.heap.size + 1 + 1) := by omega); (repeat (first | (refine wfp fun K hK => ?_; go_simp; refine hK _ _ ?_; clear hK K) | (refine wff fun K hK => ?_; go_simp; refine hK _ _ ?_; clear hK K))); (refine first_readG rfl (v := .agg #[.int .i64 (hearP r2 m.s).id, .int .i64 (hearP r2 m.s).v.e, .int .i64 (hearP r2 m.s).v.p, (.slice A2 r2.v.l.length cA2), (.slice B2 r2.log.length cB2), .int .i64 (hearP r2 m.s).joined, .int .i64 ((hearP r2 m.s).sure : Int), (.slice C2 r2.acks.length cC2), .bool (hearP r2 m.s).act]) (fun w' hw' => ?_) (fun K hK => ?_); rotate_left 1; go_simp; refine hK _ _ ?_; clear hK K; rotate_left 1; (have hB' := Blk.kp (Blk.ext hB9 _) hw' hne; have c' := Blk.cell hB'; go_simp)); (repeat (first | (refine wfp fun K hK => ?_; go_simp; refine hK _ _ ?_; clear hK K) | (refine wff fun K hK => ?_; go_simp; refine hK _ _ ?_; clear hK K))); (have hbX := hb9.trans ((World.below_ext w9 X).mono hb9.size)); (have hkX : Kp (fun k => T k ∨ (w.heap.size ≤ k ∧ k ≤ w.heap.size + 1 + 1)) w9 (w9.ext X) := Kp.of_below (World.below_ext w9 X)); have hZX := hZ9.ext X; have hDX := hD9.kp hkX; (have hRX := hR9.kp hkX); (have hOX := hO9.kp hkX); clear hkX; generalize w9.ext X = V at *; (have c2 := hZX.cell); (have f2 := hZX.frozen); (have l2 := hZX.lt); (repeat (refine First.wpF_must (fun K hK => ?_); go_wp2; (refine hK _ _ (fun hnd => by first | exact Bool.noConfusion hnd | exact Kp.refl _ _) ?_; clear hK K); (repeat (first | (refine wfp fun K hK => ?_; go_simp; refine hK _ _ ?_; clear hK K) | (refine wff fun K hK => ?_; go_simp; refine hK _ _ ?_; clear hK K))))); (try (refine First.wpF_must (fun K hK => ?_); go_wp2; (refine hK _ _ (fun hnd => by first | exact Bool.noConfusion hnd | exact Kp.nine _ (w.heap.size + 1 + 1) _ _ _ _ _ _ _ _ _) ?_; clear hK K); (repeat (first | (refine wfp fun K hK => ?_; go_simp; refine hK _ _ ?_; clear hK K) | (refine wff fun K hK => ?_; go_simp; refine hK _ _ ?_; clear hK K))))); refine First.wpF_nil ?_; go_wp2; refine bodyPost_ttc Tryz.results18 rfl (Blk.nine hZX) Tryz.underlying34 rfl (by kernel_rfl) rfl ?_
     exact ⟨(.slice A2 r2.v.l.length cA2), (.slice B2 r2.log.length cB2), (.slice C2 r2.acks.length cC2), A8, n8, c8, Ah, 1, 1, rfl, (hRX.kp (Kp.weaken (Kp.nine V (w.heap.size + 1 + 1) _ _ _ _ _ _ _ _ _) fun k hk => .inr (by omega))).sub fun k _ hk => .inl hk, (hOX.kp (Kp.weaken (Kp.nine V (w.heap.size + 1 + 1) _ _ _ _ _ _ _ _ _) fun k hk => .inr (by omega))).sub fun k _ hk => .inl hk, (hDX.kp (Kp.weaken (Kp.nine V (w.heap.size + 1 + 1) _ _ _ _ _ _ _ _ _) fun k hk => .inr (by omega))).sub fun k _ hk => .inl hk, hbX.trans (Kp.below (Kp.nine V (w.heap.size + 1 + 1) _ _ _ _ _ _ _ _ _) hbX.size (fun k hk => by omega))⟩
   ·have q1 : (r1.joined != r1.v.e) = true := by simpa using t1
    have htk := hide (show takes r1 m = true by unfold takes; rw [show (r1.joined == r1.v.e) = false by simpa using t1]; rfl)
    clear t1
    have hr2' := hide <| show r2 = { r1 with joined := r1.v.e, log := m.log } by rw [← hr2.out]; unfold offer2; rw [if_pos htk.out]
    have hR2' := hide <| show R2 = [recLogP r1.v.e m.log] by rw [← hR2.out]; unfold offer2R; rw [if_pos htk.out]
    clear htk hr2 hR2
    go_upto_region 16 with (first | (go_at_call 52; (with_reducible refine (hRl _ (by (repeat' (first | with_reducible (first | exact Below.refl _ _ | refine Below.ext ?_ ?_ _ | refine Below.alloc ?_ ?_ _ | refine Below.setCell ?_ ?_ _ | refine Below.drew ?_ | assumption) | (simp [World.size_ext]; done) | (simp [World.size_ext]; omega))))).mono ?_); rintro e w6 ⟨u, rfl, hRow, hb6⟩; obtain ⟨uA, uc, rfl, _⟩ := own_sl hRow; have hbs6 : Bsl w6 (fun k => (fun k => T k ∨ (w.heap.size ≤ k ∧ k ≤ w.heap.size + 1 + 1)) k ∨ (Value.slice A9 n9 c9).ownBlock = some k) (.slice uA (recLogP r1.v.e m.log).length uc) (recLogP r1.v.e m.log) := Bsl.row hRow (T := (fun k => (fun k => T k ∨ (w.heap.size ≤ k ∧ k ≤ w.heap.size + 1 + 1)) k ∨ (Value.slice A9 n9 c9).ownBlock = some k)) (fun k hk => by simp only [World.size_setCell]; exact hk.elim (fun h => h.elim (fun h => by have := hTl k h; omega) (fun h => by omega)) (fun h => (hR5.lt k h).2)) (recLog_by he1 hmok hml4)) | (at_builtin; go_loud (refine app_rec rfl (.tmp 118) (.tmp 124) rfl (fun k => T k ∨ (w.heap.size ≤ k ∧ k ≤ w.heap.size + 1 + 1)) (w.heap.size + 1 + 1 + 1) (.slice A9 n9 c9) R9 (recLogP r1.v.e m.log, .slice uA (recLogP r1.v.e m.log).length uc) _ rfl rfl (hRW.below hb6) hbs6 _ rfl rfl (by omega) (by have := hb6.size; simp only [World.size_setCell] at this; omega) (fun v' w7 hR7 hc7 hk7 => ?_))))
    have s6 := hb6.size
    have hW5 := hkW.size
    have hbA : Below w6.heap.size w6 (w6.alloc (.cells #[.slice uA (recLogP r1.v.e m.log).length uc] 36)) := Below.alloc (Below.refl _ _) (Nat.le_refl _) _
    have hk57 := ((hkW.weaken (T := fun k => k = w.heap.size ∨ (Value.slice A9 n9 c9).ownBlock = some k) (fun k hk => .inl hk)).trans (Kp.of_below (hb6.trans (hbA.mono s6)))).trans (hk7.weaken (fun k hk => .inr hk))
    have hb57 := Kp.below hk57 (show w.heap.size ≤ w5.heap.size by omega) (fun k hk => hk.elim (fun h => by omega) (fun h => by have := (hR5.lt k h).1; omega))
    have hbw7 : Below w.heap.size w w7 := hb5.trans hb57
    have hE7 : Ents w7 (fun k => (fun k => T k ∨ (w.heap.size ≤ k ∧ k ≤ w.heap.size + 1 + 1)) k ∨ (Value.slice A9 n9 c9).ownBlock = some k) Bv m.log.length m.log := ((hEm.sub (T' := fun k => T k ∨ w.heap.size ≤ k) (fun k hk ht => ht.elim id (fun h => by omega))).kp (Kp.of_below hbw7)).sub (fun k _ hk => hk.elim (fun h => h.elim .inl (fun h => .inr h.1)) (fun h => .inr (by have := (hR5.lt k h).1; omega)))
    have hD7 := ((hD5.kp (hk57.weaken (T := (fun k => (fun k => T k ∨ (w.heap.size ≤ k ∧ k ≤ w.heap.size + 1 + 1)) k ∨ (Value.slice A9 n9 c9).ownBlock = some k)) (fun k hk => hk.elim (fun h => .inl (.inr (by omega))) .inr))).relog hE7 hcap r1.v.e).sub (T' := (fun k => T k ∨ (w.heap.size ≤ k ∧ k ≤ w.heap.size + 1 + 1))) (fun k _ hk => .inl hk)
    obtain ⟨A8, n8, c8, rfl, hRc8⟩ := OwnR.recs2 hR7 (fun k hk hT => by have := (hR7.lt k hk).1; exact hT.elim (fun h => by have := hTl k h; omega) (fun h => by omega))
    have hn7 : ∀ k, k < w5.heap.size → k ≠ w.heap.size → (Value.slice A9 n9 c9).ownBlock ≠ some k → w7.heap[k]? = w5.heap[k]? := fun k hk h1 h2 => hk57.block k hk (fun e => e.elim h1 h2)
    have hB6 := ((hB5.set_ 5 (.int .i64 r1.v.e)).set_ 4 (.slice Bv m.log.length dv)).below hb6 (by simp only [World.size_setCell]; exact lB5)
    have hB7 : Blk w7 w.heap.size 34 _ := (hc7.block w.heap.size hB6.lt (fun e => by have := (hR5.lt _ e).1; omega)).trans hB6
    refine abstr (fun W => Below w.heap.size w W ∧ Blk W w.heap.size 34 #[.int .i64 r2.id, .int .i64 r2.v.e, .int .i64 r2.v.p, (.slice A1 r1.v.l.length cA1), (.slice Bv m.log.length dv), .int .i64 r2.joined, .int .i64 (r2.sure : Int), (.slice C1 r1.acks.length fC1), .bool r2.act] ∧ Blk W (w.heap.size + 1) 38 #[.int .i64 m.k, .int .i64 m.e, .int .i64 m.v.e, .int .i64 m.v.p, (.slice Av m.v.l.length cv), .int .i64 m.i, .int .i64 m.s, (.slice Bv m.log.length dv)] ∧ Blk W (w.heap.size + 1 + 1) 34 #[.int .i64 0, .int .i64 0, .int .i64 0, .slice none 0 0, .slice none 0 0, .int .i64 0, .int .i64 0, .slice none 0 0, .bool false] ∧ DrW W (fun k => T k ∨ (w.heap.size ≤ k ∧ k ≤ w.heap.size + 1 + 1)) (.slice A1 r1.v.l.length cA1) (.slice Bv m.log.length dv) (.slice C1 r1.acks.length fC1) r2 ∧ Recs W (fun k => T k ∨ (w.heap.size ≤ k ∧ k ≤ w.heap.size + 1 + 1)) A8 n8 (R9 ++ R2)) ⟨hbw7, by rw [hr2'.out]; exact hB7, (hn7 _ lM5 (by omega) (fun e => by have := (hR5.lt _ e).1; omega)).trans hM5, (hn7 _ lZ5 (by omega) (fun e => by have := (hR5.lt _ e).1; omega)).trans hZ5, by rw [hr2'.out]; exact hD7, by rw [hR2'.out]; exact hRc8⟩ (fun w8 hW8 => ?_)
    clear hB7 hB6 hn7 hRc8 hD7 hE7 hbw7 hb57 hk57 hbA hW5 s6 hR7 hc7 hk7 hbs6 hRow hb6 hRW hkW hRl hR5 hD5 hB5 hM5 hZ5 hb5 cB5 cM5 fB5 lB5 lM5 lZ5 s5
    obtain ⟨hb8, hB8, hM8, hZ8, hD8, hR8⟩ := hW8
    obtain ⟨A2, cA2, B2, cB2, C2, cC2, eA, eB, eC⟩ := hD8.sl
    rw [eA, eB, eC] at hB8 hD8
    clear eA eB eC
    have sB8 := hb8.size
    have cB8 := hB8.cell
    have lB8 := hB8.lt
    have cM8 := hM8.cell
    have lM8 := hM8.lt
    have lZ8 := hZ8.lt
    have hT8 : ∀ k, (fun k => T k ∨ (w.heap.size ≤ k ∧ k ≤ w.heap.size + 1 + 1)) k → k < w8.heap.size := fun k hk => hk.elim (fun h => by have := hTl k h; omega) (fun h => by omega)
    have hHr := dhear_any r2 f m.s (.slice A2 r2.v.l.length cA2) (.slice B2 r2.log.length cB2) (.slice C2 r2.acks.length cC2) w8 hD8 hT8
    go_upto_region 17 with (go_at_call 53; (with_reducible refine hHr.mono ?_); rintro e w5 ⟨Ah, rfl, hO5, hD5, hb5⟩)
    have s5 := hb5.size
    have hbA : Below w5.heap.size w5 (w5.alloc (.cells #[.int .i64 (hearP r2 m.s).id, .int .i64 (hearP r2 m.s).v.e, .int .i64 (hearP r2 m.s).v.p, (.slice A2 r2.v.l.length cA2), (.slice B2 r2.log.length cB2), .int .i64 (hearP r2 m.s).joined, .int .i64 ((hearP r2 m.s).sure : Int), (.slice C2 r2.acks.length cC2), .bool (hearP r2 m.s).act] 34)) := Below.alloc (Below.refl _ _) (Nat.le_refl _) _
    have hb85 := hb5.trans (hbA.mono s5)
    refine abstr (fun W => Below w.heap.size w W ∧ Blk W w5.heap.size 34 #[.int .i64 (hearP r2 m.s).id, .int .i64 (hearP r2 m.s).v.e, .int .i64 (hearP r2 m.s).v.p, (.slice A2 r2.v.l.length cA2), (.slice B2 r2.log.length cB2), .int .i64 (hearP r2 m.s).joined, .int .i64 ((hearP r2 m.s).sure : Int), (.slice C2 r2.acks.length cC2), .bool (hearP r2 m.s).act] ∧ Blk W (w.heap.size + 1 + 1) 34 #[.int .i64 0, .int .i64 0, .int .i64 0, .slice none 0 0, .slice none 0 0, .int .i64 0, .int .i64 0, .slice none 0 0, .bool false] ∧ DrW W (fun k => T k ∨ (w.heap.size ≤ k ∧ k ≤ w.heap.size + 1 + 1)) (.slice A2 r2.v.l.length cA2) (.slice B2 r2.log.length cB2) (.slice C2 r2.acks.length cC2) (hearP r2 m.s) ∧ Recs W (fun k => T k ∨ (w.heap.size ≤ k ∧ k ≤ w.heap.size + 1 + 1)) A8 n8 (R9 ++ R2) ∧ Outs W (fun k => T k ∨ (w.heap.size ≤ k ∧ k ≤ w.heap.size + 1 + 1)) Ah 1 (hearO r2 f)) ⟨hb8.trans (hb85.mono sB8), Blk.new _ _ _, hZ8.below hb85 lZ8, hD5.kp (Kp.of_below hbA), hR8.kp (Kp.of_below hb85), hO5.kp (Kp.of_below hbA)⟩ (fun w9 hW9 => ?_)
    have hq5 : w.heap.size + 1 + 1 < w5.heap.size := by omega
    clear hbA hb85 hD5 hO5 hb5 hHr hT8 cB8 cM8 s5
    generalize w5.heap.size = q at *
    obtain ⟨hb9, hB9, hZ9, hD9, hR9, hO9⟩ := hW9
    have lB9 := hB9.lt
    have lZ9 := hZ9.lt
    refine wp_region_kp (fun k => k = w.heap.size + 1 + 1) [2] [0, 1] [(true, false, 0), (true, false, 1), (true, true, 2), (false, true, 3), (false, true, 4), (false, false, 5)] (by kernel_rfl) (by kernel_rfl) (fun X => ?_); simp only [List.map_cons, List.map_nil, List.getD_cons_zero, List.getD_cons_succ]; (have hne : ¬(q = w.heap.size + 1 + 1) := by omega); (repeat (first | (refine wfp fun K hK => ?_; go_simp; refine hK _ _ ?_; clear hK K) | (refine wff fun K hK => ?_; go_simp; refine hK _ _ ?_; clear hK K))); (refine first_readG rfl (v := .agg #[.int .i64 (hearP r2 m.s).id, .int .i64 (hearP r2 m.s).v.e, .int .i64 (hearP r2 m.s).v.p, (.slice A2 r2.v.l.length cA2), (.slice B2 r2.log.length cB2), .int .i64 (hearP r2 m.s).joined, .int .i64 ((hearP r2 m.s).sure : Int), (.slice C2 r2.acks.length cC2), .bool (hearP r2 m.s).act]) (fun w' hw' => ?_) (fun K hK => ?_); rotate_left 1; go_simp; refine hK _ _ ?_; clear hK K; rotate_left 1; (have hB' := Blk.kp (Blk.ext hB9 _) hw' hne; have c' := Blk.cell hB'; go_simp)); (repeat (first | (refine wfp fun K hK => ?_; go_simp; refine hK _ _ ?_; clear hK K) | (refine wff fun K hK => ?_; go_simp; refine hK _ _ ?_; clear hK K))); (have hbX := hb9.trans ((World.below_ext w9 X).mono hb9.size)); (have hkX : Kp (fun k => T k ∨ (w.heap.size ≤ k ∧ k ≤ w.heap.size + 1 + 1)) w9 (w9.ext X) := Kp.of_below (World.below_ext w9 X)); have hZX := hZ9.ext X; have hDX := hD9.kp hkX; (have hRX := hR9.kp hkX); (have hOX := hO9.kp hkX); clear hkX; generalize w9.ext X = V at *; (have c2 := hZX.cell); (have f2 := hZX.frozen); (have l2 := hZX.lt); (repeat (refine First.wpF_must (fun K hK => ?_); go_wp2; (refine hK _ _ (fun hnd => by first | exact Bool.noConfusion hnd | exact Kp.refl _ _) ?_; clear hK K); (repeat (first | (refine wfp fun K hK => ?_; go_simp; refine hK _ _ ?_; clear hK K) | (refine wff fun K hK => ?_; go_simp; refine hK _ _ ?_; clear hK K))))); (try (refine First.wpF_must (fun K hK => ?_); go_wp2; (refine hK _ _ (fun hnd => by first | exact Bool.noConfusion hnd | exact Kp.nine _ (w.heap.size + 1 + 1) _ _ _ _ _ _ _ _ _) ?_; clear hK K); (repeat (first | (refine wfp fun K hK => ?_; go_simp; refine hK _ _ ?_; clear hK K) | (refine wff fun K hK => ?_; go_simp; refine hK _ _ ?_; clear hK K))))); refine First.wpF_nil ?_; go_wp2; refine bodyPost_ttc Tryz.results18 rfl (Blk.nine hZX) Tryz.underlying34 rfl (by kernel_rfl) rfl ?_
    exact ⟨(.slice A2 r2.v.l.length cA2), (.slice B2 r2.log.length cB2), (.slice C2 r2.acks.length cC2), A8, n8, c8, Ah, 1, 1, rfl, (hRX.kp (Kp.weaken (Kp.nine V (w.heap.size + 1 + 1) _ _ _ _ _ _ _ _ _) fun k hk => .inr (by omega))).sub fun k _ hk => .inl hk, (hOX.kp (Kp.weaken (Kp.nine V (w.heap.size + 1 + 1) _ _ _ _ _ _ _ _ _) fun k hk => .inr (by omega))).sub fun k _ hk => .inl hk, (hDX.kp (Kp.weaken (Kp.nine V (w.heap.size + 1 + 1) _ _ _ _ _ _ _ _ _) fun k hk => .inr (by omega))).sub fun k _ hk => .inl hk, hbX.trans (Kp.below (Kp.nine V (w.heap.size + 1 + 1) _ _ _ _ _ _ _ _ _) hbX.size (fun k hk => by omega))⟩
end Go.Proofs.YtjhcgnmibnjocaaGreat
