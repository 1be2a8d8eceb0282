import Derived.Test.YtjhcgnmibnjocaaGreatGV
/-! The law's step: Propose. -/
namespace Go.Proofs.YtjhcgnmibnjocaaGreat
open Go.RowKit Go.Maps
set_option linter.unusedVariables false
set_option linter.unusedSimpArgs false
set_option maxRecDepth 100000 in
set_option maxHeartbeats 40000000 in
theorem arm1 : Arm (fun kd => kd = 1) := by
 unfold Arm
 intro id k j g pm p w W3 S T r A8 Am B C A1 A2 B2 uA n8 c8 cm d f0 c1 c2 d2 uc L kd f v t m Q y1 y2 y3 y4 y6
 iterate 278 intro _
 intro hk hk0 hPin b1 b3 b4 hl1 hl2 hl3 hv1 hv2 hv3 hU hun hm1 hm2 hm3 hE hEn hi hf hcpx hpw hpo hTp hP3 hO3 hQ hK
 have k1 : kd = 1 := hK
 clear hK
 have hbW := hP3.b
 have hsW := hbW.size
 have cO := hO3.cell
 have lO := hO3.lt
 have hkW := Kp.of_below (S := fun k => w.heap.size ≤ k) hbW
 have hrok := hP3.rel.sub.2.2.1
 have hn4 := hrok.n
 have hA1l : 0 < v.l.length → ∀ a, A1 = some a → a.block < w.heap.size := fun h0 a ha => by
  obtain ⟨a', e', hl', _⟩ := hv1.2 h0
  rw [ha] at e'; cases e'; exact hl'
 have hL7 : L.length ≤ 1000000 := by have := hPin.ln; omega
 refine wp_path rfl ?_
 subst k1
 go_upto_region 22 with fail
 obtain ⟨v5, w5, hap5, hrow, hb5⟩ := run_copyU W3 _ t (hU.kp hkW) (by omega)
 obtain ⟨A5, c5, rfl, _⟩ := own_sl hrow
 have hge5 := Row.own_ge hrow
 have hP5 := hP3.more hb5 (X := fun k => (Value.slice A5 t.length c5).ownBlock = some k) hge5
 have hby5 := hU.by_
 have hPr5 := propose_any (.slice A5 t.length c5) t w5 hP5.rel (Bsl.row hrow (T := fun _ => False) (fun _ h => h.elim) hby5) (by omega)
 go_upto_region 24 with (first | (at_builtin; refine wpList_append_run rfl _ _ 36 rfl rfl rfl hap5 ?_) | (go_at_call 10; (with_reducible refine hPr5.mono ?_); rintro e w6 hA6; obtain ⟨S6, hP6, s6, ⟨A6, n6, c6, B6, n7, c7, rfl, hR6, hO6⟩, hk6, hs6⟩ := hP5.aft hA6))
 have hS5 : ∀ k, S k → k < W3.heap.size := fun k hk => hP3.lt k (hP3.rel.sub.1 k hk)
 have hn6 : ∀ k, (Value.slice A5 t.length c5).ownBlock = some k → ¬S6 k := fun k e h => (hs6 k h).elim (fun h => by have := hS5 k h; have := (hge5 k e).1; omega) (fun h => by have := (hge5 k e).2; omega)
 have hrow6 : Row w6 W3.heap.size (.slice A5 t.length c5) t := own_keep hrow (fun k hb' hl' => hk6.block k hl' (fun h => by have := hS5 k h; omega))
 have hOb6 := Blk.kp (hO3.below hb5 lO) hk6 (fun e => by have := hTp _ (hP3.rel.sub.1 _ e); omega)
 have hop : ∀ k, (Value.slice A5 t.length c5).ownBlock = some k → k ≠ p ∧ k ≠ pm ∧ (Value.slice A8 n8 c8).ownBlock ≠ some k := fun k e => ⟨by have := (hge5 k e).1; omega, by have := (hge5 k e).1; omega, fun e' => by have := hP3.lt k (hP3.ow k e').1; have := (hge5 k e).1; omega⟩
 obtain ⟨b5, hb5e⟩ : ∃ b5 : Nat, 0 < t.length → A5 = some ⟨b5, 0, none⟩ ∧ Buf w6 b5 t.length := by
  rcases Nat.eq_zero_or_pos t.length with h | h
  ·exact ⟨0, fun h' => by omega⟩
  ·obtain ⟨b5, h1, h2⟩ := Buf.of_row hrow6 rfl h
   exact ⟨b5, fun _ => ⟨h1, h2⟩⟩
 go_wp2_with fail
 go_loopw [138] (fun vi wr => ∃ i : Nat, i ≤ t.length ∧ vi = .int .i64 (i : Int) ∧ (0 < t.length → Buf wr b5 t.length) ∧ Kp (fun k => (Value.slice A5 t.length c5).ownBlock = some k) w6 wr) (fun vi _ => ((t.length : Int) - intOf vi).toNat)
 case atStart => exact ⟨0, by omega, rfl, fun h => (hb5e h).2, Kp.refl _ _⟩
 case round =>
  obtain ⟨i, hi, rfl, hBf, hkr⟩ := hrel
  obtain ⟨w7, rfl⟩ : ∃ w7 : World, w7 = wr := ⟨_, rfl⟩
  by_cases hil : i < t.length
  ·have hil' : (i : Int) < t.length := by omega
   have x0 : decide ((i : Int) < t.length) = true := decide_eq_true hil'
   obtain ⟨hA5, _⟩ := hb5e (by omega)
   subst hA5
   have hBf' := hBf (by omega)
   obtain ⟨cur, hBc, hxc⟩ := hBf'
   obtain ⟨y, hy⟩ := hxc i hil
   have mc : w7.cell? ⟨b5, i, none⟩ = some (.int .u8 y) := by rw [hBc.cell]; exact hy
   have mf := hBc.frozen i
   have ml := hBc.lt
   go_wp2_with fail
   go_roundw
   case rel => exact ⟨i + 1, by omega, by go_num, fun h => (hBf h).set_, hkr.set_ (p := ⟨b5, i, none⟩) (.inl rfl) _⟩
   case measure => simp [intOf]; omega
  ·obtain rfl : i = t.length := by omega
   have x0 : decide ((t.length : Int) < t.length) = false := by simp
   have hP7 := hP6.far hkr (fun k e => ⟨.inl (.inr e), hn6 k e, (hop k e).2.1, (hop k e).2.2⟩)
   have hO7 := Blk.kp hOb6 hkr (fun e => (hop p e).1 rfl)
   have hR7 := hR6.kp (hkr.weaken (T := fun k => (T k ∨ (Value.slice A5 t.length c5).ownBlock = some k) ∨ S6 k) (fun k e => .inl (.inr e)))
   have hOu7 := hO6.kp (hkr.weaken (T := fun k => (T k ∨ (Value.slice A5 t.length c5).ownBlock = some k) ∨ S6 k) (fun k e => .inl (.inr e)))
   have hPr7 := dpropose_any (T := fun k => (T k ∨ (Value.slice A5 t.length c5).ownBlock = some k) ∨ S6 k) r t (.slice uA t.length uc) _ _ _ w7 hP7.dr hP7.lt hrok (hU.kp (Kp.of_below (S := fun k => w.heap.size ≤ k) hP7.b)) (by omega)
   have cP7 := hP7.blk.cell
   have lP7 := hP7.blk.lt
   have cO7 := hO7.cell
   have lO7 := hO7.lt
   have hPn := hPin.propose hrok (by omega) hU.by_
   have hSr := sr_propose hrok (x := t) (by omega) hU.by_
   have hob := propose_outs r t hrok
   generalize proposeP r t = PR at *
   go_upto_region 30 with (go_at_call 11; (with_reducible refine hPr7.mono ?_); rintro e w8 ⟨vl', va', B1, m1, d1, B2', m2, d2', rfl, hRw, hOw, hD8, hb8⟩; obtain ⟨Bl, cl', rfl⟩ := hD8.sll; obtain ⟨Ba, ca', rfl⟩ := hD8.sla)
   have hbA : Below w8.heap.size w8 (w8.alloc (.cells #[.int .i64 PR.r.id, .int .i64 PR.r.v.e, .int .i64 PR.r.v.p, (.slice Am r.v.l.length cm), (.slice Bl PR.r.log.length cl'), .int .i64 PR.r.joined, .int .i64 (PR.r.sure : Int), (.slice Ba PR.r.acks.length ca'), .bool PR.r.act] 34)) := Below.alloc (Below.refl _ _) (Nat.le_refl _) _
   have hb8A := hb8.trans (hbA.mono hb8.size)
   refine abstr (fun W => PlX w W S6 (fun k => (T k ∨ (Value.slice A5 t.length c5).ownBlock = some k) ∨ S6 k) g pm PR.r r (.slice A8 n8 c8) (.slice Am r.v.l.length cm) (.slice B r.log.length d) (.slice C r.acks.length f0) L ∧ Blk W w8.heap.size 34 #[.int .i64 PR.r.id, .int .i64 PR.r.v.e, .int .i64 PR.r.v.p, (.slice Am r.v.l.length cm), (.slice Bl PR.r.log.length cl'), .int .i64 PR.r.joined, .int .i64 (PR.r.sure : Int), (.slice Ba PR.r.acks.length ca'), .bool PR.r.act] ∧ DrW W (fun k => (T k ∨ (Value.slice A5 t.length c5).ownBlock = some k) ∨ S6 k) (.slice Am r.v.l.length cm) (.slice Bl PR.r.log.length cl') (.slice Ba PR.r.acks.length ca') PR.r ∧ Recs W (fun k => (T k ∨ (Value.slice A5 t.length c5).ownBlock = some k) ∨ S6 k) A6 n6 PR.recs ∧ Recs W (fun k => (T k ∨ (Value.slice A5 t.length c5).ownBlock = some k) ∨ S6 k) B1 m1 PR.recs ∧ Outs W (fun k => (T k ∨ (Value.slice A5 t.length c5).ownBlock = some k) ∨ S6 k) B6 n7 PR.outs ∧ Outs W (fun k => (T k ∨ (Value.slice A5 t.length c5).ownBlock = some k) ∨ S6 k) B2' m2 PR.outs) ⟨hP7.below hb8A, Blk.new _ _ _, hD8.kp (Kp.of_below hbA), hR7.kp (Kp.of_below hb8A), hRw.kp (Kp.of_below hbA), hOu7.kp (Kp.of_below hb8A), hOw.kp (Kp.of_below hbA)⟩ (fun W9 hW9 => ?_)
   have hqpm : pm < w8.heap.size := by have := hb8.size; omega
   clear hbA hb8A hD8 hRw hOw hb8 cP7 lP7 cO7 lO7 hPr7 hOu7 hR7 hO7 hP7 hBf hkr hb5e hop hOb6 hrow6 hn6 hS5 hR6 hO6 hP6 hA6 hk6 hs6 s6 hPr5 hP5 hge5 hrow hap5 hb5 hP3 hO3 cO lO
   generalize w8.heap.size = q at *
   generalize (fun k => (T k ∨ (Value.slice A5 t.length c5).ownBlock = some k) ∨ S6 k) = T9 at *
   obtain ⟨hP9, hQ9, hD9, hR9, hR9', hO9, hO9'⟩ := hW9
   obtain rfl : m2 = n7 := hO9'.len.symm.trans hO9.len
   have hn7 := hO9.len
   have x1 : (((PR.at_ : Nat) : Int) != ((PR.at_ : Nat) : Int)) = false := by simp
   have x2 : (PR.e != PR.e) = false := by simp
   refine wp_region_kp (fun k => k = pm) [2] [0, 1] [(true, false, 0), (true, false, 1), (true, true, 2), (false, true, 3), (false, true, 4), (false, false, 5)] (by kernel_rfl) (by kernel_rfl) (fun X => ?_); simp only [List.map_cons, List.map_nil, List.getD_cons_zero, List.getD_cons_succ]
   have hne : ¬(q = pm) := fun e => absurd hqpm (by rw [e]; exact Nat.lt_irrefl _)
   (repeat (first | (refine wfp fun K hK => ?_; go_simp; refine hK _ _ ?_; clear hK K) | (refine wff fun K hK => ?_; go_simp; refine hK _ _ ?_; clear hK K)))
   (refine first_readG rfl (v := .agg #[.int .i64 PR.r.id, .int .i64 PR.r.v.e, .int .i64 PR.r.v.p, (.slice Am r.v.l.length cm), (.slice Bl PR.r.log.length cl'), .int .i64 PR.r.joined, .int .i64 (PR.r.sure : Int), (.slice Ba PR.r.acks.length ca'), .bool PR.r.act]) (fun w' hw' => ?_) (fun K hK => ?_); rotate_left 1; go_simp; refine hK _ _ ?_; clear hK K; rotate_left 1; (have hB' := Blk.kp (Blk.ext hQ9 _) hw' hne; have c' := Blk.cell hB'; go_simp))
   (repeat (first | (refine wfp fun K hK => ?_; go_simp; refine hK _ _ ?_; clear hK K) | (refine wff fun K hK => ?_; go_simp; refine hK _ _ ?_; clear hK K)))
   have hbX : Below W9.heap.size W9 (W9.ext X) := World.below_ext _ _
   have hPX := hP9.below hbX
   have hDX := hD9.kp (Kp.of_below hbX)
   have hRX := hR9.kp (Kp.of_below hbX)
   have hRX' := hR9'.kp (Kp.of_below hbX)
   have hOX := hO9.kp (Kp.of_below hbX)
   have hOX' := hO9'.kp (Kp.of_below hbX)
   clear hP9 hD9 hR9 hR9' hO9 hO9' hQ9 hbX
   generalize W9.ext X = V at *
   have c2' := hPX.blk.cell
   have f2' := hPX.blk.frozen
   have l2' := hPX.blk.lt
   refine First.wpF_must (fun K hK => ?_)
   go_wp2
   (refine hK _ _ (fun hnd => by first | exact Bool.noConfusion hnd | exact Kp.refl _ _) ?_; clear hK K)
   (repeat (first | (refine wfp fun K hK => ?_; go_simp; refine hK _ _ ?_; clear hK K) | (refine wff fun K hK => ?_; go_simp; refine hK _ _ ?_; clear hK K)))
   refine First.wpF_must (fun K hK => ?_)
   go_wp2
   (refine hK _ _ (fun hnd => by first | exact Bool.noConfusion hnd | exact Kp.refl _ _) ?_; clear hK K)
   (repeat (first | (refine wfp fun K hK => ?_; go_simp; refine hK _ _ ?_; clear hK K) | (refine wff fun K hK => ?_; go_simp; refine hK _ _ ?_; clear hK K)))
   refine First.wpF_must (fun K hK => ?_); (refine wpList_store_row (P := Tryz.prog) rfl 34 (.tmp 7) _ rfl pm _ rfl rfl _ _ hPX.blk (by kernel_rfl) rfl (by simp [Value.oneCell']) ?_); go_wp2; (refine hK _ _ (fun hnd => by first | exact Bool.noConfusion hnd | exact Kp.refl _ _) ?_; clear hK K); (repeat (first | (refine wfp fun K hK => ?_; go_simp; refine hK _ _ ?_; clear hK K) | (refine wff fun K hK => ?_; go_simp; refine hK _ _ ?_; clear hK K)))
   refine First.wpF_nil ?_
   have hkN : ∀ cs : Array Value, Kp T9 V (V.setRow pm cs) := fun cs => (Kp.row V pm cs).weaken (fun k hk => by rw [hk]; exact hPX.tp.1)
   refine abstr (fun W => PlX w W S6 T9 g pm PR.r PR.r (.slice A8 n8 c8) (.slice Am r.v.l.length cm) (.slice Bl PR.r.log.length cl') (.slice Ba PR.r.acks.length ca') L ∧ Recs W T9 A6 n6 PR.recs ∧ Recs W T9 B1 m1 PR.recs ∧ Outs W T9 B6 m2 PR.outs ∧ Outs W T9 B2' m2 PR.outs) ⟨hPX.set_ hDX (Kp.row V pm _) (Blk.row hPX.blk rfl), hRX.kp (hkN _), hRX'.kp (hkN _), hOX.kp (hkN _), hOX'.kp (hkN _)⟩ (fun W10 hW10 => ?_)
   clear hkN c2' f2' l2' hPX hDX hRX hRX' hOX hOX' V
   obtain ⟨hP10, hR10, hR10', hO10, hO10'⟩ := hW10
   have hOt := outs_any B6 m2 c7 PR.outs W10 hO10 hP10.lt (by omega) (fun x hx => by have := (hob.2 x hx).1; omega)
   go_upto_region 63 with (first | (go_at_call 13; (with_reducible refine hOt.mono ?_); rintro e w11 ⟨A1o, c1o, rfl, hOo, hb11⟩) | (go_at_call 12; (with_reducible refine (dsameouts_any A1o B2' m2 c1o d2' PR.outs w11 hOo (hO10'.kp (Kp.of_below hb11)) (by omega) (fun x hx => by have := hob.2 x hx; omega)).mono ?_); rintro e w12 ⟨rfl, hb12⟩))
   refine abstr (fun W => Mid w W g pm PR.r (.slice A8 n8 c8) L PR.recs A6 n6 B1 m1) ⟨S6, T9, _, _, _, (hP10.below hb11).below hb12, (hR10.kp (Kp.of_below hb11)).kp (Kp.of_below hb12), (hR10'.kp (Kp.of_below hb11)).kp (Kp.of_below hb12)⟩ (fun W8 hW8 => ?_)
   clear hb11 hb12 hOo hOt hP10 hR10 hR10' hO10 hO10' x1 x2 hob
   generalize PR.r = r' at *
   generalize PR.recs = R at *
   obtain ⟨g', rfl⟩ : ∃ g', g' = g := ⟨_, rfl⟩
   exact hQ.go hW8 hPn hSr
end Go.Proofs.YtjhcgnmibnjocaaGreat
