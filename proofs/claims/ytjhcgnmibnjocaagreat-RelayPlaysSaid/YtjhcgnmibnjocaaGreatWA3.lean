import Derived.Test.YtjhcgnmibnjocaaGreatGV
/-! The law's step: Take. -/
namespace Go.Proofs.YtjhcgnmibnjocaaGreat
open Go.RowKit Go.Maps
set_option linter.unusedVariables false
set_option linter.unusedSimpArgs false
set_option maxRecDepth 100000 in
set_option maxHeartbeats 40000000 in
theorem arm3 : Arm (fun kd => kd = 3) := by
 unfold Arm
 intro id k j g pm p w W3 S T r A8 Am B C A1 A2 B2 uA n8 c8 cm d f0 c1 c2 d2 uc L kd f v t m Q y1 y2 y3 y4 y6
 iterate 278 intro _
 intro hk hk0 hPin b1 b3 b4 hl1 hl2 hl3 hv1 hv2 hv3 hU hun hm1 hm2 hm3 hE hEn hi hf hcpx hpw hpo hTp hP3 hO3 hQ hK
 have k3 : kd = 3 := hK
 clear hK
 have k0' : (kd == 0) = false := by rw [k3]; rfl
 have k1' : (kd == 1) = false := by rw [k3]; rfl
 have k2' : (kd == 2) = false := by rw [k3]; rfl
 have hbW := hP3.b
 have hsW := hbW.size
 have cO := hO3.cell
 have lO := hO3.lt
 have hkW := Kp.of_below (S := fun k => w.heap.size ≤ k) hbW
 have hrok := hP3.rel.sub.2.2.1
 have hn4 := hrok.n
 have hA1l : 0 < v.l.length → ∀ a, A1 = some a → a.block < w.heap.size := fun h0 a ha => by
  obtain ⟨a', e', hl', _⟩ := hv1.2 h0
  rw [ha] at e'; cases e'; exact hl'
 have hL7 : L.length ≤ 1000000 := by have := hPin.ln; omega
 refine wp_path rfl ?_
 have k3t : (kd == 3) = true := by simpa using k3
 clear k3
 have hEm : Ents w (fun k => w.heap.size ≤ k) B2 m.log.length m.log := hE.ents hl3
 have hmok := hEm.okAll
 have hPn := hPin.take hrok f hmok hl1 hl3
 have hSr := sr_take hrok f hmok hl1 hl3
 have hob := take_outs r f m
 have hrW := Reads.kp hm1 (Kp.of_below (S := fun _ => False) hbW) (fun _ _ _ h => h)
 have hto := toF_any (T := fun k => w.heap.size ≤ k) m A2 c2 B2 d2 W3 hrW (hEm.kp hkW) (by omega) (by omega)
 have hS5 : ∀ k, S k → k < W3.heap.size := fun k hk => hP3.lt k (hP3.rel.sub.1 k hk)
 have hT5 := hP3.lt
 have hO5l : ∀ k, (Value.slice A8 n8 c8).ownBlock = some k → k < W3.heap.size := fun k e => hP3.lt k (hP3.ow k e).1
 go_upto_region 38 with (go_at_call 16; (with_reducible refine hto.mono ?_); rintro e w5 ⟨vm5, A3, c3, rfl, hM5, hF5, hb5⟩; obtain ⟨Av5, cv5, rfl, _⟩ := hM5.mem)
 have hs5 := hb5.size
 have hbA : Below w5.heap.size w5 (w5.alloc (.cells #[.int .i64 m.k, .int .i64 m.e, .int .i64 m.v.e, .int .i64 m.v.p, (.slice Av5 m.v.l.length cv5), .int .i64 m.i, .int .i64 m.s, (.slice A3 m.log.length c3)] 60)) := Below.alloc (Below.refl _ _) (Nat.le_refl _) _
 have hb5A := hb5.trans (hbA.mono hs5)
 refine abstr (fun W => PlX w W S (fun k => T k ∨ (W3.heap.size ≤ k ∧ k < w5.heap.size)) g pm r r (.slice A8 n8 c8) (.slice Am r.v.l.length cm) (.slice B r.log.length d) (.slice C r.acks.length f0) L ∧ Blk W p 40 #[.int .i64 kd, .int .i64 v.e, .int .i64 v.p, .slice A1 v.l.length c1, .slice uA t.length uc, .int .i64 f, .int .i64 m.k, .int .i64 m.e, .int .i64 m.v.e, .int .i64 m.v.p, .slice A2 m.v.l.length c2, .int .i64 m.i, .int .i64 m.s, .slice B2 m.log.length d2] ∧ Blk W w5.heap.size 60 #[.int .i64 m.k, .int .i64 m.e, .int .i64 m.v.e, .int .i64 m.v.p, (.slice Av5 m.v.l.length cv5), .int .i64 m.i, .int .i64 m.s, (.slice A3 m.log.length c3)] ∧ MgW W (fun k => k < W3.heap.size) (.slice Av5 m.v.l.length cv5) (.slice A3 m.log.length c3) m ∧ (0 < m.log.length → ∃ b3, A3 = some ⟨b3, 0, none⟩ ∧ EVx W W3.heap.size w5.heap.size b3 m.log.length) ∧ w5.heap.size < W.heap.size) ⟨hP3.more hb5A (fun k hk => ⟨hk.1, by simp only [World.size_alloc]; omega⟩), (hO3.below hb5 lO).below hbA (by have := hb5.size; omega), Blk.new _ _ _, hM5.kp (Kp.of_below hbA), fun h0 => by obtain ⟨b3, g1, g2⟩ := EVx.of hF5 rfl h0 hl3; exact ⟨b3, g1, g2.kp (Kp.of_below (S := fun _ => False) hbA) (fun _ h => h.elim)⟩, by simp only [World.size_alloc]; omega⟩ (fun W5 hW5 => ?_)
 have hple : p < W3.heap.size := lO
 have hpml : pm < W3.heap.size := hP3.blk.lt
 clear hbA hb5A hM5 hF5 hb5 hto hP3 hO3 cO lO
 generalize hlo : W3.heap.size = lo at *
 generalize w5.heap.size = pi at *
 clear hlo
 obtain ⟨hP5, hO5, hMi, hM5, hEv5, hpi⟩ := hW5
 have cO5 := hO5.cell
 have lO5 := hO5.lt
 have cMi := hMi.cell
 have lMi := hMi.lt
 have hTk := take_any_r f m _ _ W5 hP5.rel (hM5.sub (T' := S) (fun k _ hk => hS5 k hk)) (by omega)
 go_upto_region 39 with (go_at_call 17; (with_reducible refine hTk.mono ?_); rintro e w6 hA6; obtain ⟨S6, hP6, s6, ⟨A6, n6, c6, B6, n7, c7, rfl, hR6, hO6⟩, hk6, hs6⟩ := hP5.aft hA6)
 have hSS : ∀ k, S6 k → k < lo ∨ pi < k := fun k hk => (hs6 k hk).elim (fun h => .inl (hS5 k h)) (fun h => .inr (by omega))
 have hMi6 := Blk.kp hMi hk6 (fun e => by have := hS5 _ e; omega)
 have hOb6 := Blk.kp hO5 hk6 (fun e => (hP5.rel.sub.1 _ e).elim (fun h => by have := hTp _ h; omega) (fun h => by omega))
 obtain ⟨b3, hb3⟩ : ∃ b3 : Nat, 0 < m.log.length → A3 = some ⟨b3, 0, none⟩ ∧ EVx w6 lo pi b3 m.log.length := by
  rcases Nat.eq_zero_or_pos m.log.length with h | h
  ·exact ⟨0, fun h' => by omega⟩
  ·obtain ⟨b3, g1, g2⟩ := hEv5 h
   exact ⟨b3, fun _ => ⟨g1, g2.kp hk6 (fun k hk => .inl (hS5 k hk))⟩⟩
 have cM6 := hMi6.cell
 have lM6 := hMi6.lt
 clear hTk hEv5 hM5 hMi cMi lMi cO5 lO5 hO5
 go_wp2_with fail
 go_loopw [201] (fun vi wr => ∃ i : Nat, i ≤ m.log.length ∧ vi = .int .i64 (i : Int) ∧ (0 < m.log.length → EVx wr lo pi b3 m.log.length) ∧ Kp (fun k => lo ≤ k ∧ k < pi) w6 wr) (fun vi _ => ((m.log.length : Int) - intOf vi).toNat)
 case atStart => exact ⟨0, by omega, rfl, fun h => (hb3 h).2, Kp.refl _ _⟩
 case round =>
  clear cM6 lM6
  obtain ⟨i, hi, rfl, hEv, hkr⟩ := hrel
  obtain ⟨w7, rfl⟩ : ∃ w7 : World, w7 = wr := ⟨_, rfl⟩
  have hMi7 := Blk.kp hMi6 hkr (fun e => by omega)
  have cM7 := hMi7.cell
  have lM7 := hMi7.lt
  by_cases hil : i < m.log.length
  ·have hil' : (i : Int) < m.log.length := by omega
   have x0 : decide ((i : Int) < m.log.length) = true := decide_eq_true hil'
   obtain ⟨hA3, _⟩ := hb3 (by omega)
   subst hA3
   have hEv' := hEv (by omega)
   obtain ⟨ge3, lt3, cur, hBc, hxc⟩ := (show EVx _ _ _ _ _ from hEv')
   obtain ⟨⟨ee, hee⟩, Aq, mq, cq, hcq, hmq, hbq⟩ := hxc i hil
   have mc : w7.cell? ⟨b3, i * 2, none⟩ = some (.int .i64 ee) := by rw [hBc.cell]; exact hee
   have mc1 : w7.cell? ⟨b3, i * 2 + 1, none⟩ = some (.slice Aq mq cq) := by rw [hBc.cell]; exact hcq
   have mf := hBc.frozen (i * 2)
   have ml := hBc.lt
   clear hxc hee hcq
   go_upto_block 7 with fail
   obtain ⟨bq, hbq'⟩ : ∃ bq : Nat, 0 < mq → Aq = some ⟨bq, 0, none⟩ ∧ Buf w7 bq mq ∧ lo ≤ bq ∧ bq < pi ∧ bq ≠ b3 := by
    rcases Nat.eq_zero_or_pos mq with h | h
    ·exact ⟨0, fun h' => by omega⟩
    ·obtain ⟨bq, h⟩ := hbq h
     exact ⟨bq, fun _ => h⟩
   clear hbq
   go_wp2_with fail
   go_loopw [216] (fun vi wr => ∃ q : Nat, q ≤ mq ∧ vi = .int .i64 (q : Int) ∧ EVx wr lo pi b3 m.log.length ∧ wr.cell? ⟨b3, i * 2 + 1, none⟩ = some (.slice Aq mq cq) ∧ (0 < mq → Buf wr bq mq) ∧ Kp (fun k => lo ≤ k ∧ k < pi) w6 wr) (fun vi _ => ((mq : Int) - intOf vi).toNat)
   case atStart => exact ⟨0, by omega, rfl, hEv'.epoch, by rw [(hBc.set_ (i * 2) (.int .i64 (-9))).cell, Array.getElem?_setIfInBounds_ne (by omega), ← hBc.cell]; exact mc1, fun h => (hbq' h).2.1.far (hbq' h).2.2.2.2, hkr.set_ (p := ⟨b3, i * 2, none⟩) (.inl ⟨ge3, lt3⟩) _⟩
   case round =>
    clear mc mc1 mf ml cM7 lM7
    obtain ⟨q, hq, rfl, hEq, mcq, hBq, hkq⟩ := hrel
    obtain ⟨w8, rfl⟩ : ∃ w8 : World, w8 = wr := ⟨_, rfl⟩
    have hMi8 := Blk.kp hMi6 hkq (fun e => by omega)
    have cM8 := hMi8.cell
    have lM8 := hMi8.lt
    obtain ⟨_, _, cu, hBu, _⟩ := (show EVx _ _ _ _ _ from hEq)
    have lb3 := hBu.lt
    by_cases hql : q < mq
    ·have hql' : (q : Int) < mq := by omega
     have x1 : decide ((q : Int) < mq) = true := decide_eq_true hql'
     obtain ⟨hAq, _, g3, g4, g5⟩ := hbq' (by omega)
     subst hAq
     obtain ⟨cuq, hBb, hxb⟩ := hBq (by omega)
     obtain ⟨y, hy⟩ := hxb q hql
     have mb : w8.cell? ⟨bq, q, none⟩ = some (.int .u8 y) := by rw [hBb.cell]; exact hy
     have mbf := hBb.frozen q
     have mbl := hBb.lt
     clear hxb hy
     go_wp2_with fail
     go_roundw
     case rel => exact ⟨q + 1, by omega, by go_num, hEq.byte g5, by rw [(hBu.far (p := ⟨bq, q, none⟩) (Ne.symm g5) _).cell, ← hBu.cell]; exact mcq, fun h => (hBq h).set_, hkq.set_ (p := ⟨bq, q, none⟩) (.inl ⟨g3, g4⟩) _⟩
     case measure => simp [intOf]; omega
    ·obtain rfl : q = mq := by omega
     have x1 : decide ((q : Int) < q) = false := by simp
     go_wp2_with fail
     go_roundw
     case rel => exact ⟨i + 1, by omega, by go_num, fun _ => hEq, hkq⟩
     case measure => simp [intOf]; omega
  ·obtain rfl : i = m.log.length := by omega
   have x0 : decide ((m.log.length : Int) < m.log.length) = false := by simp
   have hP7 := hP6.far hkr (fun k e => ⟨.inl (.inr e), fun h => by rcases hSS k h with h | h <;> omega, by omega, fun e' => by have := hO5l k e'; omega⟩)
   have hO7 := Blk.kp hOb6 hkr (fun e => by omega)
   have hR7 := hR6.kp (hkr.weaken (T := (fun k => (T k ∨ (lo ≤ k ∧ k < pi)) ∨ S6 k)) (fun k e => .inl (.inr e)))
   have hOu7 := hO6.kp (hkr.weaken (T := (fun k => (T k ∨ (lo ≤ k ∧ k < pi)) ∨ S6 k)) (fun k e => .inl (.inr e)))
   have hb7w := hP7.b
   have hmM : MgW w7 (fun k => (T k ∨ (lo ≤ k ∧ k < pi)) ∨ S6 k) (.slice A2 m.v.l.length c2) (.slice B2 m.log.length d2) m := ⟨⟨A2, c2, rfl, Reads.kp hm1 (Kp.of_below (S := fun _ => False) hb7w) (fun _ _ _ h => h), fun h0 a ha ht => by
    obtain ⟨a', e', hl', _⟩ := hm1.2 h0
    rw [ha] at e'; cases e'
    have := hP7.tb _ ht
    omega⟩, B2, d2, rfl, (hEm.kp (Kp.of_below (S := fun k => w.heap.size ≤ k) hb7w)).sub (fun k _ ht => hP7.tb k ht)⟩
   have hPr7 := dtake_any (T := (fun k => (T k ∨ (lo ≤ k ∧ k < pi)) ∨ S6 k)) r f m _ _ _ (.slice A2 m.v.l.length c2) (.slice B2 m.log.length d2) w7 hP7.dr hmM hP7.lt hrok (by omega) (fun A n c e => by simp only [Value.slice.injEq] at e; omega)
   have cP7 := hP7.blk.cell
   have lP7 := hP7.blk.lt
   have cO7 := hO7.cell
   have lO7 := hO7.lt
   generalize takeP_ r f m = PR at *
   go_upto_region 50 with (go_at_call 18; (with_reducible refine hPr7.mono ?_); rintro e w8 ⟨vm', vl', va', B1, m1, d1, B2', m2, d2', rfl, hRw, hOw, hD8, hb8⟩; obtain ⟨Bm, cm', rfl⟩ := hD8.slm; obtain ⟨Bl, cl', rfl⟩ := hD8.sll; obtain ⟨Ba, ca', rfl⟩ := hD8.sla)
   have hbA : Below w8.heap.size w8 (w8.alloc (.cells #[.int .i64 PR.r.id, .int .i64 PR.r.v.e, .int .i64 PR.r.v.p, (.slice Bm PR.r.v.l.length cm'), (.slice Bl PR.r.log.length cl'), .int .i64 PR.r.joined, .int .i64 (PR.r.sure : Int), (.slice Ba PR.r.acks.length ca'), .bool PR.r.act] 34)) := Below.alloc (Below.refl _ _) (Nat.le_refl _) _
   have hb8A := hb8.trans (hbA.mono hb8.size)
   refine abstr (fun W => PlX w W S6 (fun k => (T k ∨ (lo ≤ k ∧ k < pi)) ∨ S6 k) g pm PR.r r (.slice A8 n8 c8) (.slice Am r.v.l.length cm) (.slice B r.log.length d) (.slice C r.acks.length f0) L ∧ Blk W w8.heap.size 34 #[.int .i64 PR.r.id, .int .i64 PR.r.v.e, .int .i64 PR.r.v.p, (.slice Bm PR.r.v.l.length cm'), (.slice Bl PR.r.log.length cl'), .int .i64 PR.r.joined, .int .i64 (PR.r.sure : Int), (.slice Ba PR.r.acks.length ca'), .bool PR.r.act] ∧ DrW W (fun k => (T k ∨ (lo ≤ k ∧ k < pi)) ∨ S6 k) (.slice Bm PR.r.v.l.length cm') (.slice Bl PR.r.log.length cl') (.slice Ba PR.r.acks.length ca') PR.r ∧ Recs W (fun k => (T k ∨ (lo ≤ k ∧ k < pi)) ∨ S6 k) A6 n6 PR.recs ∧ Recs W (fun k => (T k ∨ (lo ≤ k ∧ k < pi)) ∨ S6 k) B1 m1 PR.recs ∧ Outs W (fun k => (T k ∨ (lo ≤ k ∧ k < pi)) ∨ S6 k) B6 n7 PR.outs ∧ Outs W (fun k => (T k ∨ (lo ≤ k ∧ k < pi)) ∨ S6 k) B2' m2 PR.outs) ⟨hP7.below hb8A, Blk.new _ _ _, hD8.kp (Kp.of_below hbA), hR7.kp (Kp.of_below hb8A), hRw.kp (Kp.of_below hbA), hOu7.kp (Kp.of_below hb8A), hOw.kp (Kp.of_below hbA)⟩ (fun W9 hW9 => ?_)
   have hqpm : pm < w8.heap.size := by have := hb8.size; omega
   clear hbA hb8A hD8 hRw hOw hb8 cP7 lP7 cO7 lO7 hPr7 hOu7 hR7 hO7 hP7 hkr hb3 hOb6 hSS hR6 hO6 hP6 hA6 hk6 hs6 s6 hP5 hMi6 hMi7 cM7 lM7 hEv hmM hb7w
   generalize w8.heap.size = q at *
   generalize (fun k => (T k ∨ (lo ≤ k ∧ k < pi)) ∨ S6 k) = T9 at *
   obtain ⟨hP9, hQ9, hD9, hR9, hR9', hO9, hO9'⟩ := hW9
   obtain rfl : m2 = n7 := hO9'.len.symm.trans hO9.len
   have hob' := hide hob
   clear hob hmok hEm hE hm1 hv1 hU hbW hS5 hT5 hO5l hTp hA1l
   have hn7 := hO9.len
   refine wp_region_kp (fun k => k = pm) [2] [0, 1] [(true, false, 0), (true, false, 1), (true, true, 2), (false, true, 3), (false, true, 4), (false, false, 5)] (by kernel_rfl) (by kernel_rfl) (fun X => ?_); simp only [List.map_cons, List.map_nil, List.getD_cons_zero, List.getD_cons_succ]
   have hne : ¬(q = pm) := fun e => absurd hqpm (by rw [e]; exact Nat.lt_irrefl _)
   (repeat (first | (refine wfp fun K hK => ?_; go_simp; refine hK _ _ ?_; clear hK K) | (refine wff fun K hK => ?_; go_simp; refine hK _ _ ?_; clear hK K)))
   (refine first_readG rfl (v := .agg #[.int .i64 PR.r.id, .int .i64 PR.r.v.e, .int .i64 PR.r.v.p, (.slice Bm PR.r.v.l.length cm'), (.slice Bl PR.r.log.length cl'), .int .i64 PR.r.joined, .int .i64 (PR.r.sure : Int), (.slice Ba PR.r.acks.length ca'), .bool PR.r.act]) (fun w' hw' => ?_) (fun K hK => ?_); rotate_left 1; go_simp; refine hK _ _ ?_; clear hK K; rotate_left 1; (have hB' := Blk.kp (Blk.ext hQ9 _) hw' hne; have c' := Blk.cell hB'; go_simp))
   (repeat (first | (refine wfp fun K hK => ?_; go_simp; refine hK _ _ ?_; clear hK K) | (refine wff fun K hK => ?_; go_simp; refine hK _ _ ?_; clear hK K)))
   have hbX : Below W9.heap.size W9 (W9.ext X) := World.below_ext _ _
   have hPX := hP9.below hbX
   have hDX := hD9.kp (Kp.of_below hbX)
   have hRX := hR9.kp (Kp.of_below hbX)
   have hRX' := hR9'.kp (Kp.of_below hbX)
   have hOX := hO9.kp (Kp.of_below hbX)
   have hOX' := hO9'.kp (Kp.of_below hbX)
   clear hP9 hD9 hR9 hR9' hO9 hO9' hQ9 hbX
   generalize W9.ext X = V at *
   have c2' := hPX.blk.cell
   have f2' := hPX.blk.frozen
   have l2' := hPX.blk.lt
   refine First.wpF_must (fun K hK => ?_)
   go_wp2
   (refine hK _ _ (fun hnd => by first | exact Bool.noConfusion hnd | exact Kp.refl _ _) ?_; clear hK K)
   (repeat (first | (refine wfp fun K hK => ?_; go_simp; refine hK _ _ ?_; clear hK K) | (refine wff fun K hK => ?_; go_simp; refine hK _ _ ?_; clear hK K)))
   refine First.wpF_must (fun K hK => ?_)
   go_wp2
   (refine hK _ _ (fun hnd => by first | exact Bool.noConfusion hnd | exact Kp.refl _ _) ?_; clear hK K)
   (repeat (first | (refine wfp fun K hK => ?_; go_simp; refine hK _ _ ?_; clear hK K) | (refine wff fun K hK => ?_; go_simp; refine hK _ _ ?_; clear hK K)))
   refine First.wpF_must (fun K hK => ?_); (refine wpList_store_row (P := Tryz.prog) rfl 34 (.tmp 7) _ rfl pm _ rfl rfl _ _ hPX.blk (by kernel_rfl) rfl (by simp [Value.oneCell']) ?_); go_wp2; (refine hK _ _ (fun hnd => by first | exact Bool.noConfusion hnd | exact Kp.refl _ _) ?_; clear hK K); (repeat (first | (refine wfp fun K hK => ?_; go_simp; refine hK _ _ ?_; clear hK K) | (refine wff fun K hK => ?_; go_simp; refine hK _ _ ?_; clear hK K)))
   refine First.wpF_nil ?_
   have hkN : ∀ cs : Array Value, Kp T9 V (V.setRow pm cs) := fun cs => (Kp.row V pm cs).weaken (fun k hk => by rw [hk]; exact hPX.tp.1)
   refine abstr (fun W => PlX w W S6 T9 g pm PR.r PR.r (.slice A8 n8 c8) (.slice Bm PR.r.v.l.length cm') (.slice Bl PR.r.log.length cl') (.slice Ba PR.r.acks.length ca') L ∧ Recs W T9 A6 n6 PR.recs ∧ Recs W T9 B1 m1 PR.recs ∧ Outs W T9 B6 m2 PR.outs ∧ Outs W T9 B2' m2 PR.outs) ⟨hPX.set_ hDX (Kp.row V pm _) (Blk.row hPX.blk rfl), hRX.kp (hkN _), hRX'.kp (hkN _), hOX.kp (hkN _), hOX'.kp (hkN _)⟩ (fun W10 hW10 => ?_)
   clear hkN c2' f2' l2' hPX hDX hRX hRX' hOX hOX' V
   obtain ⟨hP10, hR10, hR10', hO10, hO10'⟩ := hW10
   have hOt := outs_any B6 m2 c7 PR.outs W10 hO10 hP10.lt (by have := hob'.out.1; omega) (fun x hx => by have := (hob'.out.2 x hx).1; omega)
   go_upto_region 63 with (first | (go_at_call 13; (with_reducible refine hOt.mono ?_); rintro e w11 ⟨A1o, c1o, rfl, hOo, hb11⟩) | (go_at_call 12; (with_reducible refine (dsameouts_any A1o B2' m2 c1o d2' PR.outs w11 hOo (hO10'.kp (Kp.of_below hb11)) (by have := hob'.out.1; omega) (fun x hx => by have := hob'.out.2 x hx; omega)).mono ?_); rintro e w12 ⟨rfl, hb12⟩))
   refine abstr (fun W => Mid w W g pm PR.r (.slice A8 n8 c8) L PR.recs A6 n6 B1 m1) ⟨S6, T9, _, _, _, (hP10.below hb11).below hb12, (hR10.kp (Kp.of_below hb11)).kp (Kp.of_below hb12), (hR10'.kp (Kp.of_below hb11)).kp (Kp.of_below hb12)⟩ (fun W8 hW8 => ?_)
   clear hb11 hb12 hOo hOt hP10 hR10 hR10' hO10 hO10' hob'
   generalize PR.r = r' at *
   generalize PR.recs = R at *
   obtain ⟨g', rfl⟩ : ∃ g', g' = g := ⟨_, rfl⟩
   exact hQ.go hW8 hPn hSr
end Go.Proofs.YtjhcgnmibnjocaaGreat
