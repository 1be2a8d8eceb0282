import Derived.Test.YtjhcgnmibnjocaaGreatY48
import Derived.Test.YtjhcgnmibnjocaaGreatY17
/-! A relay does what a record tells. -/
namespace Go.Proofs.YtjhcgnmibnjocaaGreat
open Go.RowKit Go.Maps
set_option linter.unusedVariables false
set_option linter.unusedSimpArgs false
theorem rdend_ok (g b : Nat) (r : Rest) (w : World) (h : Rdr w g b r.xs r.e) (he : (endP r).e = 0) :
  Calls Tryz.prog 85 #[.pointer (some ⟨g, 0, none⟩)] w fun e' w' => e' = .returned (.int .i64 0) ∧ Below w.heap.size w w' := by
 have hr := h
 obtain ⟨⟨A, c, h1, h2, h3, h4⟩, hn⟩ := h
 have c1 := h1.cell
 have h0 : r.e = 0 ∧ ¬0 < r.xs.length := by
  unfold endP at he
  by_cases h0 : r.e = 0
  ·refine ⟨h0, fun hl => ?_⟩
   rw [if_pos ⟨h0, hl⟩] at he
   simp [failP, h0] at he
  ·rw [if_neg (fun h => h0 h.1)] at he
   exact absurd he h0
 rw [h0.1] at hr c1
 have hl' : (r.xs.length : Int) ≤ 0 := by have := h0.2; omega
 clear h0 he h1
 go_enter Tryz.func85, Tryz.ntmps85
 go_wp2_with (first | (go_at_call 101; (with_reducible refine (rderr_any _ _ _ _ _ hr).mono ?_); rintro e w2 ⟨rfl, rfl⟩))
 go_ret
 exact ⟨rfl, Below.refl _ _⟩
attribute [local irreducible] First.wpF
set_option maxRecDepth 100000 in
set_option maxHeartbeats 4000000 in
theorem restore_any {S T T0 : Nat → Prop} {g : Nat} {r : Rl} (u : Value) (bs : List Nat) (w : World) (h : RelW w S T g r) (hu : Bsl w T0 u bs) (hn : bs.length ≤ 1000000) :
  Calls Tryz.prog 54 #[.pointer (some ⟨g, 0, none⟩), u] w fun e w' => Aft w w' S T g ((restoreP r bs).getD r) fun _ => e = .returned (.bool (restoreP r bs).isSome) := by
 obtain ⟨hok, Am, cm, vl, mb, hX⟩ := h
 have hXo := hX.own
 obtain ⟨ms0, _, hown0, _⟩ := hXo
 obtain ⟨Al, cl, hvl, _⟩ := own_sl hown0
 clear hown0
 subst hvl
 obtain ⟨A, c, rfl, hr, hnil⟩ := hu.exR
 have hby := hu.by_
 have hRd := read_any A c bs w hr hby hnil (by omega)
 rcases hq : numP ⟨bs, 0⟩ with ⟨kd, r1⟩
 have hN := fun g2 b2 W (h : Rdr W g2 b2 bs 0) => rdnum_any g2 b2 bs 0 W h
 rw [hq] at hN
 simp only at hN
 obtain ⟨RP, hRP⟩ : ∃ RP, RP = restoreP r bs := ⟨_, rfl⟩
 rw [← hRP]
 have hRP0 := hide hRP
 unfold restoreP at hRP
 rw [hq] at hRP
 simp only at hRP
 go_enter Tryz.func54, Tryz.ntmps54
 go_upto_region 4 with (first | (go_at_call 82; (with_reducible refine hRd.mono ?_); rintro e w1 ⟨g2, b2, rfl, hr1, hg2, hb2, hb1⟩) | (go_at_call 83; (with_reducible refine (hN _ _ _ hr1).mono ?_); rintro e w2 ⟨rfl, hr2, ho2⟩))
 have hs1 := hb1.size
 have hb02 : Below w.heap.size w w2 := hb1.trans (ho2.below hg2 hs1)
 have hl2 := hr2.lt
 have hne2 := hr2.ne
 clear hRd hN hr1 hb1 ho2 hs1
 generalize hkq : (kd : Int) = ki at *
 by_cases k1 : kd = 1
 ·rw [if_pos k1] at hRP
  obtain rfl : ki = 1 := by omega
  clear hq
  have hg := pget_any g2 b2 r1 w2 hr2
  have hv64 := getV_bd r1
  generalize getV r1 = G at *
  go_upto_region 6 with (go_at_call 84; (with_reducible refine hg.mono ?_); rintro e w3 ⟨⟨v3, rfl, ho3⟩, hr3, hO3⟩; obtain ⟨A3, c3, rfl, _⟩ := own_sl ho3)
  have hs2 := hb02.size
  have hs3 := hO3.size
  have hb03 : Below w.heap.size w w3 := hb02.trans (hO3.below hg2 hs2)
  have hrd3 := Reads.of_own ho3
  refine abstr (fun W => Below w.heap.size w W ∧ Rdr W g2 b2 G.r.xs G.r.e ∧ Blk W w3.heap.size 44 #[.int .i64 G.e, .int .i64 G.p, .slice A3 G.l.length c3] ∧ Reads W W.heap.size 1 A3 G.l.length (ints G.l) ∧ (∀ a, A3 = some a → a.block ≠ g2)) ⟨hb03.alloc (by omega) _, hr3.below (Below.alloc (Below.refl _ _) (Nat.le_refl _) _), Blk.new _ _ _, Reads.kp hrd3 (Kp.of_below (S := fun _ => False) (Below.alloc (Below.refl _ _) (Nat.le_refl _) _)) (fun _ _ _ h => h), fun a ha => by have := (own_addr ho3 a ha).1; omega⟩ (fun W hW => ?_)
  have hpv : w3.heap.size ≠ g2 ∧ w3.heap.size ≠ b2 := ⟨by omega, by omega⟩
  generalize w3.heap.size = pv at *
  clear hg ho3 hr3 hO3 hrd3 hb03 hs3 hr2 hb02 hs2 hl2
  obtain ⟨hbW, hrW, hVW, hqW, hA3⟩ := hW
  have hXW := hX.below hbW
  have hgl := hX.blk.lt
  have hgl' : g < W.heap.size := hXW.blk.lt
  have cX := hXW.blk.cell
  have cV := hVW.cell
  have lV := hVW.lt
  have ng : ¬(g = g2) := by omega
  unfold rest1 at hRP
  by_cases he : (endP G.r).e = 0
  ·have hEo := fun X : Ext => rdend_ok g2 b2 G.r (W.ext X) (hrW.below (World.below_ext W X)) he
   have hRi := fun X : Ext => vright_any G.e G.p A3 G.l.length c3 G.l (W.ext X) (hqW.grown X) (by have := hv64; omega)
   rcases hrt : (⟨G.e, G.p, G.l⟩ : Vi).right with _ | _
   ·rw [if_pos (.inr (.inl hrt))] at hRP
    unfold Vi.right at hrt
    rw [hrt] at hRi
    clear he
    refine wp_region_ext_lit (by kernel_rfl) (by kernel_rfl) ?_
    (repeat (first | ((with_reducible refine wpQuiet_step (fun K hK => ?_)); go_simp; first | ((with_reducible refine hK _ ?_); clear hK K) | (apply Exists.intro; (with_reducible refine ⟨fun _ => ?_, hK _ ?_⟩); (first | (go_at_call 85; exact Calls.ext_of (hEo _)) | (go_at_call 26; exact Calls.ext_of (hRi _))); clear hK K)) | ((with_reducible refine quiet_skipN ?_ (fun K hK => ?_)); (rfl); go_simp; (with_reducible refine hK _ ?_); clear hK K)))
    (with_reducible refine wpQuiet_nil ?_); intro _ hw'; obtain ⟨Y, hw''⟩ := hw'; subst hw''
    go_wp2
    go_ret
    (try rw [hRP])
    refine Aft.mk' hok (hXW.below (World.below_ext W Y)) ((Kp.of_below hbW).trans (Kp.of_below (World.below_ext W Y))) ?_
    exact rfl
   ·have hrt' := hide hrt
    unfold Vi.right at hrt
    rw [hrt] at hRi
    have hE' := hide he
    clear hrt he
    by_cases hle : G.e ≤ r.v.e
    ·have d1 : decide (G.e ≤ r.v.e) = true := by simpa using hle
     rw [if_pos (.inr (.inr hle))] at hRP
     clear hle
     refine wp_region_ext_lit (by kernel_rfl) (by kernel_rfl) ?_
     (repeat (first | ((with_reducible refine wpQuiet_step (fun K hK => ?_)); go_simp; first | ((with_reducible refine hK _ ?_); clear hK K) | (apply Exists.intro; (with_reducible refine ⟨fun _ => ?_, hK _ ?_⟩); (first | (go_at_call 85; exact Calls.ext_of (hEo _)) | (go_at_call 26; exact Calls.ext_of (hRi _))); clear hK K)) | ((with_reducible refine quiet_skipN ?_ (fun K hK => ?_)); (rfl); go_simp; (with_reducible refine hK _ ?_); clear hK K)))
     (with_reducible refine wpQuiet_nil ?_); intro _ hw'; obtain ⟨Y, hw''⟩ := hw'; subst hw''
     go_wp2
     go_ret
     (try rw [hRP])
     refine Aft.mk' hok (hXW.below (World.below_ext W Y)) ((Kp.of_below hbW).trans (Kp.of_below (World.below_ext W Y))) ?_
     exact rfl
    ·have d1 : decide (G.e ≤ r.v.e) = false := by simpa using hle
     rw [if_neg (by rintro (h | h | h); exact h hE'.out; (rw [hrt'.out] at h; cases h); exact hle h)] at hRP
     clear hle
     refine wp_region_ext_lit (by kernel_rfl) (by kernel_rfl) ?_
     (repeat (first | ((with_reducible refine wpQuiet_step (fun K hK => ?_)); go_simp; first | ((with_reducible refine hK _ ?_); clear hK K) | (apply Exists.intro; (with_reducible refine ⟨fun _ => ?_, hK _ ?_⟩); (first | (go_at_call 85; exact Calls.ext_of (hEo _)) | (go_at_call 26; exact Calls.ext_of (hRi _))); clear hK K)) | ((with_reducible refine quiet_skipN ?_ (fun K hK => ?_)); (rfl); go_simp; (with_reducible refine hK _ ?_); clear hK K)))
     (with_reducible refine wpQuiet_nil ?_); intro _ hw'; obtain ⟨Y, hw''⟩ := hw'; subst hw''
     have hX5 := hXW.below (World.below_ext W Y)
     have hb05 : Below w.heap.size w (W.ext Y) := hbW.trans ((World.below_ext W Y).mono hbW.size)
     go_wp2_with (go_at_call 27; (with_reducible refine (promise_any A3 c3 ⟨G.e, G.p, G.l⟩ (W.ext Y) hX5 hok hrt'.out (hqW.grown Y)).mono ?_); rintro e w6 ⟨rfl, ⟨A6, c6, m6, hX6, hm6⟩, hO6⟩)
     go_ret
     rw [hRP]
     have hs5 := hb05.size
     refine ⟨_, ⟨promise_ok hok hrt'.out, A6, c6, _, m6, hX6.widen (fun k hk => hk.elim (fun h => .inl h) (fun h => h.imp (hX5.sub k) id)) (fun k hk => .inr hk)⟩, (Kp.of_below hb05).trans (Kp.of_only hO6 hX.g), fun k hk => hk.imp id (fun e => by omega), ?_⟩
     exact rfl
  ·rw [if_pos (.inl he)] at hRP
   have he' : ((endP G.r).e != 0) = true := by simpa using he
   have hEn := fun Y : Ext => rdend_any g2 b2 G.r.xs G.r.e (W.ext Y) (hrW.below (World.below_ext W Y))
   rw [show (⟨G.r.xs, G.r.e⟩ : Rest) = G.r from rfl] at hEn
   generalize (endP G.r).e = EPe at *
   have hH := hide (⟨hX, hbW, hg2, hRP, hok⟩ : _ ∧ _ ∧ _ ∧ _ ∧ _)
   clear he hXW hVW hqW hA3 hrW cX cV lV ng hgl' hgl hv64 hpv hb2 hne2 hX hRP hok hbW hg2 hr hu hnil hby hn
   refine wp_region_kp (fun k => k = g2) [4, 10, 15] [0, 2, 3, 6, 7, 8, 9, 11, 12, 13, 14, 16, 17] [(true, false, 0), (false, true, 1), (true, false, 2), (true, false, 3), (true, true, 4), (false, true, 5), (true, false, 6), (true, false, 7), (true, false, 8), (true, false, 9), (true, true, 10), (true, false, 11), (true, false, 12), (true, false, 13), (true, false, 14), (true, true, 15), (true, false, 16), (true, false, 17)] (by kernel_rfl) (by kernel_rfl) (fun Y => ?_); simp only [List.map_cons, List.map_nil, List.getD_cons_zero, List.getD_cons_succ]
   (repeat (first | (refine wfp fun K hK => ?_; go_simp; refine hK _ _ ?_; clear hK K) | (refine wff fun K hK => ?_; go_simp; refine hK _ _ ?_; clear hK K)))
   refine First.wpF_must (fun K hK => ?_)
   go_wp2_with (go_at_call 85; (with_reducible refine (hEn _).mono ?_); rintro e w4 ⟨rfl, hr4, hO4⟩)
   (refine hK _ _ (fun _ => Kp.of_only hO4 rfl) ?_; clear hK K)
   clear hr4 hEn
   (repeat (first | (refine wfp fun K hK => ?_; go_simp; refine hK _ _ ?_; clear hK K) | (refine wff fun K hK => ?_; go_simp; refine hK _ _ ?_; clear hK K)))
   refine First.wpF_must (fun K hK => ?_)
   go_wp2
   (refine hK _ _ (fun _ => Kp.refl _ _) ?_; clear hK K)
   (repeat (first | (refine wfp fun K hK => ?_; go_simp; refine hK _ _ ?_; clear hK K) | (refine wff fun K hK => ?_; go_simp; refine hK _ _ ?_; clear hK K)))
   refine First.wpF_nil ?_
   go_wp2
   go_ret
   obtain ⟨hX, hbW, hg2, hRP, hok⟩ := hH.out
   have hbY : Below w.heap.size w (W.ext Y) := hbW.trans ((World.below_ext W Y).mono hbW.size)
   have hb4 : Below w.heap.size w w4 := hbY.trans (hO4.below hg2 hbY.size)
   rw [hRP]
   refine Aft.mk' hok (hX.below hb4) (Kp.of_below hb4) ?_
   exact rfl
 rw [if_neg k1] at hRP
 have k1' : (ki == 1) = false := by simp; omega
 have hgl := hX.blk.lt
 have hs2 := hb02.size
 have hX2 := hX.below hb02
 rcases hq2 : numP r1 with ⟨n2, r2⟩
 rw [hq2] at hRP
 simp only at hRP
 have hI := rint_at g2 b2 r1 w2 hr2 hq2
 have hGl := fun W h => getlog_any g2 b2 r2 W h
 generalize getL r2 = L at *
 by_cases k3 : kd = 3
 ·rw [if_neg (by omega), if_pos k3] at hRP
  obtain rfl : ki = 3 := by omega
  unfold rest3 at hRP
  generalize zag n2 = N at *
  go_upto_region 16 with (first | (go_at_call 86; (with_reducible refine hI.mono ?_); rintro e w3 ⟨rfl, hr3, hO3⟩) | (go_at_call 87; (with_reducible refine (hGl _ hr3).mono ?_); rintro e w4 ⟨⟨A4, c4, rfl, ho4⟩, hr4, hO4⟩))
  have hs3 := hO3.size
  have hs4 := hO4.size
  have hb04 : Below w.heap.size w w4 := (hb02.trans (hO3.below hg2 hs2)).trans (hO4.below hg2 (by omega))
  have hX4 := hX.below hb04
  have hEn := rdend_any g2 b2 L.2.xs L.2.e w4 hr4
  rw [show (⟨L.2.xs, L.2.e⟩ : Rest) = L.2 from rfl] at hEn
  clear hI hGl hr2 hr3 hO3 hO4 hr4 hX2
  generalize endP L.2 = EP at *
  by_cases he : EP.e = 0
  ·have he' : (EP.e != 0) = false := by simp [he]
   by_cases hn0 : N < 0
   ·have d0 : decide (N < 0) = true := by simpa using hn0
    rw [if_pos (.inr (.inl hn0))] at hRP
    clear he hn0
    go_wp2_with (go_at_call 85; (with_reducible refine hEn.mono ?_); rintro e w5 ⟨rfl, hr5, hO5⟩; have hb5 : Below w.heap.size w w5 := hb04.trans (hO5.below hg2 (by omega)))
    go_ret
    (try rw [hRP])
    refine Aft.mk' hok (hX.below hb5) (Kp.of_below hb5) ?_
    exact rfl
   ·have d0 : decide (N < 0) = false := by simpa using hn0
    by_cases hle : r.v.e < N
    ·have d1 : decide (r.v.e < N) = true := by simpa using hle
     rw [if_pos (.inr (.inr hle))] at hRP
     clear he hn0 hle
     go_wp2_with (go_at_call 85; (with_reducible refine hEn.mono ?_); rintro e w5 ⟨rfl, hr5, hO5⟩; have hb5 : Below w.heap.size w w5 := hb04.trans (hO5.below hg2 (by omega)); have c5 := (hX.below hb5).blk.cell; have l5 := (hX.below hb5).blk.lt)
     go_ret
     (try rw [hRP])
     refine Aft.mk' hok (hX.below hb5) (Kp.of_below hb5) ?_
     exact rfl
    ·have d1 : decide (r.v.e < N) = false := by simpa using hle
     rw [if_neg (by rintro (h | h | h); exact h he; exact hn0 h; exact hle h)] at hRP
     have hrok := restore_ok hok hby _ (hRP0.out.symm.trans hRP)
     clear he hn0 hle
     go_wp2_with (go_at_call 85; (with_reducible refine hEn.mono ?_); rintro e w5 ⟨rfl, hr5, hO5⟩; have hb5 : Below w.heap.size w w5 := hb04.trans (hO5.below hg2 (by omega)); have c5 := (hX.below hb5).blk.cell; have f5 := (hX.below hb5).blk.frozen; have l5 := (hX.below hb5).blk.lt)
     go_ret
     (try rw [hRP])
     have ho5 : OwnE w5 (Old w.heap.size (.slice A4 L.1.length c4)) w.heap.size (.slice A4 L.1.length c4) L.1 := by
      have h0 := ho4.only hO5 (by omega)
      obtain ⟨ms, e, hown, hms⟩ := h0.sub (T' := Old w.heap.size (.slice A4 L.1.length c4)) (fun k _ hk => hk.imp (fun h => by omega) id)
      exact ⟨ms, e, own_low hown (by omega), hms⟩
     obtain ⟨hX6, hk6, hn6⟩ := hX.fresh hb5 L.1 N ho5
     refine ⟨_, ⟨hrok, Am, cm, _, mb, hX6.widen (fun k hk => hk.elim (fun h => .inl h) (fun h => h.imp (hX.sub k) id)) (fun k hk => .inr hk)⟩, hk6, fun k hk => hk.imp id (hn6 k), ?_⟩
     exact rfl
  ·have he' : (EP.e != 0) = true := by simpa using he
   rw [if_pos (.inl he)] at hRP
   clear he
   go_wp2_with (go_at_call 85; (with_reducible refine hEn.mono ?_); rintro e w5 ⟨rfl, hr5, hO5⟩; have hb5 : Below w.heap.size w w5 := hb04.trans (hO5.below hg2 (by omega)))
   go_ret
   (try rw [hRP])
   refine Aft.mk' hok (hX.below hb5) (Kp.of_below hb5) ?_
   exact rfl
 have k3' : (ki == 3) = false := by simp; omega
 by_cases k2 : kd = 2
 ·rw [if_pos k2] at hRP
  obtain rfl : ki = 2 := by omega
  unfold rest2 at hRP
  generalize zag n2 = N at *
  go_upto_region 11 with (first | (go_at_call 86; (with_reducible refine hI.mono ?_); rintro e w3 ⟨rfl, hr3, hO3⟩) | (go_at_call 87; (with_reducible refine (hGl _ hr3).mono ?_); rintro e w4 ⟨⟨A4, c4, rfl, ho4⟩, hr4, hO4⟩))
  have hs3 := hO3.size
  have hs4 := hO4.size
  have hb04 : Below w.heap.size w w4 := (hb02.trans (hO3.below hg2 hs2)).trans (hO4.below hg2 (by omega))
  have hX4 := hX.below hb04
  have hEn := rdend_any g2 b2 L.2.xs L.2.e w4 hr4
  rw [show (⟨L.2.xs, L.2.e⟩ : Rest) = L.2 from rfl] at hEn
  clear hI hGl hr2 hr3 hO3 hO4 hr4 hX2
  generalize endP L.2 = EP at *
  have hll := hok.n
  have hwr : IntKind.i64.wrap ((r.log.length : Int) + 1) = (r.log.length : Int) + 1 := IntWalk.i64_in _ (by omega)
  by_cases hbad : EP.e ≠ 0 ∨ L.1.length ≠ 1 ∨ N ≠ (r.log.length : Int) + 1 ∨ 4096 < N
  ·rw [if_pos hbad] at hRP
   by_cases he : EP.e = 0
   ·have he' : (EP.e != 0) = false := by simp [he]
    by_cases hl1 : L.1.length = 1
    ·have d1 : ((L.1.length : Int) != 1) = false := by simp; omega
     by_cases hN1 : N = (r.log.length : Int) + 1
     ·have d2 : (N != (r.log.length : Int) + 1) = false := by simpa using hN1
      have d3 : decide ((4096 : Int) < N) = true := by
       rcases hbad with h | h | h | h
       ·exact absurd he h
       ·exact absurd hl1 h
       ·exact absurd hN1 h
       ·simpa using h
      clear hbad he hl1 hN1
      go_wp2_with (go_at_call 85; (with_reducible refine hEn.mono ?_); rintro e w5 ⟨rfl, hr5, hO5⟩; have hb5 : Below w.heap.size w w5 := hb04.trans (hO5.below hg2 (by omega)); have c5 := (hX.below hb5).blk.cell; have l5 := (hX.below hb5).blk.lt)
      go_ret
      (try rw [hRP])
      refine Aft.mk' hok (hX.below hb5) (Kp.of_below hb5) ?_
      exact rfl
     ·have d2 : (N != (r.log.length : Int) + 1) = true := by simpa using hN1
      clear hbad he hl1 hN1
      go_wp2_with (go_at_call 85; (with_reducible refine hEn.mono ?_); rintro e w5 ⟨rfl, hr5, hO5⟩; have hb5 : Below w.heap.size w w5 := hb04.trans (hO5.below hg2 (by omega)); have c5 := (hX.below hb5).blk.cell; have l5 := (hX.below hb5).blk.lt)
      go_ret
      (try rw [hRP])
      refine Aft.mk' hok (hX.below hb5) (Kp.of_below hb5) ?_
      exact rfl
    ·have d1 : ((L.1.length : Int) != 1) = true := by simp; omega
     clear hbad he hl1
     go_wp2_with (go_at_call 85; (with_reducible refine hEn.mono ?_); rintro e w5 ⟨rfl, hr5, hO5⟩; have hb5 : Below w.heap.size w w5 := hb04.trans (hO5.below hg2 (by omega)); have c5 := (hX.below hb5).blk.cell; have l5 := (hX.below hb5).blk.lt)
     go_ret
     (try rw [hRP])
     refine Aft.mk' hok (hX.below hb5) (Kp.of_below hb5) ?_
     exact rfl
   ·have he' : (EP.e != 0) = true := by simpa using he
    clear hbad he
    go_wp2_with (go_at_call 85; (with_reducible refine hEn.mono ?_); rintro e w5 ⟨rfl, hr5, hO5⟩; have hb5 : Below w.heap.size w w5 := hb04.trans (hO5.below hg2 (by omega)); have c5 := (hX.below hb5).blk.cell; have l5 := (hX.below hb5).blk.lt)
    go_ret
    (try rw [hRP])
    refine Aft.mk' hok (hX.below hb5) (Kp.of_below hb5) ?_
    exact rfl
  ·rw [if_neg hbad] at hRP
   have hrok := restore_ok hok hby _ (hRP0.out.symm.trans hRP)
   have he : EP.e = 0 := Classical.byContradiction fun h => hbad (.inl h)
   have he' : (EP.e != 0) = false := by simp [he]
   have hl1 : L.1.length = 1 := Classical.byContradiction fun h => hbad (.inr (.inl h))
   have d1 : ((L.1.length : Int) != 1) = false := by simp; omega
   have hN1 : N = (r.log.length : Int) + 1 := Classical.byContradiction fun h => hbad (.inr (.inr (.inl h)))
   have d2 : (N != (r.log.length : Int) + 1) = false := by simpa using hN1
   have hN2 : ¬4096 < N := fun h => hbad (.inr (.inr (.inr h)))
   have d3 : decide ((4096 : Int) < N) = false := by simpa using hN2
   have hlt : r.log.length < 4096 := by omega
   clear hbad he hN1 hN2
   go_upto_region 13 with (go_at_call 85; (with_reducible refine hEn.mono ?_); rintro e w5 ⟨rfl, hr5, hO5⟩; have hb5 : Below w.heap.size w w5 := hb04.trans (hO5.below hg2 (by omega)); have c5 := (hX.below hb5).blk.cell; have l5 := (hX.below hb5).blk.lt)
   obtain ⟨x, hx⟩ := List.length_eq_one_iff.1 hl1
   have ho5 := ho4.only hO5 (by omega)
   have hs5 := hO5.size
   rw [hx] at ho5 hRP
   have hrok' : ({ r with log := r.log ++ [x] } : Rl).ok := by rw [← hx]; exact hrok
   obtain ⟨ms3, hms3, ho3, hE3⟩ := ho5
   obtain ⟨m3, rfl⟩ : ∃ m3, ms3 = [m3] := by
    cases ms3 with
    | nil => cases hms3
    | cons a l =>
     cases l with
     | nil => exact ⟨a, rfl⟩
     | cons b l => cases hms3
   simp only [List.map_cons, List.map_nil, List.cons.injEq, and_true] at hms3
   have hone : [x].length = 1 := rfl
   rw [hone] at ho3
   obtain ⟨b3, hb3⟩ := own_some ho3 (show 0 < 1 by omega)
   subst hb3
   obtain ⟨hB3, hxo⟩ := hE3 m3 (by simp)
   obtain ⟨q1, qf, ql⟩ := own_cellE ho3 (emV_get (ms := [m3]) (i := 0) (m := m3) rfl).1
   obtain ⟨q2, _, _⟩ := own_cellE ho3 (emV_get (ms := [m3]) (i := 0) (m := m3) rfl).2
   rw [hms3] at q1 hB3 hxo
   obtain ⟨a4, n4, c4', hv4⟩ := hB3.sl
   rw [hv4] at q2 hB3
   simp only [Nat.zero_mul, Nat.zero_add] at q1 q2
   have hX5 := hX.below hb5
   have lT := hX.lt
   have hsS := hX.sub
   have hBT : ∀ V : Ext, Bsl (w5.ext V) T (.slice a4 n4 c4') x.t := fun V => (hB3.sub (T' := T) (fun k _ hk => .inl (by have := lT k hk; omega))).kp (Kp.of_below (World.below_ext w5 V))
   clear hEn ho4 hr5 hO5 hl1 d1 d2 d3 he' hE3 ho3 hX4 c5 l5 hB3
   have hX0 := hX
   have c5 := hX5.blk.cell
   have l5 := hX5.blk.lt
   have f5 := hX5.blk.frozen
   refine First.wp_region_first_ext [4, 7] [0, 1, 2, 3, 5, 6, 10, 11] [(true, false, 0), (true, false, 1), (true, false, 2), (true, false, 3), (true, true, 4), (true, false, 5), (true, false, 6), (true, true, 7), (false, true, 8), (false, false, 9), (true, false, 10), (true, false, 11), (false, false, 12)] (by kernel_rfl) (by kernel_rfl) (fun V => ?_); simp only [List.map_cons, List.map_nil, List.getD_cons_zero, List.getD_cons_succ]
   have hXV := hX5.below (World.below_ext w5 V)
   (repeat (first | (refine wfp fun K hK => ?_; go_simp; refine hK _ _ ?_; clear hK K) | (refine wff fun K hK => ?_; go_simp; refine hK _ _ ?_; clear hK K)))
   refine First.wpF_must (fun K hK => ?_)
   go_wp2
   (refine hK _ _ (fun hnd => by first | exact Bool.noConfusion hnd | assumption | with_reducible (first | exact grown_alloc _ _ | exact First.Grown.refl _ | exact First.Grown.cat _ _ _ | exact First.Grown.ext _ _)) ?_; clear hK K)
   refine First.wpF_must (fun K hK => ?_)
   go_wp2_with (at_builtin; refine app_ent rfl (.tmp 72) (.tmp 76) rfl T 0 (.slice Al r.log.length cl) r.log ⟨x, .slice a4 n4 c4'⟩ _ rfl rfl hXV.own ⟨hBT V, hxo⟩ (fun k hk => hsS k (hXV.vs k hk)) _ (by simp only [World.size_ext]) rfl (by omega) (Nat.zero_le _) (fun v' w6 ho6 hc6 _ => ?_))
   (refine hK _ _ (fun hnd => by first | exact Bool.noConfusion hnd | assumption | with_reducible (first | exact grown_alloc _ _ | exact First.Grown.refl _ | exact First.Grown.cat _ _ _ | exact First.Grown.ext _ _)) ?_; clear hK K)
   obtain ⟨Bl, bl, rfl⟩ : ∃ Bl bl, v' = .slice Bl (r.log.length + 1) bl := by
    obtain ⟨ns, _, ho', _⟩ := ho6
    obtain ⟨A', c', e', _⟩ := own_sl ho'
    exact ⟨A', c', by rw [e', List.length_append]; rfl⟩
   have hB6 : Blk w6 g 77 #[.int .i64 r.id, .int .i64 r.v.e, .int .i64 r.v.p, .slice Am r.v.l.length cm, (.slice Al r.log.length cl), .int .i64 r.joined, .int .i64 (r.sure : Int), .map (some mb), .bool r.act] := (hc6.block g hXV.blk.lt hXV.vg).trans hXV.blk
   have c6 := hB6.cell
   have f6 := hB6.frozen
   have l6 := hB6.lt
   obtain ⟨hX7, hk7, hn7⟩ := hXV.log hc6 _ ho6
   (repeat (first | (refine wfp fun K hK => ?_; go_simp; refine hK _ _ ?_; clear hK K) | (refine wff fun K hK => ?_; go_simp; refine hK _ _ ?_; clear hK K)))
   refine First.wpF_must (fun K hK => ?_)
   go_wp2
   (refine hK _ _ (fun hnd => by first | exact Bool.noConfusion hnd | assumption | with_reducible (first | exact grown_alloc _ _ | exact First.Grown.refl _ | exact First.Grown.cat _ _ _ | exact First.Grown.ext _ _)) ?_; clear hK K)
   refine First.wpF_nil ?_
   go_wp2
   go_ret
   (try rw [hRP])
   refine ⟨_, ⟨hrok', Am, cm, _, mb, hX7.widen (fun k hk => hk.elim (fun h => .inl h) (fun h => h.imp (hX.sub k) id)) (fun k hk => .inr hk)⟩, ((Kp.of_below hb5).trans (Kp.of_below (World.below_ext w5 V))).trans hk7, fun k hk => hk.elim .inl (fun e => (hn7 k e).imp id (fun h => by have := (World.below_ext w5 V).size; have := hb5.size; omega)), ?_⟩
   exact rfl
 ·have k2' : (ki == 2) = false := by simp; omega
  rw [if_neg k2, if_neg k3] at hRP
  clear hI hGl hq2
  go_wp2
  go_ret
  (try rw [hRP])
  refine Aft.mk' hok hX2 (Kp.of_below hb02) ?_
  exact rfl
end Go.Proofs.YtjhcgnmibnjocaaGreat
