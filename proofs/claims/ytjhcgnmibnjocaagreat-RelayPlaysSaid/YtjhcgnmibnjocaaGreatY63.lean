import Derived.Test.YtjhcgnmibnjocaaGreatGH
import Derived.Test.YtjhcgnmibnjocaaGreatY51
/-! The law: a relay and the document's are the same. -/
namespace Go.Proofs.YtjhcgnmibnjocaaGreat
open Go.RowKit Go.Maps
set_option linter.unusedVariables false
set_option linter.unusedSimpArgs false
attribute [local irreducible] First.wpF
set_option maxRecDepth 100000 in
set_option maxHeartbeats 4000000 in
theorem lsame_any {S T Td : Nat → Prop} (r : Rl) (g : Nat) (vm vl va : Value) (w : World) (hW : RelW w S T g r) (hD : DrW w Td vm vl va r) (hTd : ∀ k, Td k → k < w.heap.size) :
  Calls Tryz.prog 23 #[.pointer (some ⟨g, 0, none⟩), .agg #[.int .i64 r.id, .int .i64 r.v.e, .int .i64 r.v.p, vm, vl, .int .i64 r.joined, .int .i64 (r.sure : Int), va, .bool r.act]] w fun e w' => e = .returned (.bool true) ∧ Below w.heap.size w w' := by
 have hD0 := hD
 obtain ⟨Am, cm, Bl, dl, Ca, fa, rfl, rfl, rfl⟩ := hD.sl
 have hok := hW.1
 have hln := hok.n
 have hvl8 := hok.mem.2
 have hX0 := Blk.new w 34 #[.int .i64 r.id, .int .i64 r.v.e, .int .i64 r.v.p, (.slice Am r.v.l.length cm), (.slice Bl r.log.length dl), .int .i64 r.joined, .int .i64 (r.sure : Int), (.slice Ca r.acks.length fa), .bool r.act]
 have hb0 : Below w.heap.size w (w.alloc (.cells #[.int .i64 r.id, .int .i64 r.v.e, .int .i64 r.v.p, (.slice Am r.v.l.length cm), (.slice Bl r.log.length dl), .int .i64 r.joined, .int .i64 (r.sure : Int), (.slice Ca r.acks.length fa), .bool r.act] 34)) := Below.alloc (Below.refl _ _) (Nat.le_refl _) _
 have H := hide (⟨hX0, hb0⟩ : _ ∧ _)
 clear hX0 hb0
 go_enter Tryz.func23, Tryz.ntmps23
 go_wp2
 obtain ⟨hX0, hb0⟩ := H.out
 clear H
 go_loopw [5] (fun vi wr => ∃ i : Int, -1 ≤ i ∧ i ≤ r.log.length + 1 ∧ vi = .int .i64 i ∧ Blk wr w.heap.size 34 #[.int .i64 r.id, .int .i64 r.v.e, .int .i64 r.v.p, (.slice Am r.v.l.length cm), (.slice Bl r.log.length dl), .int .i64 r.joined, .int .i64 (r.sure : Int), (.slice Ca r.acks.length fa), .bool r.act] ∧ Below w.heap.size w wr) (fun vi _ => ((r.log.length : Int) + 1 - intOf vi).toNat)
 case atStart => exact ⟨-1, by omega, by omega, rfl, hX0, hb0⟩
 case round =>
  clear hX0 hb0
  obtain ⟨i, hi0, hi1, rfl, hX, hb⟩ := hrel
  obtain ⟨wo, rfl⟩ : ∃ wo : World, wo = wr := ⟨_, rfl⟩
  have hso := hb.size
  have lX := hX.lt
  have cX := hX.cell
  have hWo := hW.below hb
  by_cases hle : i ≤ r.log.length
  ·have d0 : decide (i ≤ (r.log.length : Int)) = true := decide_eq_true hle
   by_cases hin : i < 0 ∨ (r.log.length : Int) ≤ i
   ·have hEn := rentry_no i wo hWo hin
    have hi := hide (⟨hi0, hi1, hle⟩ : _ ∧ _ ∧ _)
    rcases hin with hin | hin
    ·have d1 : decide (0 ≤ i) = false := decide_eq_false (by omega)
     clear hi0 hi1 hle hin
     go_wp2_with (go_at_call 56; (with_reducible refine hEn.mono ?_); rintro e w1 ⟨rfl, hb1⟩; have hX1 := hX.below hb1 lX; have c1 := hX1.cell; have l1 := hX1.lt)
     refine wp_region_ext_lit (by kernel_rfl) (by kernel_rfl) ?_
     (repeat (first | ((with_reducible refine wpQuiet_step (fun K hK => ?_)); go_simp; first | ((with_reducible refine hK _ ?_); clear hK K) | (apply Exists.intro; (with_reducible refine ⟨fun _ => ?_, hK _ ?_⟩); skip; clear hK K)) | ((with_reducible refine quiet_skipN ?_ (fun K hK => ?_)); (rfl); go_simp; (with_reducible refine hK _ ?_); clear hK K)))
     (with_reducible refine wpQuiet_nil ?_); intro _ hw'; obtain ⟨X, hw''⟩ := hw'; subst hw''
     have hi0 := hi.out.1
     have hi2 := hi.out.2.2
     go_wp2
     go_roundw
     case rel => exact ⟨i + 1, by omega, by omega, by go_num, by (repeat' (first | with_reducible (first | exact hX1 | refine Blk.ext ?_ _ | refine Blk.alloc ?_ _ | apply Blk.set_to | refine Blk.far ?_ ?_ _) | rfl | (simp [World.size_ext]; done) | (simp [World.size_ext]; omega))), Below.ext ((hb.trans (hb1.mono hso)).alloc (by have := hb1.size; omega) _) (by have := hb1.size; simp; omega) X⟩
     case measure => simp [intOf]; omega
    ·have d1 : decide (0 ≤ i) = true := decide_eq_true (by omega)
     have d2 : decide (i < (r.log.length : Int)) = false := decide_eq_false (by omega)
     clear hi0 hi1 hle hin
     go_wp2_with (go_at_call 56; (with_reducible refine hEn.mono ?_); rintro e w1 ⟨rfl, hb1⟩; have hX1 := hX.below hb1 lX; have c1 := hX1.cell; have l1 := hX1.lt)
     refine wp_region_ext_lit (by kernel_rfl) (by kernel_rfl) ?_
     (repeat (first | ((with_reducible refine wpQuiet_step (fun K hK => ?_)); go_simp; first | ((with_reducible refine hK _ ?_); clear hK K) | (apply Exists.intro; (with_reducible refine ⟨fun _ => ?_, hK _ ?_⟩); skip; clear hK K)) | ((with_reducible refine quiet_skipN ?_ (fun K hK => ?_)); (rfl); go_simp; (with_reducible refine hK _ ?_); clear hK K)))
     (with_reducible refine wpQuiet_nil ?_); intro _ hw'; obtain ⟨X, hw''⟩ := hw'; subst hw''
     have hi0 := hi.out.1
     have hi2 := hi.out.2.2
     go_wp2
     go_roundw
     case rel => exact ⟨i + 1, by omega, by omega, by go_num, by (repeat' (first | with_reducible (first | exact hX1 | refine Blk.ext ?_ _ | refine Blk.alloc ?_ _ | apply Blk.set_to | refine Blk.far ?_ ?_ _) | rfl | (simp [World.size_ext]; done) | (simp [World.size_ext]; omega))), Below.ext ((hb.trans (hb1.mono hso)).alloc (by have := hb1.size; omega) _) (by have := hb1.size; simp; omega) X⟩
     case measure => simp [intOf]; omega
   ·obtain ⟨k, rfl⟩ : ∃ k : Nat, i = (k : Int) := ⟨i.toNat, by omega⟩
    have hkl : k < r.log.length := by omega
    have hg : r.log[k]? = some r.log[k] := List.getElem?_eq_getElem hkl
    generalize r.log[k] = x at hg
    have hEn := rentry_yes k x wo hWo hg
    have d1 : decide ((0 : Int) ≤ (k : Int)) = true := decide_eq_true (by omega)
    have d2 : decide ((k : Int) < (r.log.length : Int)) = true := decide_eq_true (by omega)
    have d2' : decide (k < r.log.length) = true := decide_eq_true hkl
    have e1 : (x.e != x.e) = false := by simp
    have e2 : ((strOf x.t).toList == (strOf x.t).toList) = true := by simp
    have hi := hide (⟨hi0, hi1, hle, hkl⟩ : _ ∧ _ ∧ _ ∧ _)
    have hG := hide hg
    clear hi0 hi1 hle hin hg
    go_upto_region 5 with (go_at_call 56; (with_reducible refine hEn.mono ?_); rintro e w1 ⟨u1, rfl, hu1, hb1⟩; obtain ⟨uA, un, uc, rfl⟩ := hu1.sl)
    have hs1 := hb1.size
    refine abstr (fun W => Below w.heap.size w W ∧ Blk W w.heap.size 34 #[.int .i64 r.id, .int .i64 r.v.e, .int .i64 r.v.p, (.slice Am r.v.l.length cm), (.slice Bl r.log.length dl), .int .i64 r.joined, .int .i64 (r.sure : Int), (.slice Ca r.acks.length fa), .bool r.act] ∧ Blk W w1.heap.size 65 #[.int .i64 x.e, .slice uA un uc] ∧ Bsl W (fun k => k < wo.heap.size) (.slice uA un uc) x.t) ⟨(hb.trans (hb1.mono hso)).alloc (by omega) _, (hX.below hb1 lX).alloc _, Blk.new _ _ _, hu1.kp (Kp.of_below (Below.alloc (Below.refl _ _) (Nat.le_refl _) _))⟩ (fun W hW' => ?_)
    clear hb hb1 hX hu1 hEn cX lX hWo
    obtain ⟨hb, hX, hx, hu⟩ := hW'
    generalize w1.heap.size = px at *
    have hDo := hD0.kp (Kp.of_below hb)
    obtain ⟨_, ⟨Bl', dl', ⟨e', _⟩, hEd⟩, _⟩ := hDo
    simp only [Value.slice.injEq] at e'
    obtain ⟨rfl, -, rfl⟩ := e'
    obtain ⟨b, o, A2, c2, x', rfl, hbl, hg', hxo, m1, m2, hB⟩ := hEd.at_ hkl
    obtain rfl : x = x' := Option.some.inj (hG.out.symm.trans hg')
    clear hEd hg'
    have cX := hX.cell
    have lX := hX.lt
    have cx := hx.cell
    have lx := hx.lt
    have hsW := hb.size
    have hcv := fun X : Ext => (hB.kp (Kp.of_below (World.below_ext W X))).conv
    have hcv' := fun X : Ext => (hu.kp (Kp.of_below (World.below_ext W X))).conv
    go_wp2
    refine wp_region_ext_lit (by kernel_rfl) (by kernel_rfl) ?_
    (repeat (first | ((with_reducible refine wpQuiet_step (fun K hK => ?_)); go_simp; first | ((with_reducible refine hK _ ?_); clear hK K) | (apply Exists.intro; (with_reducible refine ⟨fun _ => ?_, hK _ ?_⟩); skip; clear hK K)) | ((with_reducible refine quiet_skipN ?_ (fun K hK => ?_)); (rfl); go_simp; (with_reducible refine hK _ ?_); clear hK K)))
    (with_reducible refine wpQuiet_nil ?_); intro _ hw'; obtain ⟨X, hw''⟩ := hw'; subst hw''
    have hi0 := hi.out.1
    have hi2 := hi.out.2.2.1
    go_wp2
    go_roundw
    case rel => exact ⟨(k : Int) + 1, by omega, by omega, by go_num, by (repeat' (first | with_reducible (first | exact hX | refine Blk.ext ?_ _ | refine Blk.alloc ?_ _ | apply Blk.set_to | refine Blk.far ?_ ?_ _) | rfl | (simp [World.size_ext]; done) | (simp [World.size_ext]; omega))), Below.ext hb hsW X⟩
    case measure => simp [intOf]; omega
  ·obtain rfl : i = r.log.length + 1 := by omega
   have d0 : decide ((r.log.length : Int) + 1 ≤ (r.log.length : Int)) = false := decide_eq_false (by omega)
   clear hle
   obtain ⟨_, Ar, cr, vr, mb, hRX⟩ := hWo
   have hWY := fun Y : Ext => hW.below (hb.trans ((World.below_ext wo Y).mono hso))
   have hLen := fun Y : Ext => rlen_any (wo.ext Y) (hRX.below (World.below_ext wo Y))
   have hVw := fun Y : Ext => rview_any (wo.ext Y) (hRX.below (World.below_ext wo Y)) hok
   have hAc := fun Y : Ext => ractive_any (wo.ext Y) (hWY Y)
   have hSu := fun Y : Ext => rsure_any (wo.ext Y) (hWY Y)
   have hLg := fun Y : Ext => rlog_any (wo.ext Y) (hWY Y)
   have hSv := fun Y : Ext => rsave_any (wo.ext Y) (hWY Y)
   have hDY := fun Y : Ext => hD0.kp (Kp.of_below (hb.trans ((World.below_ext wo Y).mono hso)))
   have hDs := fun Y : Ext => dsave_any r _ _ _ (wo.ext Y) (hDY Y) hok
   have hsv2 : (saveP r).length ≤ 2 := by
    unfold saveP
    rw [List.length_append]
    split <;> split <;> simp
   clear hi0 hi1
   go_upto_region 8 with fail
   refine First.wp_region_first_ext [3, 11, 18, 25, 33, 39] [0, 2, 4, 5, 6, 7, 10, 13, 14, 15, 17, 19, 20, 21, 22, 24, 26, 27, 28, 29, 32, 35, 36, 37, 42] [(true, false, 0), (true, false, 2), (true, true, 3), (true, false, 4), (false, true, 1), (true, false, 5), (true, false, 6), (true, false, 7), (true, false, 10), (true, true, 11), (false, true, 8), (false, true, 9), (false, true, 12), (true, false, 13), (true, false, 14), (true, false, 15), (true, false, 17), (true, true, 18), (false, true, 16), (true, false, 19), (true, false, 20), (true, false, 21), (true, false, 22), (true, false, 24), (true, true, 25), (false, true, 23), (true, false, 26), (true, false, 27), (true, false, 28), (true, false, 29), (true, false, 32), (true, true, 33), (false, true, 30), (false, true, 31), (false, true, 34), (true, false, 35), (true, false, 36), (true, false, 37), (true, true, 39), (false, true, 38), (false, true, 40), (false, true, 41), (true, false, 42), (false, false, 43)] (by kernel_rfl) (by kernel_rfl) (fun X => ?_); simp only [List.map_cons, List.map_nil, List.getD_cons_zero, List.getD_cons_succ]
   (repeat (first | (refine wfp fun K hK => ?_; go_simp; refine hK _ _ ?_; clear hK K) | (refine wff fun K hK => ?_; go_simp; refine hK _ _ ?_; clear hK K)))
   refine First.wpF_must (fun K hK => ?_)
   go_wp2_with (go_at_call 57; (with_reducible refine (hLen _).mono ?_); rintro e w' ⟨rfl, rfl⟩)
   (refine hK _ _ (fun hnd => by first | exact Bool.noConfusion hnd | assumption | with_reducible (first | exact grown_alloc _ _ | exact First.Grown.refl _ | exact First.Grown.cat _ _ _ | exact First.Grown.ext _ _)) ?_; clear hK K)
   (repeat (first | (refine wfp fun K hK => ?_; go_simp; refine hK _ _ ?_; clear hK K) | (refine wff fun K hK => ?_; go_simp; refine hK _ _ ?_; clear hK K)))
   refine First.wpF_must (fun K hK => ?_)
   go_wp2_with (go_at_call 45; (with_reducible refine (hVw _).mono ?_); rintro e w5 ⟨⟨v5, rfl, ho5⟩, hb5⟩; obtain ⟨A5, c5, rfl, _⟩ := own_sl ho5; have hr5 := Reads.of_own ho5; obtain ⟨Z2, rfl⟩ := World.ext_of_below hb5; clear hb5 ho5; rw [World.ext_ext] at hr5)
   (refine hK _ _ (fun hnd => by first | exact Bool.noConfusion hnd | assumption | with_reducible (first | exact grown_alloc _ _ | exact First.Grown.refl _ | exact First.Grown.cat _ _ _ | exact First.Grown.ext _ _)) ?_; clear hK K)
   (repeat (first | (refine wfp fun K hK => ?_; go_simp; refine hK _ _ ?_; clear hK K) | (refine wff fun K hK => ?_; go_simp; refine hK _ _ ?_; clear hK K)))
   refine First.wpF_must (fun K hK => ?_)
   go_wp2_with (go_at_call 59; (with_reducible refine (vfrom_any _ _ _ _ _ _).mono ?_); rintro e w' ⟨rfl, hb⟩; obtain ⟨Z3, rfl⟩ := World.ext_of_below hb; clear hb; have hr6 := hr5.grown Z3; (try rw [World.ext_ext] at hr6))
   (refine hK _ _ (fun hnd => by first | exact Bool.noConfusion hnd | assumption | with_reducible (first | exact grown_alloc _ _ | exact First.Grown.refl _ | exact First.Grown.cat _ _ _ | exact First.Grown.ext _ _)) ?_; clear hK K)
   (repeat (first | (refine wfp fun K hK => ?_; go_simp; refine hK _ _ ?_; clear hK K) | (refine wff fun K hK => ?_; go_simp; refine hK _ _ ?_; clear hK K)))
   have hmY : ∀ Y : Ext, Reads (wo.ext Y) (wo.ext Y).heap.size 1 Am r.v.l.length (ints r.v.l) := fun Y => by
    obtain ⟨⟨A', c', e', hm', _⟩, _⟩ := hDY Y
    simp only [Value.slice.injEq] at e'
    obtain ⟨rfl, -, rfl⟩ := e'
    exact hm'
   have hlY : ∀ Y : Ext, Ents (wo.ext Y) Td Bl r.log.length r.log := fun Y => (hDY Y).log'
   refine First.wpF_must (fun K hK => ?_)
   go_wp2_with (go_at_call 58; (with_reducible refine (same_any r.v.e r.v.p _ _ _ _ _ _ _ hr6 (hmY _) (by omega)).mono ?_); rintro e w' ⟨rfl, hb⟩; obtain ⟨Z4, rfl⟩ := World.ext_of_below hb; clear hb)
   (refine hK _ _ (fun hnd => by first | exact Bool.noConfusion hnd | assumption | with_reducible (first | exact grown_alloc _ _ | exact First.Grown.refl _ | exact First.Grown.cat _ _ _ | exact First.Grown.ext _ _)) ?_; clear hK K)
   (repeat (first | (refine wfp fun K hK => ?_; go_simp; refine hK _ _ ?_; clear hK K) | (refine wff fun K hK => ?_; go_simp; refine hK _ _ ?_; clear hK K)))
   refine First.wpF_must (fun K hK => ?_)
   go_wp2_with (go_at_call 24; (with_reducible refine (hAc _).mono ?_); rintro e w' ⟨rfl, rfl⟩)
   (refine hK _ _ (fun hnd => by first | exact Bool.noConfusion hnd | assumption | with_reducible (first | exact grown_alloc _ _ | exact First.Grown.refl _ | exact First.Grown.cat _ _ _ | exact First.Grown.ext _ _)) ?_; clear hK K)
   (repeat (first | (refine wfp fun K hK => ?_; go_simp; refine hK _ _ ?_; clear hK K) | (refine wff fun K hK => ?_; go_simp; refine hK _ _ ?_; clear hK K)))
   refine First.wpF_must (fun K hK => ?_)
   go_wp2_with (go_at_call 25; (with_reducible refine (hSu _).mono ?_); rintro e w' ⟨rfl, rfl⟩)
   (refine hK _ _ (fun hnd => by first | exact Bool.noConfusion hnd | assumption | with_reducible (first | exact grown_alloc _ _ | exact First.Grown.refl _ | exact First.Grown.cat _ _ _ | exact First.Grown.ext _ _)) ?_; clear hK K)
   (repeat (first | (refine wfp fun K hK => ?_; go_simp; refine hK _ _ ?_; clear hK K) | (refine wff fun K hK => ?_; go_simp; refine hK _ _ ?_; clear hK K)))
   refine First.wpF_must (fun K hK => ?_)
   go_wp2_with (go_at_call 62; (with_reducible refine (hLg _).mono ?_); rintro e w7 ⟨A7, c7, rfl, ho7, hb7⟩; have hE7 := ho7.ents (T' := fun k => k < wo.heap.size) rfl (fun k hk => by simp only [World.size_ext]; omega) (fun k hk => .inl (by simp only [World.size_ext]; omega)); have hbk := back_any A7 r.log.length c7 r.log w7 hE7 (fun k hk => by have := hb7.size; simp only [World.size_ext] at this; omega) (by omega); obtain ⟨Z5, rfl⟩ := World.ext_of_below hb7; clear hb7 ho7 hE7; rw [World.ext_ext] at hbk)
   (refine hK _ _ (fun hnd => by first | exact Bool.noConfusion hnd | assumption | with_reducible (first | exact grown_alloc _ _ | exact First.Grown.refl _ | exact First.Grown.cat _ _ _ | exact First.Grown.ext _ _)) ?_; clear hK K)
   (repeat (first | (refine wfp fun K hK => ?_; go_simp; refine hK _ _ ?_; clear hK K) | (refine wff fun K hK => ?_; go_simp; refine hK _ _ ?_; clear hK K)))
   refine First.wpF_must (fun K hK => ?_)
   go_wp2_with (go_at_call 61; (with_reducible refine hbk.mono ?_); rintro e w8 ⟨A8, c8, rfl, hE8, hb8⟩; obtain ⟨Z6, rfl⟩ := World.ext_of_below hb8; clear hb8 hbk; rw [World.ext_ext] at hE8)
   (refine hK _ _ (fun hnd => by first | exact Bool.noConfusion hnd | assumption | with_reducible (first | exact grown_alloc _ _ | exact First.Grown.refl _ | exact First.Grown.cat _ _ _ | exact First.Grown.ext _ _)) ?_; clear hK K)
   (repeat (first | (refine wfp fun K hK => ?_; go_simp; refine hK _ _ ?_; clear hK K) | (refine wff fun K hK => ?_; go_simp; refine hK _ _ ?_; clear hK K)))
   refine First.wpF_must (fun K hK => ?_)
   go_wp2_with (go_at_call 60; (with_reducible refine (dsamelog_any A8 Bl r.log.length r.log.length c8 dl r.log r.log _ hE8 (hlY _) (by omega)).mono ?_); rintro e w' ⟨rfl, hb⟩; obtain ⟨Z7, rfl⟩ := World.ext_of_below hb; clear hb)
   (refine hK _ _ (fun hnd => by first | exact Bool.noConfusion hnd | assumption | with_reducible (first | exact grown_alloc _ _ | exact First.Grown.refl _ | exact First.Grown.cat _ _ _ | exact First.Grown.ext _ _)) ?_; clear hK K)
   (repeat (first | (refine wfp fun K hK => ?_; go_simp; refine hK _ _ ?_; clear hK K) | (refine wff fun K hK => ?_; go_simp; refine hK _ _ ?_; clear hK K)))
   refine First.wpF_must (fun K hK => ?_)
   go_wp2_with (go_at_call 63; (with_reducible refine (hSv _).mono ?_); rintro e w9 ⟨A9, c9, rfl, hR9, hb9⟩; obtain ⟨Z8, rfl⟩ := World.ext_of_below hb9; clear hb9; rw [World.ext_ext] at hR9)
   (refine hK _ _ (fun hnd => by first | exact Bool.noConfusion hnd | assumption | with_reducible (first | exact grown_alloc _ _ | exact First.Grown.refl _ | exact First.Grown.cat _ _ _ | exact First.Grown.ext _ _)) ?_; clear hK K)
   (repeat (first | (refine wfp fun K hK => ?_; go_simp; refine hK _ _ ?_; clear hK K) | (refine wff fun K hK => ?_; go_simp; refine hK _ _ ?_; clear hK K)))
   refine First.wpF_must (fun K hK => ?_)
   go_wp2_with (go_at_call 19; (with_reducible refine (hDs _).mono ?_); rintro e w10 ⟨A10, c10, rfl, hR10, hb10⟩; have hR9' := hR9.kp (Kp.of_below hb10); obtain ⟨Z9, rfl⟩ := World.ext_of_below hb10; clear hb10; rw [World.ext_ext] at hR9' hR10)
   (refine hK _ _ (fun hnd => by first | exact Bool.noConfusion hnd | assumption | with_reducible (first | exact grown_alloc _ _ | exact First.Grown.refl _ | exact First.Grown.cat _ _ _ | exact First.Grown.ext _ _)) ?_; clear hK K)
   (repeat (first | (refine wfp fun K hK => ?_; go_simp; refine hK _ _ ?_; clear hK K) | (refine wff fun K hK => ?_; go_simp; refine hK _ _ ?_; clear hK K)))
   refine First.wpF_must (fun K hK => ?_)
   go_wp2_with (go_at_call 22; (with_reducible refine (dsamerecs_any A9 A10 (saveP r).length c9 c10 (saveP r) _ hR9' hR10 (by omega)).mono ?_); rintro e w' ⟨rfl, hb⟩; obtain ⟨ZZ, rfl⟩ := World.ext_of_below hb; clear hb)
   (refine hK _ _ (fun hnd => by first | exact Bool.noConfusion hnd | assumption | with_reducible (first | exact grown_alloc _ _ | exact First.Grown.refl _ | exact First.Grown.cat _ _ _ | exact First.Grown.ext _ _)) ?_; clear hK K)
   (repeat (first | (refine wfp fun K hK => ?_; go_simp; refine hK _ _ ?_; clear hK K) | (refine wff fun K hK => ?_; go_simp; refine hK _ _ ?_; clear hK K)))
   refine First.wpF_must (fun K hK => ?_)
   go_wp2
   (refine hK _ _ (fun hnd => by first | exact Bool.noConfusion hnd | assumption | with_reducible (first | exact grown_alloc _ _ | exact First.Grown.refl _ | exact First.Grown.cat _ _ _ | exact First.Grown.ext _ _)) ?_; clear hK K)
   refine First.wpF_nil ?_
   go_wp2
   go_ret
   exact ⟨rfl, Below.ext hb hso _⟩
end Go.Proofs.YtjhcgnmibnjocaaGreat
