import Derived.Test.YtjhcgnmibnjocaaGreatY22
/-! A relay takes any message. -/
namespace Go.Proofs.YtjhcgnmibnjocaaGreat
open Go.RowKit Go.Maps
set_option linter.unusedVariables false
set_option linter.unusedSimpArgs false
set_option maxRecDepth 100000 in
set_option maxHeartbeats 8000000 in
theorem takeAck_no {S T : Nat → Prop} {g : Nat} {r : Rl} (f : Int) (m : Mg) (vm vl' : Value) (w : World) (h : RelW w S T g r) (hm : MgW w S vm vl' m) (hk : m.k = 3) (ho : ackOk r f m = false) :
  Calls Tryz.prog 17 #[.pointer (some ⟨g, 0, none⟩), .int .i64 f, .agg #[.int .i64 m.k, .int .i64 m.e, .int .i64 m.v.e, .int .i64 m.v.p, vm, .int .i64 m.i, .int .i64 m.s, vl']] w fun e w' => Aft w w' S T g r fun T' => e = .returned (.tuple #[.slice none 0 0, .slice none 0 0]) := by
 have hW := h
 obtain ⟨hok, Am, cm, vl, mb, hX⟩ := h
 obtain ⟨Av, cv, Bv, dv, rfl, rfl, hrm, hnm, hEm⟩ := hm.sl
 obtain ⟨ms, _, hown, _⟩ := id hX.own
 obtain ⟨Al, cl, hvl, hcl⟩ := own_sl hown
 clear hown
 subst hvl
 have hk3 : (m.k == 1) = false := by rw [hk]; rfl
 have hk2 : (m.k == 2) = false := by rw [hk]; rfl
 have hk1 : (m.k == 3) = true := by rw [hk]; rfl
 replace hk := hide hk
 have hb0 : Below w.heap.size w (w.alloc (.cells #[.int .i64 m.k, .int .i64 m.e, .int .i64 m.v.e, .int .i64 m.v.p, (.slice Av m.v.l.length cv), .int .i64 m.i, .int .i64 m.s, (.slice Bv m.log.length dv)] 60)) := Below.alloc (Below.refl _ _) (Nat.le_refl _) _
 have hX0 := hX.below hb0
 have hLt := fun X => leads_any (World.ext _ X) (hX0.below (World.below_ext _ X))
 have hCt := fun X => Calls.toBelow (has_any Am r.v.l.length cm r.v.l f _ (hX0.below (World.below_ext _ X)).rd (by have := hok.mem.2; omega))
 clear hX0
 have c0 := hX.blk.cell
 have l0 := hX.blk.lt
 unfold ackOk at ho
 cases h1 : r.leads with
 | false =>
  rw [h1] at hLt
  clear ho
  go_enter Tryz.func17, Tryz.ntmps17; go_wp2_with fail; refine wp_region_ext_lit (by kernel_rfl) (by kernel_rfl) ?_; (repeat (first | ((with_reducible refine wpQuiet_step (fun K hK => ?_)); go_simp; first | ((with_reducible refine hK _ ?_); clear hK K) | (apply Exists.intro; (with_reducible refine ⟨fun _ => ?_, hK _ ?_⟩); (first | (go_at_call 32; exact Calls.ext_of (hLt _)) | (go_at_call 50; exact Calls.ext_of (hCt _))); clear hK K)) | ((with_reducible refine quiet_skipN ?_ (fun K hK => ?_)); (rfl); go_simp; (with_reducible refine hK _ ?_); clear hK K))); (with_reducible refine wpQuiet_nil ?_); intro _ hw'; obtain ⟨Y, hw''⟩ := hw'; subst hw''; go_wp2; refine bodyPost_ret (v := .tuple #[.slice none 0 0, .slice none 0 0]) (by simp [results, Tryz.results17, go_sem] <;> rfl) rfl ?_; exact Aft.same hW (by (repeat' (first | with_reducible (first | exact Below.refl _ _ | refine Below.ext ?_ ?_ _ | refine Below.alloc ?_ ?_ _ | refine Below.setCell ?_ ?_ _ | refine Below.drew ?_ | assumption) | (simp [World.size_ext]; done) | (simp [World.size_ext]; omega)))) rfl
 | true =>
  rw [h1] at hLt ho
  by_cases h2 : m.e = r.v.e
  ·have d2 : (m.e == r.v.e) = true := by simpa using h2
   rw [decide_eq_true h2] at ho
   replace h2 := hide h2
   by_cases h3 : f = r.id
   ·have d3 : (f != r.id) = false := by simpa using h3
    clear ho
    replace h3 := hide h3
    go_enter Tryz.func17, Tryz.ntmps17; go_wp2_with fail; refine wp_region_ext_lit (by kernel_rfl) (by kernel_rfl) ?_; (repeat (first | ((with_reducible refine wpQuiet_step (fun K hK => ?_)); go_simp; first | ((with_reducible refine hK _ ?_); clear hK K) | (apply Exists.intro; (with_reducible refine ⟨fun _ => ?_, hK _ ?_⟩); (first | (go_at_call 32; exact Calls.ext_of (hLt _)) | (go_at_call 50; exact Calls.ext_of (hCt _))); clear hK K)) | ((with_reducible refine quiet_skipN ?_ (fun K hK => ?_)); (rfl); go_simp; (with_reducible refine hK _ ?_); clear hK K))); (with_reducible refine wpQuiet_nil ?_); intro _ hw'; obtain ⟨Y, hw''⟩ := hw'; subst hw''; go_wp2; refine bodyPost_ret (v := .tuple #[.slice none 0 0, .slice none 0 0]) (by simp [results, Tryz.results17, go_sem] <;> rfl) rfl ?_; exact Aft.same hW (by (repeat' (first | with_reducible (first | exact Below.refl _ _ | refine Below.ext ?_ ?_ _ | refine Below.alloc ?_ ?_ _ | refine Below.setCell ?_ ?_ _ | refine Below.drew ?_ | assumption) | (simp [World.size_ext]; done) | (simp [World.size_ext]; omega)))) rfl
   ·have d3 : (f != r.id) = true := by simpa using h3
    have d3' : (f == r.id) = false := by simpa using h3
    rw [d3'] at ho
    clear d3'
    cases h4 : hasB r.v.l f with
    | false =>
     rw [h4] at hCt
     clear ho h4
     go_enter Tryz.func17, Tryz.ntmps17; go_wp2_with fail; refine wp_region_ext_lit (by kernel_rfl) (by kernel_rfl) ?_; (repeat (first | ((with_reducible refine wpQuiet_step (fun K hK => ?_)); go_simp; first | ((with_reducible refine hK _ ?_); clear hK K) | (apply Exists.intro; (with_reducible refine ⟨fun _ => ?_, hK _ ?_⟩); (first | (go_at_call 32; exact Calls.ext_of (hLt _)) | (go_at_call 50; exact Calls.ext_of (hCt _))); clear hK K)) | ((with_reducible refine quiet_skipN ?_ (fun K hK => ?_)); (rfl); go_simp; (with_reducible refine hK _ ?_); clear hK K))); (with_reducible refine wpQuiet_nil ?_); intro _ hw'; obtain ⟨Y, hw''⟩ := hw'; subst hw''; go_wp2; refine bodyPost_ret (v := .tuple #[.slice none 0 0, .slice none 0 0]) (by simp [results, Tryz.results17, go_sem] <;> rfl) rfl ?_; exact Aft.same hW (by (repeat' (first | with_reducible (first | exact Below.refl _ _ | refine Below.ext ?_ ?_ _ | refine Below.alloc ?_ ?_ _ | refine Below.setCell ?_ ?_ _ | refine Below.drew ?_ | assumption) | (simp [World.size_ext]; done) | (simp [World.size_ext]; omega)))) rfl
    | true =>
     rw [h4] at hCt ho
     clear h4
     by_cases h5 : 0 ≤ m.i
     ·have d5 : decide (0 ≤ m.i) = true := by simpa using h5
      rw [d5] at ho
      replace h5 := hide h5
      have d6 : decide (m.i ≤ (r.log.length : Int)) = false := by simpa using ho
      clear ho
      go_enter Tryz.func17, Tryz.ntmps17; go_wp2_with fail; refine wp_region_ext_lit (by kernel_rfl) (by kernel_rfl) ?_; (repeat (first | ((with_reducible refine wpQuiet_step (fun K hK => ?_)); go_simp; first | ((with_reducible refine hK _ ?_); clear hK K) | (apply Exists.intro; (with_reducible refine ⟨fun _ => ?_, hK _ ?_⟩); (first | (go_at_call 32; exact Calls.ext_of (hLt _)) | (go_at_call 50; exact Calls.ext_of (hCt _))); clear hK K)) | ((with_reducible refine quiet_skipN ?_ (fun K hK => ?_)); (rfl); go_simp; (with_reducible refine hK _ ?_); clear hK K))); (with_reducible refine wpQuiet_nil ?_); intro _ hw'; obtain ⟨Y, hw''⟩ := hw'; subst hw''; go_wp2; refine bodyPost_ret (v := .tuple #[.slice none 0 0, .slice none 0 0]) (by simp [results, Tryz.results17, go_sem] <;> rfl) rfl ?_; exact Aft.same hW (by (repeat' (first | with_reducible (first | exact Below.refl _ _ | refine Below.ext ?_ ?_ _ | refine Below.alloc ?_ ?_ _ | refine Below.setCell ?_ ?_ _ | refine Below.drew ?_ | assumption) | (simp [World.size_ext]; done) | (simp [World.size_ext]; omega)))) rfl
     ·have d5 : decide (0 ≤ m.i) = false := by simpa using h5
      clear ho
      replace h5 := hide h5
      go_enter Tryz.func17, Tryz.ntmps17; go_wp2_with fail; refine wp_region_ext_lit (by kernel_rfl) (by kernel_rfl) ?_; (repeat (first | ((with_reducible refine wpQuiet_step (fun K hK => ?_)); go_simp; first | ((with_reducible refine hK _ ?_); clear hK K) | (apply Exists.intro; (with_reducible refine ⟨fun _ => ?_, hK _ ?_⟩); (first | (go_at_call 32; exact Calls.ext_of (hLt _)) | (go_at_call 50; exact Calls.ext_of (hCt _))); clear hK K)) | ((with_reducible refine quiet_skipN ?_ (fun K hK => ?_)); (rfl); go_simp; (with_reducible refine hK _ ?_); clear hK K))); (with_reducible refine wpQuiet_nil ?_); intro _ hw'; obtain ⟨Y, hw''⟩ := hw'; subst hw''; go_wp2; refine bodyPost_ret (v := .tuple #[.slice none 0 0, .slice none 0 0]) (by simp [results, Tryz.results17, go_sem] <;> rfl) rfl ?_; exact Aft.same hW (by (repeat' (first | with_reducible (first | exact Below.refl _ _ | refine Below.ext ?_ ?_ _ | refine Below.alloc ?_ ?_ _ | refine Below.setCell ?_ ?_ _ | refine Below.drew ?_ | assumption) | (simp [World.size_ext]; done) | (simp [World.size_ext]; omega)))) rfl
  ·have d2 : (m.e == r.v.e) = false := by simpa using h2
   clear ho
   go_enter Tryz.func17, Tryz.ntmps17; go_wp2_with fail; refine wp_region_ext_lit (by kernel_rfl) (by kernel_rfl) ?_; (repeat (first | ((with_reducible refine wpQuiet_step (fun K hK => ?_)); go_simp; first | ((with_reducible refine hK _ ?_); clear hK K) | (apply Exists.intro; (with_reducible refine ⟨fun _ => ?_, hK _ ?_⟩); (first | (go_at_call 32; exact Calls.ext_of (hLt _)) | (go_at_call 50; exact Calls.ext_of (hCt _))); clear hK K)) | ((with_reducible refine quiet_skipN ?_ (fun K hK => ?_)); (rfl); go_simp; (with_reducible refine hK _ ?_); clear hK K))); (with_reducible refine wpQuiet_nil ?_); intro _ hw'; obtain ⟨Y, hw''⟩ := hw'; subst hw''; go_wp2; refine bodyPost_ret (v := .tuple #[.slice none 0 0, .slice none 0 0]) (by simp [results, Tryz.results17, go_sem] <;> rfl) rfl ?_; exact Aft.same hW (by (repeat' (first | with_reducible (first | exact Below.refl _ _ | refine Below.ext ?_ ?_ _ | refine Below.alloc ?_ ?_ _ | refine Below.setCell ?_ ?_ _ | refine Below.drew ?_ | assumption) | (simp [World.size_ext]; done) | (simp [World.size_ext]; omega)))) rfl
theorem RelW.down {w w' : World} {S T : Nat → Prop} {g : Nat} {r : Rl} (h : RelW w S T g r) (hb : Below w.heap.size w w') : RelW w' S T g r := by
 obtain ⟨hok, Am, cm, vl, mb, hX⟩ := h
 exact ⟨hok, Am, cm, vl, mb, hX.below hb⟩
theorem MgW.below {w w' : World} {T : Nat → Prop} {vm vl : Value} {m : Mg} (h : MgW w T vm vl m) (hb : Below w.heap.size w w') : MgW w' T vm vl m := h.kp (Kp.of_below hb)
theorem Aft.pre {w0 w w' : World} {S T : Nat → Prop} {g : Nat} {r' : Rl} {K : (Nat → Prop) → Prop} (hb : Below w0.heap.size w0 w) (h : Aft w w' S T g r' K) : Aft w0 w' S T g r' K := by
 obtain ⟨S', hW, hk, hs, hK⟩ := h
 exact ⟨S', hW, (Kp.of_below hb).trans hk, fun k hk => (hs k hk).imp id (fun h => by have := hb.size; omega), hK⟩
set_option maxRecDepth 100000 in
set_option maxHeartbeats 8000000 in
theorem take_any_r {S T : Nat → Prop} {g : Nat} {r : Rl} (f : Int) (m : Mg) (vm vl' : Value) (w : World) (h : RelW w S T g r) (hm : MgW w S vm vl' m) (hml : m.v.l.length ≤ 1000000) :
  Calls Tryz.prog 17 #[.pointer (some ⟨g, 0, none⟩), .int .i64 f, .agg #[.int .i64 m.k, .int .i64 m.e, .int .i64 m.v.e, .int .i64 m.v.p, vm, .int .i64 m.i, .int .i64 m.s, vl']] w fun e w' => Aft w w' S T g (takeP_ r f m).r fun T' =>
   ∃ A1 n1 c1 A2 n2 c2, e = .returned (.tuple #[.slice A1 n1 c1, .slice A2 n2 c2]) ∧ Recs w' T' A1 n1 (takeP_ r f m).recs ∧ Outs w' T' A2 n2 (takeP_ r f m).outs := by
 have hb0 : Below w.heap.size w (w.alloc (.cells #[.int .i64 m.k, .int .i64 m.e, .int .i64 m.v.e, .int .i64 m.v.p, vm, .int .i64 m.i, .int .i64 m.s, vl'] 60)) := Below.alloc (Below.refl _ _) (Nat.le_refl _) _
 by_cases h1 : m.k = 1
 ·have hT : takeP_ r f m = offerP r f m := by unfold takeP_; rw [if_pos h1]
  rw [hT]
  have hC := offer_any f m vm vl' _ (RelW.down h hb0) (hm.below hb0) hml
  have d1 : (m.k == 1) = true := by simpa using h1
  replace h1 := hide h1
  obtain ⟨Av, cv, Bv, dv, rfl, rfl, _⟩ := hm.sl
  go_enter Tryz.func17, Tryz.ntmps17
  go_wp2_with (go_at_call 48; (with_reducible refine hC.mono ?_); rintro e w1 ⟨S', q1, q2, q3, A1, n1, c1, A2, n2, c2, rfl, q4, q5⟩)
  refine bodyPost_ret (v := .tuple #[.slice A1 n1 c1, .slice A2 n2 c2]) (by simp [results, Tryz.results17, go_sem] <;> rfl) rfl ?_
  exact Aft.pre hb0 ⟨S', q1, q2, q3, A1, n1, c1, A2, n2, c2, rfl, q4, q5⟩
 ·have d1 : (m.k == 1) = false := by simpa using h1
  by_cases h2 : m.k = 2
  ·have hT : takeP_ r f m = shipP r f m := by unfold takeP_; rw [if_neg h1, if_pos h2]
   rw [hT]
   have hC := ship_any f m vm vl' _ (RelW.down h hb0) (hm.below hb0)
   have d2 : (m.k == 2) = true := by simpa using h2
   replace h2 := hide h2
   obtain ⟨Av, cv, Bv, dv, rfl, rfl, _⟩ := hm.sl
   go_enter Tryz.func17, Tryz.ntmps17
   go_wp2_with (go_at_call 49; (with_reducible refine hC.mono ?_); rintro e w1 ⟨S', q1, q2, q3, A1, n1, c1, A2, n2, c2, rfl, q4, q5⟩)
   refine bodyPost_ret (v := .tuple #[.slice A1 n1 c1, .slice A2 n2 c2]) (by simp [results, Tryz.results17, go_sem] <;> rfl) rfl ?_
   exact Aft.pre hb0 ⟨S', q1, q2, q3, A1, n1, c1, A2, n2, c2, rfl, q4, q5⟩
  ·have d2 : (m.k == 2) = false := by simpa using h2
   by_cases h3 : m.k = 3
   ·cases ho : ackOk r f m with
    | true =>
     have hT : takeP_ r f m = ⟨[], [], ackP r f m⟩ := by unfold takeP_; rw [if_neg h1, if_neg h2, if_pos h3]
     rw [hT]
     refine (takeAck_yes f m vm vl' w h hm h3 ho).mono fun e w' hA => ?_
     obtain ⟨S', q1, q2, q3, rfl⟩ := hA
     exact ⟨S', q1, q2, q3, none, 0, 0, none, 0, 0, rfl, Recs.nil _ _, Outs.nil _ _⟩
    | false =>
     have hT : takeP_ r f m = ⟨[], [], r⟩ := by
      unfold takeP_
      rw [if_neg h1, if_neg h2, if_pos h3]
      unfold ackP
      rw [ho]
      rfl
     rw [hT]
     refine (takeAck_no f m vm vl' w h hm h3 ho).mono fun e w' hA => ?_
     obtain ⟨S', q1, q2, q3, rfl⟩ := hA
     exact ⟨S', q1, q2, q3, none, 0, 0, none, 0, 0, rfl, Recs.nil _ _, Outs.nil _ _⟩
   ·have hT : takeP_ r f m = ⟨[], [], r⟩ := by unfold takeP_; rw [if_neg h1, if_neg h2, if_neg h3]
    rw [hT]
    have d3 : (m.k == 3) = false := by simpa using h3
    obtain ⟨Av, cv, Bv, dv, rfl, rfl, _⟩ := hm.sl
    go_enter Tryz.func17, Tryz.ntmps17
    go_wp2
    refine bodyPost_ret (v := .tuple #[.slice none 0 0, .slice none 0 0]) (by simp [results, Tryz.results17, go_sem] <;> rfl) rfl ?_
    exact Aft.same h hb0 ⟨none, 0, 0, none, 0, 0, rfl, Recs.nil _ _, Outs.nil _ _⟩
end Go.Proofs.YtjhcgnmibnjocaaGreat
