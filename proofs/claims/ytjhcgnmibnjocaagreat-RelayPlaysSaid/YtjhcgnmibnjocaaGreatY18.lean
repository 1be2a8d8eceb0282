import Derived.Test.YtjhcgnmibnjocaaGreatY17
/-! A relay takes a shipped entry. -/
namespace Go.Proofs.YtjhcgnmibnjocaaGreat
open Go.RowKit Go.Maps
set_option linter.unusedVariables false
set_option linter.unusedSimpArgs false
set_option maxRecDepth 100000 in
set_option maxHeartbeats 8000000 in
theorem ship_any {S T : Nat → Prop} {g : Nat} {r : Rl} (f : Int) (m : Mg) (vm vl' : Value) (w : World) (h : RelW w S T g r) (hm : MgW w S vm vl' m) :
  Calls Tryz.prog 49 #[.pointer (some ⟨g, 0, none⟩), .int .i64 f, .agg #[.int .i64 m.k, .int .i64 m.e, .int .i64 m.v.e, .int .i64 m.v.p, vm, .int .i64 m.i, .int .i64 m.s, vl']] w fun e w' => Aft w w' S T g (shipP r f m).r fun T' =>
   ∃ A1 n1 c1 A2 n2 c2, e = .returned (.tuple #[.slice A1 n1 c1, .slice A2 n2 c2]) ∧ Recs w' T' A1 n1 (shipP r f m).recs ∧ Outs w' T' A2 n2 (shipP r f m).outs := by
 have hW := h
 obtain ⟨hok, Am, cm, vl, mb, hX⟩ := h
 obtain ⟨Av, cv, Bv, dv, rfl, rfl, hrm, hnm, hEm⟩ := hm.sl
 obtain ⟨ms, _, hown, _⟩ := id hX.own
 obtain ⟨Al, cl, hvl, hcl⟩ := own_sl hown
 clear hown
 subst hvl
 have hb0 : Below w.heap.size w (w.alloc (.cells #[.int .i64 m.k, .int .i64 m.e, .int .i64 m.v.e, .int .i64 m.v.p, (.slice Av m.v.l.length cv), .int .i64 m.i, .int .i64 m.s, (.slice Bv m.log.length dv)] 60)) := Below.alloc (Below.refl _ _) (Nat.le_refl _) _
 have hX0 := hX.below hb0
 have c0 := hX.blk.cell
 have l0 := hX.blk.lt
 have hP := Blk.new w 60 #[.int .i64 m.k, .int .i64 m.e, .int .i64 m.v.e, .int .i64 m.v.p, (.slice Av m.v.l.length cv), .int .i64 m.i, .int .i64 m.s, (.slice Bv m.log.length dv)]
 by_cases h1 : m.e = r.v.e
 ·have d1 : (m.e != r.v.e) = false := by simpa using h1
  replace h1 := hide h1
  by_cases h2 : r.joined = m.e
  ·have d2 : (r.joined != m.e) = false := by simpa using h2
   replace h2 := hide h2
   by_cases h3 : r.v.p = f
   ·have d3 : (r.v.p != f) = false := by simpa using h3
    replace h3 := hide h3
    by_cases h4 : f = r.id
    ·have d4 : (f == r.id) = true := by simpa using h4
     replace h4 := hide h4
     rw [shipP_no (by unfold shipOk; rw [d4]; simp)]
     go_enter Tryz.func49, Tryz.ntmps49; go_wp2; refine wp_region_ext_lit (by kernel_rfl) (by kernel_rfl) ?_; (repeat (first | ((with_reducible refine wpQuiet_step (fun K hK => ?_)); go_simp; first | ((with_reducible refine hK _ ?_); clear hK K) | (apply Exists.intro; (with_reducible refine ⟨fun _ => ?_, hK _ ?_⟩); skip; clear hK K)) | ((with_reducible refine quiet_skipN ?_ (fun K hK => ?_)); (rfl); go_simp; (with_reducible refine hK _ ?_); clear hK K))); (with_reducible refine wpQuiet_nil ?_); intro _ hw'; obtain ⟨Y, hw''⟩ := hw'; subst hw''; go_wp2; refine bodyPost_ret (v := .tuple #[.slice none 0 0, .slice none 0 0]) (by simp [results, Tryz.results49, go_sem] <;> rfl) rfl ?_; exact Aft.same hW (by (repeat' (first | with_reducible (first | exact Below.refl _ _ | refine Below.ext ?_ ?_ _ | refine Below.alloc ?_ ?_ _ | refine Below.setCell ?_ ?_ _ | refine Below.drew ?_ | assumption) | (simp [World.size_ext]; done) | (simp [World.size_ext]; omega)))) ⟨none, 0, 0, none, 0, 0, rfl, Recs.nil _ _, Outs.nil _ _⟩
    ·have d4 : (f == r.id) = false := by simpa using h4
     have hE : Hid (m.e = r.v.e ∧ r.joined = m.e ∧ r.v.p = f) := hide ⟨h1.out, h2.out, h3.out⟩
     have hSo : shipP r f m = ⟨ship1R r m, hearO (ship1 r m) f, hearP (ship1 r m) m.s⟩ := by
      unfold shipP
      rw [if_pos (by unfold shipOk; rw [decide_eq_true h1.out, decide_eq_true h2.out, decide_eq_true h3.out, d4]; rfl)]
     rw [hSo]
     clear h1 h2 h3 hSo
     have hn4 := hok.n
     have hwr : IntKind.i64.wrap ((r.log.length : Int) + 1) = (r.log.length : Int) + 1 := IntWalk.i64_in _ (by omega)
     by_cases h5 : m.log.length = 1
     ·have d5 : ((m.log.length : Int) == 1) = true := by simp; omega
      replace h5 := hide h5
      by_cases h6 : m.i = (r.log.length : Int) + 1
      ·have d6 : (m.i == (r.log.length : Int) + 1) = true := by simpa using h6
       replace h6 := hide h6
       by_cases h7 : m.i ≤ 4096
       ·have d7 : decide (m.i ≤ 4096) = true := by simpa using h7
        replace h7 := hide h7
        obtain ⟨x, hx⟩ : ∃ x, m.log = [x] := by
         have h5' := h5.out
         cases hl : m.log with
         | nil => rw [hl] at h5'; cases h5'
         | cons a t =>
          cases t with
          | nil => exact ⟨a, rfl⟩
          | cons b t => rw [hl] at h5'; simp at h5'
        have hsi : shipIn r m = some x := by
         unfold shipIn
         rw [hx]
         simp only
         rw [if_pos ⟨h6.out, h7.out⟩]
        have e1 : ship1 r m = { r with log := r.log ++ [x] } := by unfold ship1; rw [hsi]
        have e2 : ship1R r m = [recEntryP (r.log.length + 1) x] := by unfold ship1R; rw [hsi]
        rw [e1, e2]
        exact ship_in f m _ _ x w hW hm d1 d2 d3 d4 hx h6.out (by have := h6.out; have := h7.out; omega)
       ·have d7 : decide (m.i ≤ 4096) = false := by simpa using h7
        have hsn : shipIn r m = none := by
         unfold shipIn
         split
         ·rw [if_neg (fun h => h7 h.2)]
         ·rfl
        replace h7 := hide h7
        have hs1 : ship1 r m = r := (by unfold ship1; rw [hsn]); have hs2 : ship1R r m = [] := (by unfold ship1R; rw [hsn]); rw [hs1, hs2]; (clear hs1 hs2 hsn); go_enter Tryz.func49, Tryz.ntmps49; go_wp2; refine wp_region_ext_lit (by kernel_rfl) (by kernel_rfl) ?_; (repeat (first | ((with_reducible refine wpQuiet_step (fun K hK => ?_)); go_simp; first | ((with_reducible refine hK _ ?_); clear hK K) | (apply Exists.intro; (with_reducible refine ⟨fun _ => ?_, hK _ ?_⟩); skip; clear hK K)) | ((with_reducible refine quiet_skipN ?_ (fun K hK => ?_)); (rfl); go_simp; (with_reducible refine hK _ ?_); clear hK K))); (with_reducible refine wpQuiet_nil ?_); intro _ hw'; obtain ⟨Y, hw''⟩ := hw'; subst hw''; go_wp2; refine wp_region_ext_lit (by kernel_rfl) (by kernel_rfl) ?_; (repeat (first | ((with_reducible refine wpQuiet_step (fun K hK => ?_)); go_simp; first | ((with_reducible refine hK _ ?_); clear hK K) | (apply Exists.intro; (with_reducible refine ⟨fun _ => ?_, hK _ ?_⟩); skip; clear hK K)) | ((with_reducible refine quiet_skipN ?_ (fun K hK => ?_)); (rfl); go_simp; (with_reducible refine hK _ ?_); clear hK K))); (with_reducible refine wpQuiet_nil ?_); intro _ hw'; obtain ⟨Z, hw''⟩ := hw'; subst hw''; have hX2 := (hX0.below (World.below_ext _ Y)).below (World.below_ext _ Z); (rw [World.ext_ext] at hX2); (try rw [World.ext_ext]); go_wp2_with (go_at_call 80; (with_reducible refine (hear_any f m.s _ hX2 hok).mono ?_); rintro e w3 ⟨b3, rfl, hO3, hX3, ho3⟩); refine bodyPost_ret (v := .tuple #[.slice none 0 0, .slice (some ⟨b3, 0, none⟩) 1 1]) (by simp [results, Tryz.results49, go_sem] <;> rfl) rfl ?_; exact Aft.mk' (hear_ok hok _) hX3 ((Kp.of_below (by (repeat' (first | with_reducible (first | exact Below.refl _ _ | refine Below.ext ?_ ?_ _ | refine Below.alloc ?_ ?_ _ | refine Below.setCell ?_ ?_ _ | refine Below.drew ?_ | assumption) | (simp [World.size_ext]; done) | (simp [World.size_ext]; omega))))).trans (Kp.of_only ho3 hX.g)) ⟨none, 0, 0, _, 1, 1, rfl, Recs.nil _ _, hO3.sub (fun k _ hk => hk.elim id (hX.sub k))⟩
      ·have d6 : (m.i == (r.log.length : Int) + 1) = false := by simpa using h6
       have hsn : shipIn r m = none := by
        unfold shipIn
        split
        ·rw [if_neg (fun h => h6 h.1)]
        ·rfl
       have hs1 : ship1 r m = r := (by unfold ship1; rw [hsn]); have hs2 : ship1R r m = [] := (by unfold ship1R; rw [hsn]); rw [hs1, hs2]; (clear hs1 hs2 hsn); go_enter Tryz.func49, Tryz.ntmps49; go_wp2; refine wp_region_ext_lit (by kernel_rfl) (by kernel_rfl) ?_; (repeat (first | ((with_reducible refine wpQuiet_step (fun K hK => ?_)); go_simp; first | ((with_reducible refine hK _ ?_); clear hK K) | (apply Exists.intro; (with_reducible refine ⟨fun _ => ?_, hK _ ?_⟩); skip; clear hK K)) | ((with_reducible refine quiet_skipN ?_ (fun K hK => ?_)); (rfl); go_simp; (with_reducible refine hK _ ?_); clear hK K))); (with_reducible refine wpQuiet_nil ?_); intro _ hw'; obtain ⟨Y, hw''⟩ := hw'; subst hw''; go_wp2; refine wp_region_ext_lit (by kernel_rfl) (by kernel_rfl) ?_; (repeat (first | ((with_reducible refine wpQuiet_step (fun K hK => ?_)); go_simp; first | ((with_reducible refine hK _ ?_); clear hK K) | (apply Exists.intro; (with_reducible refine ⟨fun _ => ?_, hK _ ?_⟩); skip; clear hK K)) | ((with_reducible refine quiet_skipN ?_ (fun K hK => ?_)); (rfl); go_simp; (with_reducible refine hK _ ?_); clear hK K))); (with_reducible refine wpQuiet_nil ?_); intro _ hw'; obtain ⟨Z, hw''⟩ := hw'; subst hw''; have hX2 := (hX0.below (World.below_ext _ Y)).below (World.below_ext _ Z); (rw [World.ext_ext] at hX2); (try rw [World.ext_ext]); go_wp2_with (go_at_call 80; (with_reducible refine (hear_any f m.s _ hX2 hok).mono ?_); rintro e w3 ⟨b3, rfl, hO3, hX3, ho3⟩); refine bodyPost_ret (v := .tuple #[.slice none 0 0, .slice (some ⟨b3, 0, none⟩) 1 1]) (by simp [results, Tryz.results49, go_sem] <;> rfl) rfl ?_; exact Aft.mk' (hear_ok hok _) hX3 ((Kp.of_below (by (repeat' (first | with_reducible (first | exact Below.refl _ _ | refine Below.ext ?_ ?_ _ | refine Below.alloc ?_ ?_ _ | refine Below.setCell ?_ ?_ _ | refine Below.drew ?_ | assumption) | (simp [World.size_ext]; done) | (simp [World.size_ext]; omega))))).trans (Kp.of_only ho3 hX.g)) ⟨none, 0, 0, _, 1, 1, rfl, Recs.nil _ _, hO3.sub (fun k _ hk => hk.elim id (hX.sub k))⟩
     ·have d5 : ((m.log.length : Int) == 1) = false := by simp; omega
      have hsn : shipIn r m = none := by
       unfold shipIn
       split
       ·rename_i x hx; exact absurd (by rw [hx]; rfl) h5
       ·rfl
      have hs1 : ship1 r m = r := (by unfold ship1; rw [hsn]); have hs2 : ship1R r m = [] := (by unfold ship1R; rw [hsn]); rw [hs1, hs2]; (clear hs1 hs2 hsn); go_enter Tryz.func49, Tryz.ntmps49; go_wp2; refine wp_region_ext_lit (by kernel_rfl) (by kernel_rfl) ?_; (repeat (first | ((with_reducible refine wpQuiet_step (fun K hK => ?_)); go_simp; first | ((with_reducible refine hK _ ?_); clear hK K) | (apply Exists.intro; (with_reducible refine ⟨fun _ => ?_, hK _ ?_⟩); skip; clear hK K)) | ((with_reducible refine quiet_skipN ?_ (fun K hK => ?_)); (rfl); go_simp; (with_reducible refine hK _ ?_); clear hK K))); (with_reducible refine wpQuiet_nil ?_); intro _ hw'; obtain ⟨Y, hw''⟩ := hw'; subst hw''; go_wp2; refine wp_region_ext_lit (by kernel_rfl) (by kernel_rfl) ?_; (repeat (first | ((with_reducible refine wpQuiet_step (fun K hK => ?_)); go_simp; first | ((with_reducible refine hK _ ?_); clear hK K) | (apply Exists.intro; (with_reducible refine ⟨fun _ => ?_, hK _ ?_⟩); skip; clear hK K)) | ((with_reducible refine quiet_skipN ?_ (fun K hK => ?_)); (rfl); go_simp; (with_reducible refine hK _ ?_); clear hK K))); (with_reducible refine wpQuiet_nil ?_); intro _ hw'; obtain ⟨Z, hw''⟩ := hw'; subst hw''; have hX2 := (hX0.below (World.below_ext _ Y)).below (World.below_ext _ Z); (rw [World.ext_ext] at hX2); (try rw [World.ext_ext]); go_wp2_with (go_at_call 80; (with_reducible refine (hear_any f m.s _ hX2 hok).mono ?_); rintro e w3 ⟨b3, rfl, hO3, hX3, ho3⟩); refine bodyPost_ret (v := .tuple #[.slice none 0 0, .slice (some ⟨b3, 0, none⟩) 1 1]) (by simp [results, Tryz.results49, go_sem] <;> rfl) rfl ?_; exact Aft.mk' (hear_ok hok _) hX3 ((Kp.of_below (by (repeat' (first | with_reducible (first | exact Below.refl _ _ | refine Below.ext ?_ ?_ _ | refine Below.alloc ?_ ?_ _ | refine Below.setCell ?_ ?_ _ | refine Below.drew ?_ | assumption) | (simp [World.size_ext]; done) | (simp [World.size_ext]; omega))))).trans (Kp.of_only ho3 hX.g)) ⟨none, 0, 0, _, 1, 1, rfl, Recs.nil _ _, hO3.sub (fun k _ hk => hk.elim id (hX.sub k))⟩
   ·have d3 : (r.v.p != f) = true := by simpa using h3
    rw [shipP_no (by unfold shipOk; simp [h3])]
    go_enter Tryz.func49, Tryz.ntmps49; go_wp2; refine wp_region_ext_lit (by kernel_rfl) (by kernel_rfl) ?_; (repeat (first | ((with_reducible refine wpQuiet_step (fun K hK => ?_)); go_simp; first | ((with_reducible refine hK _ ?_); clear hK K) | (apply Exists.intro; (with_reducible refine ⟨fun _ => ?_, hK _ ?_⟩); skip; clear hK K)) | ((with_reducible refine quiet_skipN ?_ (fun K hK => ?_)); (rfl); go_simp; (with_reducible refine hK _ ?_); clear hK K))); (with_reducible refine wpQuiet_nil ?_); intro _ hw'; obtain ⟨Y, hw''⟩ := hw'; subst hw''; go_wp2; refine bodyPost_ret (v := .tuple #[.slice none 0 0, .slice none 0 0]) (by simp [results, Tryz.results49, go_sem] <;> rfl) rfl ?_; exact Aft.same hW (by (repeat' (first | with_reducible (first | exact Below.refl _ _ | refine Below.ext ?_ ?_ _ | refine Below.alloc ?_ ?_ _ | refine Below.setCell ?_ ?_ _ | refine Below.drew ?_ | assumption) | (simp [World.size_ext]; done) | (simp [World.size_ext]; omega)))) ⟨none, 0, 0, none, 0, 0, rfl, Recs.nil _ _, Outs.nil _ _⟩
  ·have d2 : (r.joined != m.e) = true := by simpa using h2
   rw [shipP_no (by unfold shipOk; simp [h2])]
   go_enter Tryz.func49, Tryz.ntmps49; go_wp2; refine wp_region_ext_lit (by kernel_rfl) (by kernel_rfl) ?_; (repeat (first | ((with_reducible refine wpQuiet_step (fun K hK => ?_)); go_simp; first | ((with_reducible refine hK _ ?_); clear hK K) | (apply Exists.intro; (with_reducible refine ⟨fun _ => ?_, hK _ ?_⟩); skip; clear hK K)) | ((with_reducible refine quiet_skipN ?_ (fun K hK => ?_)); (rfl); go_simp; (with_reducible refine hK _ ?_); clear hK K))); (with_reducible refine wpQuiet_nil ?_); intro _ hw'; obtain ⟨Y, hw''⟩ := hw'; subst hw''; go_wp2; refine bodyPost_ret (v := .tuple #[.slice none 0 0, .slice none 0 0]) (by simp [results, Tryz.results49, go_sem] <;> rfl) rfl ?_; exact Aft.same hW (by (repeat' (first | with_reducible (first | exact Below.refl _ _ | refine Below.ext ?_ ?_ _ | refine Below.alloc ?_ ?_ _ | refine Below.setCell ?_ ?_ _ | refine Below.drew ?_ | assumption) | (simp [World.size_ext]; done) | (simp [World.size_ext]; omega)))) ⟨none, 0, 0, none, 0, 0, rfl, Recs.nil _ _, Outs.nil _ _⟩
 ·have d1 : (m.e != r.v.e) = true := by simpa using h1
  rw [shipP_no (by unfold shipOk; simp [h1])]
  go_enter Tryz.func49, Tryz.ntmps49; go_wp2; refine wp_region_ext_lit (by kernel_rfl) (by kernel_rfl) ?_; (repeat (first | ((with_reducible refine wpQuiet_step (fun K hK => ?_)); go_simp; first | ((with_reducible refine hK _ ?_); clear hK K) | (apply Exists.intro; (with_reducible refine ⟨fun _ => ?_, hK _ ?_⟩); skip; clear hK K)) | ((with_reducible refine quiet_skipN ?_ (fun K hK => ?_)); (rfl); go_simp; (with_reducible refine hK _ ?_); clear hK K))); (with_reducible refine wpQuiet_nil ?_); intro _ hw'; obtain ⟨Y, hw''⟩ := hw'; subst hw''; go_wp2; refine bodyPost_ret (v := .tuple #[.slice none 0 0, .slice none 0 0]) (by simp [results, Tryz.results49, go_sem] <;> rfl) rfl ?_; exact Aft.same hW (by (repeat' (first | with_reducible (first | exact Below.refl _ _ | refine Below.ext ?_ ?_ _ | refine Below.alloc ?_ ?_ _ | refine Below.setCell ?_ ?_ _ | refine Below.drew ?_ | assumption) | (simp [World.size_ext]; done) | (simp [World.size_ext]; omega)))) ⟨none, 0, 0, none, 0, 0, rfl, Recs.nil _ _, Outs.nil _ _⟩
end Go.Proofs.YtjhcgnmibnjocaaGreat
