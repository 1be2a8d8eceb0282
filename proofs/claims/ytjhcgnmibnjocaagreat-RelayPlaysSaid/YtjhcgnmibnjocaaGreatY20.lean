import Derived.Test.YtjhcgnmibnjocaaGreatY17
/-! A relay takes a whole log: or does not. -/
namespace Go.Proofs.YtjhcgnmibnjocaaGreat
open Go.RowKit Go.Maps
set_option linter.unusedVariables false
set_option linter.unusedSimpArgs false
theorem Calls.toBelow {P : Program} {f : FuncId} {args : Array Value} {w : World} {v : Ending} (h : Calls P f args w fun e w' => e = v ∧ w' = w) : Calls P f args w fun e w' => e = v ∧ Below w.heap.size w w' :=
 h.mono fun e w' h => ⟨h.1, by rw [h.2]; exact Below.refl _ _⟩
theorem offerP_no {r : Rl} {f : Int} {m : Mg} (h : offerOk r f m = false) : offerP r f m = ⟨[], [], r⟩ := by unfold offerP; rw [h]; rfl
set_option maxRecDepth 100000 in
set_option maxHeartbeats 8000000 in
theorem offer_no {S T : Nat → Prop} {g : Nat} {r : Rl} (f : Int) (m : Mg) (vm vl' : Value) (w : World) (h : RelW w S T g r) (hm : MgW w S vm vl' m) (hno : offerOk r f m = false) (hml : m.v.l.length ≤ 1000000) :
  Calls Tryz.prog 48 #[.pointer (some ⟨g, 0, none⟩), .int .i64 f, .agg #[.int .i64 m.k, .int .i64 m.e, .int .i64 m.v.e, .int .i64 m.v.p, vm, .int .i64 m.i, .int .i64 m.s, vl']] w fun e w' => Aft w w' S T g r fun T' =>
   ∃ A1 n1 c1 A2 n2 c2, e = .returned (.tuple #[.slice A1 n1 c1, .slice A2 n2 c2]) ∧ Recs w' T' A1 n1 [] ∧ Outs w' T' A2 n2 [] := by
 have hW := h
 obtain ⟨hok, Am, cm, vl, mb, hX⟩ := h
 obtain ⟨Av, cv, Bv, dv, rfl, rfl, hrm, hnm, hEm⟩ := hm.sl
 have c0 := hX.blk.cell
 have l0 := hX.blk.lt
 have hr0 := fun X => (((hrm.alloc (Nat.le_refl _) (.cells #[.int .i64 m.k, .int .i64 m.e, .int .i64 m.v.e, .int .i64 m.v.p, (.slice Av m.v.l.length cv), .int .i64 m.i, .int .i64 m.s, (.slice Bv m.log.length dv)] 60)).alloc (by simp) (.cells #[.int .i64 m.v.e, .int .i64 m.v.p, .slice Av m.v.l.length cv] 44)).ext (by simp; omega) X).more (B' := (((w.alloc (.cells #[.int .i64 m.k, .int .i64 m.e, .int .i64 m.v.e, .int .i64 m.v.p, (.slice Av m.v.l.length cv), .int .i64 m.i, .int .i64 m.s, (.slice Bv m.log.length dv)] 60)).alloc (.cells #[.int .i64 m.v.e, .int .i64 m.v.p, .slice Av m.v.l.length cv] 44)).ext X).heap.size) (by simp [World.size_ext]; omega)
 have hRt := fun X => vright_any m.v.e m.v.p Av m.v.l.length cv m.v.l _ (hr0 X) (by omega)
 have hCt := fun X => Calls.toBelow (has_any Av m.v.l.length cv m.v.l r.id _ (hr0 X) (by omega))
 clear hr0
 unfold offerOk at hno
 cases h1 : m.v.right with
 | false =>
  unfold Vi.right at h1
  rw [h1] at hRt
  go_enter Tryz.func48, Tryz.ntmps48; go_wp2; refine wp_region_ext_lit (by kernel_rfl) (by kernel_rfl) ?_; (repeat (first | ((with_reducible refine wpQuiet_step (fun K hK => ?_)); go_simp; first | ((with_reducible refine hK _ ?_); clear hK K) | (apply Exists.intro; (with_reducible refine ⟨fun _ => ?_, hK _ ?_⟩); (first | (go_at_call 26; exact Calls.ext_of (hRt _)) | (go_at_call 50; exact Calls.ext_of (hCt _))); clear hK K)) | ((with_reducible refine quiet_skipN ?_ (fun K hK => ?_)); (rfl); go_simp; (with_reducible refine hK _ ?_); clear hK K))); (with_reducible refine wpQuiet_nil ?_); intro _ hw'; obtain ⟨Y, hw''⟩ := hw'; subst hw''; go_wp2; refine bodyPost_ret (v := .tuple #[.slice none 0 0, .slice none 0 0]) (by simp [results, Tryz.results48, go_sem] <;> rfl) rfl ?_; exact Aft.same hW (by (repeat' (first | with_reducible (first | exact Below.refl _ _ | refine Below.ext ?_ ?_ _ | refine Below.alloc ?_ ?_ _ | refine Below.setCell ?_ ?_ _ | refine Below.drew ?_ | assumption) | (simp [World.size_ext]; done) | (simp [World.size_ext]; omega)))) ⟨none, 0, 0, none, 0, 0, rfl, Recs.nil _ _, Outs.nil _ _⟩
 | true =>
  rw [h1] at hno
  unfold Vi.right at h1
  rw [h1] at hRt
  by_cases h2 : m.v.e = m.e
  ·have d2 : (m.v.e != m.e) = false := by simpa using h2
   rw [decide_eq_true h2] at hno
   replace h2 := hide h2
   by_cases h3 : m.v.p = f
   ·have d3 : (m.v.p != f) = false := by simpa using h3
    rw [decide_eq_true h3] at hno
    replace h3 := hide h3
    by_cases h4 : f = r.id
    ·have d4 : (f == r.id) = true := by simpa using h4
     replace h4 := hide h4
     clear hno
     go_enter Tryz.func48, Tryz.ntmps48; go_wp2; refine wp_region_ext_lit (by kernel_rfl) (by kernel_rfl) ?_; (repeat (first | ((with_reducible refine wpQuiet_step (fun K hK => ?_)); go_simp; first | ((with_reducible refine hK _ ?_); clear hK K) | (apply Exists.intro; (with_reducible refine ⟨fun _ => ?_, hK _ ?_⟩); (first | (go_at_call 26; exact Calls.ext_of (hRt _)) | (go_at_call 50; exact Calls.ext_of (hCt _))); clear hK K)) | ((with_reducible refine quiet_skipN ?_ (fun K hK => ?_)); (rfl); go_simp; (with_reducible refine hK _ ?_); clear hK K))); (with_reducible refine wpQuiet_nil ?_); intro _ hw'; obtain ⟨Y, hw''⟩ := hw'; subst hw''; go_wp2; refine bodyPost_ret (v := .tuple #[.slice none 0 0, .slice none 0 0]) (by simp [results, Tryz.results48, go_sem] <;> rfl) rfl ?_; exact Aft.same hW (by (repeat' (first | with_reducible (first | exact Below.refl _ _ | refine Below.ext ?_ ?_ _ | refine Below.alloc ?_ ?_ _ | refine Below.setCell ?_ ?_ _ | refine Below.drew ?_ | assumption) | (simp [World.size_ext]; done) | (simp [World.size_ext]; omega)))) ⟨none, 0, 0, none, 0, 0, rfl, Recs.nil _ _, Outs.nil _ _⟩
    ·have d4 : (f == r.id) = false := by simpa using h4
     rw [d4] at hno
     replace h4 := hide h4
     cases h5 : hasB m.v.l r.id with
     | false =>
      rw [h5] at hCt
      clear hno h5
      go_enter Tryz.func48, Tryz.ntmps48; go_wp2; refine wp_region_ext_lit (by kernel_rfl) (by kernel_rfl) ?_; (repeat (first | ((with_reducible refine wpQuiet_step (fun K hK => ?_)); go_simp; first | ((with_reducible refine hK _ ?_); clear hK K) | (apply Exists.intro; (with_reducible refine ⟨fun _ => ?_, hK _ ?_⟩); (first | (go_at_call 26; exact Calls.ext_of (hRt _)) | (go_at_call 50; exact Calls.ext_of (hCt _))); clear hK K)) | ((with_reducible refine quiet_skipN ?_ (fun K hK => ?_)); (rfl); go_simp; (with_reducible refine hK _ ?_); clear hK K))); (with_reducible refine wpQuiet_nil ?_); intro _ hw'; obtain ⟨Y, hw''⟩ := hw'; subst hw''; go_wp2; refine bodyPost_ret (v := .tuple #[.slice none 0 0, .slice none 0 0]) (by simp [results, Tryz.results48, go_sem] <;> rfl) rfl ?_; exact Aft.same hW (by (repeat' (first | with_reducible (first | exact Below.refl _ _ | refine Below.ext ?_ ?_ _ | refine Below.alloc ?_ ?_ _ | refine Below.setCell ?_ ?_ _ | refine Below.drew ?_ | assumption) | (simp [World.size_ext]; done) | (simp [World.size_ext]; omega)))) ⟨none, 0, 0, none, 0, 0, rfl, Recs.nil _ _, Outs.nil _ _⟩
     | true =>
      rw [h5] at hCt hno
      clear h5
      by_cases h6 : m.log.length ≤ 4096
      ·have d6 : decide ((4096 : Int) < m.log.length) = false := by simp; omega
       rw [decide_eq_true h6] at hno
       replace h6 := hide h6
       by_cases h7 : m.e < r.v.e
       ·have d7 : decide (m.e < r.v.e) = true := by simpa using h7
        replace h7 := hide h7
        clear hno
        go_enter Tryz.func48, Tryz.ntmps48; go_wp2; refine wp_region_ext_lit (by kernel_rfl) (by kernel_rfl) ?_; (repeat (first | ((with_reducible refine wpQuiet_step (fun K hK => ?_)); go_simp; first | ((with_reducible refine hK _ ?_); clear hK K) | (apply Exists.intro; (with_reducible refine ⟨fun _ => ?_, hK _ ?_⟩); (first | (go_at_call 26; exact Calls.ext_of (hRt _)) | (go_at_call 50; exact Calls.ext_of (hCt _))); clear hK K)) | ((with_reducible refine quiet_skipN ?_ (fun K hK => ?_)); (rfl); go_simp; (with_reducible refine hK _ ?_); clear hK K))); (with_reducible refine wpQuiet_nil ?_); intro _ hw'; obtain ⟨Y, hw''⟩ := hw'; subst hw''; go_wp2; refine wp_region_ext_lit (by kernel_rfl) (by kernel_rfl) ?_; (repeat (first | ((with_reducible refine wpQuiet_step (fun K hK => ?_)); go_simp; first | ((with_reducible refine hK _ ?_); clear hK K) | (apply Exists.intro; (with_reducible refine ⟨fun _ => ?_, hK _ ?_⟩); (first | (go_at_call 26; exact Calls.ext_of (hRt _)) | (go_at_call 50; exact Calls.ext_of (hCt _))); clear hK K)) | ((with_reducible refine quiet_skipN ?_ (fun K hK => ?_)); (rfl); go_simp; (with_reducible refine hK _ ?_); clear hK K))); (with_reducible refine wpQuiet_nil ?_); intro _ hw'; obtain ⟨Z, hw''⟩ := hw'; subst hw''; go_wp2; refine bodyPost_ret (v := .tuple #[.slice none 0 0, .slice none 0 0]) (by simp [results, Tryz.results48, go_sem] <;> rfl) rfl ?_; exact Aft.same hW (by (repeat' (first | with_reducible (first | exact Below.refl _ _ | refine Below.ext ?_ ?_ _ | refine Below.alloc ?_ ?_ _ | refine Below.setCell ?_ ?_ _ | refine Below.drew ?_ | assumption) | (simp [World.size_ext]; done) | (simp [World.size_ext]; omega)))) ⟨none, 0, 0, none, 0, 0, rfl, Recs.nil _ _, Outs.nil _ _⟩
       ·have d7 : decide (m.e < r.v.e) = false := by simpa using h7
        rw [d7] at hno
        replace h7 := hide h7
        by_cases h8 : m.e = r.v.e
        ·have d8 : (m.e == r.v.e) = true := by simpa using h8
         rw [decide_eq_true h8] at hno
         replace h8 := hide h8
         have h9 : (r.v.p == f) = false := by simpa using hno
         have d9 : (r.v.p != f) = true := by simpa using h9
         clear hno
         replace h9 := hide h9
         go_enter Tryz.func48, Tryz.ntmps48; go_wp2; refine wp_region_ext_lit (by kernel_rfl) (by kernel_rfl) ?_; (repeat (first | ((with_reducible refine wpQuiet_step (fun K hK => ?_)); go_simp; first | ((with_reducible refine hK _ ?_); clear hK K) | (apply Exists.intro; (with_reducible refine ⟨fun _ => ?_, hK _ ?_⟩); (first | (go_at_call 26; exact Calls.ext_of (hRt _)) | (go_at_call 50; exact Calls.ext_of (hCt _))); clear hK K)) | ((with_reducible refine quiet_skipN ?_ (fun K hK => ?_)); (rfl); go_simp; (with_reducible refine hK _ ?_); clear hK K))); (with_reducible refine wpQuiet_nil ?_); intro _ hw'; obtain ⟨Y, hw''⟩ := hw'; subst hw''; go_wp2; refine wp_region_ext_lit (by kernel_rfl) (by kernel_rfl) ?_; (repeat (first | ((with_reducible refine wpQuiet_step (fun K hK => ?_)); go_simp; first | ((with_reducible refine hK _ ?_); clear hK K) | (apply Exists.intro; (with_reducible refine ⟨fun _ => ?_, hK _ ?_⟩); (first | (go_at_call 26; exact Calls.ext_of (hRt _)) | (go_at_call 50; exact Calls.ext_of (hCt _))); clear hK K)) | ((with_reducible refine quiet_skipN ?_ (fun K hK => ?_)); (rfl); go_simp; (with_reducible refine hK _ ?_); clear hK K))); (with_reducible refine wpQuiet_nil ?_); intro _ hw'; obtain ⟨Z, hw''⟩ := hw'; subst hw''; go_wp2; refine bodyPost_ret (v := .tuple #[.slice none 0 0, .slice none 0 0]) (by simp [results, Tryz.results48, go_sem] <;> rfl) rfl ?_; exact Aft.same hW (by (repeat' (first | with_reducible (first | exact Below.refl _ _ | refine Below.ext ?_ ?_ _ | refine Below.alloc ?_ ?_ _ | refine Below.setCell ?_ ?_ _ | refine Below.drew ?_ | assumption) | (simp [World.size_ext]; done) | (simp [World.size_ext]; omega)))) ⟨none, 0, 0, none, 0, 0, rfl, Recs.nil _ _, Outs.nil _ _⟩
        ·rw [decide_eq_false h8] at hno
         simp at hno
      ·have d6 : decide ((4096 : Int) < m.log.length) = true := by simp; omega
       replace h6 := hide h6
       clear hno
       go_enter Tryz.func48, Tryz.ntmps48; go_wp2; refine wp_region_ext_lit (by kernel_rfl) (by kernel_rfl) ?_; (repeat (first | ((with_reducible refine wpQuiet_step (fun K hK => ?_)); go_simp; first | ((with_reducible refine hK _ ?_); clear hK K) | (apply Exists.intro; (with_reducible refine ⟨fun _ => ?_, hK _ ?_⟩); (first | (go_at_call 26; exact Calls.ext_of (hRt _)) | (go_at_call 50; exact Calls.ext_of (hCt _))); clear hK K)) | ((with_reducible refine quiet_skipN ?_ (fun K hK => ?_)); (rfl); go_simp; (with_reducible refine hK _ ?_); clear hK K))); (with_reducible refine wpQuiet_nil ?_); intro _ hw'; obtain ⟨Y, hw''⟩ := hw'; subst hw''; go_wp2; refine bodyPost_ret (v := .tuple #[.slice none 0 0, .slice none 0 0]) (by simp [results, Tryz.results48, go_sem] <;> rfl) rfl ?_; exact Aft.same hW (by (repeat' (first | with_reducible (first | exact Below.refl _ _ | refine Below.ext ?_ ?_ _ | refine Below.alloc ?_ ?_ _ | refine Below.setCell ?_ ?_ _ | refine Below.drew ?_ | assumption) | (simp [World.size_ext]; done) | (simp [World.size_ext]; omega)))) ⟨none, 0, 0, none, 0, 0, rfl, Recs.nil _ _, Outs.nil _ _⟩
   ·have d3 : (m.v.p != f) = true := by simpa using h3
    clear hno
    replace h3 := hide h3
    go_enter Tryz.func48, Tryz.ntmps48; go_wp2; refine wp_region_ext_lit (by kernel_rfl) (by kernel_rfl) ?_; (repeat (first | ((with_reducible refine wpQuiet_step (fun K hK => ?_)); go_simp; first | ((with_reducible refine hK _ ?_); clear hK K) | (apply Exists.intro; (with_reducible refine ⟨fun _ => ?_, hK _ ?_⟩); (first | (go_at_call 26; exact Calls.ext_of (hRt _)) | (go_at_call 50; exact Calls.ext_of (hCt _))); clear hK K)) | ((with_reducible refine quiet_skipN ?_ (fun K hK => ?_)); (rfl); go_simp; (with_reducible refine hK _ ?_); clear hK K))); (with_reducible refine wpQuiet_nil ?_); intro _ hw'; obtain ⟨Y, hw''⟩ := hw'; subst hw''; go_wp2; refine bodyPost_ret (v := .tuple #[.slice none 0 0, .slice none 0 0]) (by simp [results, Tryz.results48, go_sem] <;> rfl) rfl ?_; exact Aft.same hW (by (repeat' (first | with_reducible (first | exact Below.refl _ _ | refine Below.ext ?_ ?_ _ | refine Below.alloc ?_ ?_ _ | refine Below.setCell ?_ ?_ _ | refine Below.drew ?_ | assumption) | (simp [World.size_ext]; done) | (simp [World.size_ext]; omega)))) ⟨none, 0, 0, none, 0, 0, rfl, Recs.nil _ _, Outs.nil _ _⟩
  ·have d2 : (m.v.e != m.e) = true := by simpa using h2
   clear hno
   replace h2 := hide h2
   go_enter Tryz.func48, Tryz.ntmps48; go_wp2; refine wp_region_ext_lit (by kernel_rfl) (by kernel_rfl) ?_; (repeat (first | ((with_reducible refine wpQuiet_step (fun K hK => ?_)); go_simp; first | ((with_reducible refine hK _ ?_); clear hK K) | (apply Exists.intro; (with_reducible refine ⟨fun _ => ?_, hK _ ?_⟩); (first | (go_at_call 26; exact Calls.ext_of (hRt _)) | (go_at_call 50; exact Calls.ext_of (hCt _))); clear hK K)) | ((with_reducible refine quiet_skipN ?_ (fun K hK => ?_)); (rfl); go_simp; (with_reducible refine hK _ ?_); clear hK K))); (with_reducible refine wpQuiet_nil ?_); intro _ hw'; obtain ⟨Y, hw''⟩ := hw'; subst hw''; go_wp2; refine bodyPost_ret (v := .tuple #[.slice none 0 0, .slice none 0 0]) (by simp [results, Tryz.results48, go_sem] <;> rfl) rfl ?_; exact Aft.same hW (by (repeat' (first | with_reducible (first | exact Below.refl _ _ | refine Below.ext ?_ ?_ _ | refine Below.alloc ?_ ?_ _ | refine Below.setCell ?_ ?_ _ | refine Below.drew ?_ | assumption) | (simp [World.size_ext]; done) | (simp [World.size_ext]; omega)))) ⟨none, 0, 0, none, 0, 0, rfl, Recs.nil _ _, Outs.nil _ _⟩
end Go.Proofs.YtjhcgnmibnjocaaGreat
