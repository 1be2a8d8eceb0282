import Derived.Test.YthajbeooemngpaaStopR
import Derived.Test.YthajbeooemngpaaBack
/-! Behind an error nothing is taken any more. -/
namespace Go.Proofs.Ythajbeooemngpaa
open Go.RowKit
set_option linter.unusedVariables false
set_option linter.unusedSimpArgs false
/-- Only two old blocks are changed. -/
structure Only2 (w w' : World) (g q : Nat) : Prop where
  os : w'.os = w.os
  tape : w'.tape = w.tape
  output : w'.output = w.output
  size : w.heap.size ≤ w'.heap.size
  block : ∀ k, k < w.heap.size → k ≠ g → k ≠ q → w'.heap[k]? = w.heap[k]?
theorem Only2.refl (w : World) (g q : Nat) : Only2 w w g q := ⟨rfl, rfl, rfl, Nat.le_refl _, fun _ _ _ _ => rfl⟩
theorem Only2.trans {w w' w'' : World} {g q : Nat} (h : Only2 w w' g q) (k : Only2 w' w'' g q) : Only2 w w'' g q :=
  ⟨k.os.trans h.os, k.tape.trans h.tape, k.output.trans h.output, Nat.le_trans h.size k.size, fun i hi hg hq => (k.block i (Nat.lt_of_lt_of_le hi h.size) hg hq).trans (h.block i hi hg hq)⟩
theorem Only.l {w w' : World} {g : Nat} (h : Only w w' g) (q : Nat) : Only2 w w' g q := ⟨h.os, h.tape, h.output, h.size, fun k hk hg _ => h.block k hk hg⟩
theorem Only.r {w w' : World} {q : Nat} (h : Only w w' q) (g : Nat) : Only2 w w' g q := ⟨h.os, h.tape, h.output, h.size, fun k hk _ hq => h.block k hk hq⟩
theorem Only2.of_below {w w' : World} {g q : Nat} (h : Below w.heap.size w w') : Only2 w w' g q := ⟨h.os, h.tape, h.output, h.size, fun k hk _ _ => h.block k hk⟩
theorem Only2.below {w w' : World} {g q B : Nat} (h : Only2 w w' g q) (h1 : B ≤ g) (h2 : B ≤ q) (hs : B ≤ w.heap.size) : Below B w w' := ⟨h.os, h.tape, h.output, h.size, fun k hk => h.block k (by omega) (by omega) (by omega)⟩
theorem Blk.only2 {w w' : World} {g q k : Nat} {t : TypeId} {cs : Array Value} (h : Blk w k t cs) (ho : Only2 w w' g q) (h1 : k ≠ g) (h2 : k ≠ q) : Blk w' k t cs := (ho.block k (Blk.lt h) h1 h2).trans h
theorem wp_region_only2 (g q : Nat) {P : Program} {id : Nat} {Q : Exit → Act → World → Prop} {a : Act} {w : World} {l : List Oper} (Vs Ps : List Nat) (ks : List (Bool × Bool × Nat)) (hm : P.follows .mixedOrders = true)
    (hB : (Region.noSelect l.toArray && decide (ks.length = l.length) && First.orderB .any l.toArray Vs Ps ks (Array.replicate l.length false)) = true)
    (h : ∀ X, First.wpF P l.toArray (fun w w' => Only2 w w' g q) (Q .normal) (ks.map fun k => (k.1, k.2.1, l.getD k.2.2 default)) a (w.ext X)) : (Code.region id l.toArray true).wp P Q a w := by
  have hw₁ : ({ w with drawn := w.drawn + 1 } : World) = w.ext ⟨#[], w.drawn + 1⟩ := by simp [World.ext]
  exact First.wp_region_first _ (fun w => Only2.refl w g q) (fun w w' w'' h h' => h.trans h') Vs Ps ks hm hB (hw₁ ▸ h _)
/-- What 'takes' does. -/
def TakesP (w : World) (g b q : Nat) (e' : Ending) (w' : World) : Prop := ∃ (B : Bool) (xs : List Nat) (e m : Int), e' = .returned (.bool B) ∧ Rdr w' g b xs e ∧ Blk w' q 105 #[.slice none 0 0, .int .i64 0, .int .i64 (m)] ∧ Only2 w w' g q
set_option maxRecDepth 100000 in
set_option maxHeartbeats 2000000 in
theorem takes_any (g b q : Nat) (xs : List Nat) (e m : Int) (x : It) (w : World) (hr : Rdr w g b xs e) (hm : Blk w q 105 #[.slice none 0 0, .int .i64 0, .int .i64 (m)]) (h1 : q ≠ g) (h2 : q ≠ b) (hx : x.ok) :
    Calls Try.prog 59 #[.pointer (some ⟨g, 0, none⟩), .pointer (some ⟨q, 0, none⟩), .agg x.cells.toArray] w (TakesP w g b q) := by
  have hlr := hr.lt
  have hlm := Blk.lt hm
  have hr0 := hr.below (Below.alloc (Below.refl _ _) (Nat.le_refl _) (.cells x.cells.toArray 51))
  have hm0 := Blk.alloc hm (.cells x.cells.toArray 51)
  have hBs := Blk.new w 51 x.cells.toArray
  have n1 : w.heap.size ≠ g := by omega
  have n2 : w.heap.size ≠ q := by omega
  obtain ⟨xk, xn, xi, xf, xs', xa, xb, xc, xm⟩ := x
  obtain ⟨o1, o2, o3, o4, o5, o6, o7⟩ := hx
  simp only [It.cells] at *
  by_cases k0 : xk = 0
  · subst k0
    have hq := fun w1 (h1 : Rdr w1 g b xs e) => rdnum_any g b _ e w1 h1
    have hp := fun w1 m (h1 : Blk w1 q 105 #[.slice none 0 0, .int .i64 0, .int .i64 (m)]) => mnum_any q m w1 h1
    generalize numP ⟨xs, e⟩ = r at *
    obtain ⟨rn, rx, re⟩ := r
    dsimp only at hq
    cases hb : ((rn : Int) == 0)
    all_goals
      go_enter Try.func59, Try.ntmps59
      (go_wp2_with (first | (go_at_call 49; (with_reducible refine (hq _ hr0).mono ?_); rintro e w1 ⟨rfl, hr1, ho1⟩; have hm1 := Blk.only hm0 ho1 h1) | (go_at_call 85; (with_reducible refine (hp _ _ hm1).mono ?_); rintro e w2 ⟨rfl, hm2, ho2⟩; have hr2 := hr1.only ho2 (Ne.symm h1) (Ne.symm h2); have d2 := Blk.cell hm2; have l2 := Blk.lt hm2; have ho12 := ((Only2.of_below (Below.alloc (Below.refl _ _) (Nat.le_refl _) (.cells _ 51))).trans (ho1.l q)).trans (ho2.r g))); (refine wp_region_ext_lit (by kernel_rfl) (by kernel_rfl) ?_; (repeat (first | ((with_reducible refine wpQuiet_step (fun K hK => ?_)); go_simp; first | ((with_reducible refine hK _ ?_); clear hK K) | (apply Exists.intro; (with_reducible refine ⟨fun _ => ?_, hK _ ?_⟩); (go_at_call 53; exact Calls.ext_same (rderr_any _ _ _ _ _ (hr2.below (World.below_ext _ _)))); clear hK K)) | ((with_reducible refine quiet_skipN ?_ (fun K hK => ?_)); (rfl); go_simp; (with_reducible refine hK _ ?_); clear hK K))); (with_reducible refine wpQuiet_nil ?_); intro _ hw'; obtain ⟨Y, hw''⟩ := hw'; subst hw''; go_wp2; go_ret; exact ⟨_, _, _, _, rfl, hr2.below (World.below_ext _ Y), Blk.ext hm2 Y, ho12.trans (Only2.of_below (World.below_ext _ Y))⟩))
  · by_cases k1 : xk = 1
    · subst k1
      have hq := fun w1 (h1 : Rdr w1 g b xs e) => rdint_any g b _ e w1 h1
      have hp := fun w1 m (h1 : Blk w1 q 105 #[.slice none 0 0, .int .i64 0, .int .i64 (m)]) => mint_any q m w1 h1
      generalize numP ⟨xs, e⟩ = r at *
      obtain ⟨rn, rx, re⟩ := r
      dsimp only at hq
      generalize zag rn = rz at *
      cases hb : (rz == 0)
      all_goals
        go_enter Try.func59, Try.ntmps59
        (go_wp2_with (first | (go_at_call 50; (with_reducible refine (hq _ hr0).mono ?_); rintro e w1 ⟨rfl, hr1, ho1⟩; have hm1 := Blk.only hm0 ho1 h1) | (go_at_call 86; (with_reducible refine (hp _ _ hm1).mono ?_); rintro e w2 ⟨rfl, hm2, ho2⟩; have hr2 := hr1.only ho2 (Ne.symm h1) (Ne.symm h2); have d2 := Blk.cell hm2; have l2 := Blk.lt hm2; have ho12 := ((Only2.of_below (Below.alloc (Below.refl _ _) (Nat.le_refl _) (.cells _ 51))).trans (ho1.l q)).trans (ho2.r g))); (refine wp_region_ext_lit (by kernel_rfl) (by kernel_rfl) ?_; (repeat (first | ((with_reducible refine wpQuiet_step (fun K hK => ?_)); go_simp; first | ((with_reducible refine hK _ ?_); clear hK K) | (apply Exists.intro; (with_reducible refine ⟨fun _ => ?_, hK _ ?_⟩); (go_at_call 53; exact Calls.ext_same (rderr_any _ _ _ _ _ (hr2.below (World.below_ext _ _)))); clear hK K)) | ((with_reducible refine quiet_skipN ?_ (fun K hK => ?_)); (rfl); go_simp; (with_reducible refine hK _ ?_); clear hK K))); (with_reducible refine wpQuiet_nil ?_); intro _ hw'; obtain ⟨Y, hw''⟩ := hw'; subst hw''; go_wp2; go_ret; exact ⟨_, _, _, _, rfl, hr2.below (World.below_ext _ Y), Blk.ext hm2 Y, ho12.trans (Only2.of_below (World.below_ext _ Y))⟩))
    · by_cases k2 : xk = 2
      · subst k2
        have hq := fun w1 (h1 : Rdr w1 g b xs e) => rdflag_any g b _ e w1 h1
        have hp := fun w1 m (h1 : Blk w1 q 105 #[.slice none 0 0, .int .i64 0, .int .i64 (m)]) => mflag_any q m w1 h1
        have he9 := e9_ne m
        generalize flagP ⟨xs, e⟩ = r at *
        obtain ⟨rf, rx, re⟩ := r
        dsimp only at hq
        cases rf
        all_goals
          go_enter Try.func59, Try.ntmps59
          (go_wp2_with (first | (go_at_call 51; (with_reducible refine (hq _ hr0).mono ?_); rintro e w1 ⟨rfl, hr1, ho1⟩; have hm1 := Blk.only hm0 ho1 h1) | (go_at_call 87; (with_reducible refine (hp _ _ hm1).mono ?_); rintro e w2 ⟨rfl, hm2, ho2⟩; have hr2 := hr1.only ho2 (Ne.symm h1) (Ne.symm h2); have d2 := Blk.cell hm2; have l2 := Blk.lt hm2; have ho12 := ((Only2.of_below (Below.alloc (Below.refl _ _) (Nat.le_refl _) (.cells _ 51))).trans (ho1.l q)).trans (ho2.r g))); (refine wp_region_ext_lit (by kernel_rfl) (by kernel_rfl) ?_; (repeat (first | ((with_reducible refine wpQuiet_step (fun K hK => ?_)); go_simp; first | ((with_reducible refine hK _ ?_); clear hK K) | (apply Exists.intro; (with_reducible refine ⟨fun _ => ?_, hK _ ?_⟩); (go_at_call 53; exact Calls.ext_same (rderr_any _ _ _ _ _ (hr2.below (World.below_ext _ _)))); clear hK K)) | ((with_reducible refine quiet_skipN ?_ (fun K hK => ?_)); (rfl); go_simp; (with_reducible refine hK _ ?_); clear hK K))); (with_reducible refine wpQuiet_nil ?_); intro _ hw'; obtain ⟨Y, hw''⟩ := hw'; subst hw''; go_wp2; go_ret; exact ⟨_, _, _, _, rfl, hr2.below (World.below_ext _ Y), Blk.ext hm2 Y, ho12.trans (Only2.of_below (World.below_ext _ Y))⟩))
      · by_cases k3 : xk = 3
        · subst k3
          have hq := fun w1 (h1 : Rdr w1 g b xs e) => rdtext_any g b _ e xm w1 h1 o7
          have hp := fun w1 m (h1 : Blk w1 q 105 #[.slice none 0 0, .int .i64 0, .int .i64 (m)]) => mtext_any q m xm w1 h1
          generalize textP xm ⟨xs, e⟩ = r at *
          obtain ⟨rt, rx, re⟩ := r
          dsimp only at hq
          generalize strOf rt = rs at *
          cases hb : rs.toList.isEmpty
          all_goals
            go_enter Try.func59, Try.ntmps59
            (go_wp2; refine wp_region_only2 g q [2, 6] [0, 1, 4, 5, 8] [(true, false, 0), (true, false, 1), (true, true, 2), (true, false, 4), (true, false, 5), (true, true, 6), (false, true, 3), (false, false, 7), (true, false, 8), (false, false, 9)] (by kernel_rfl) (by kernel_rfl) (fun Z => ?_); simp only [List.map_cons, List.map_nil, List.getD_cons_zero, List.getD_cons_succ]; (have hBY := Blk.ext hBs Z); (repeat (first | (refine First.wpF_pure (fun K hK => ?_); go_simp; first | (refine hK _ _ ?_; clear hK K) | (apply Exists.intro; refine ⟨fun _ => ?_, hK _ _ ?_⟩; fail)) | (refine First.wpF_free (fun K hK => ?_); go_simp; first | (refine hK _ _ ?_; clear hK K)))); (refine first_read rfl (v := .int .i64 xm) (fun w' hw' => ?_) (fun K hK => ?_); rotate_left 1; go_simp; refine hK _ _ ?_; clear hK K; rotate_left 1; (have hB' := Blk.only2 hBY hw' n1 n2; have c' := Blk.cell hB'; go_simp)); (repeat (first | (refine First.wpF_pure (fun K hK => ?_); go_simp; first | (refine hK _ _ ?_; clear hK K) | (apply Exists.intro; refine ⟨fun _ => ?_, hK _ _ ?_⟩; fail)) | (refine First.wpF_free (fun K hK => ?_); go_simp; first | (refine hK _ _ ?_; clear hK K)))); (refine first_read rfl (v := .int .i64 xm) (fun w' hw' => ?_) (fun K hK => ?_); rotate_left 1; go_simp; refine hK _ _ ?_; clear hK K; rotate_left 1; (have hB' := Blk.only2 hBY hw' n1 n2; have c' := Blk.cell hB'; go_simp)); refine First.wpF_must (fun K hK => ?_); go_wp2_with (go_at_call 56; (with_reducible refine (hq _ (hr0.below (World.below_ext _ Z))).mono ?_); rintro e w1 ⟨rfl, hr1, ho1⟩; have hm1 := Blk.only (Blk.ext hm0 Z) ho1 h1); (refine hK _ _ (fun hnd => by first | exact Bool.noConfusion hnd | exact ho1.l q) ?_; clear hK K); refine First.wpF_must (fun K hK => ?_); go_wp2_with (go_at_call 88; (with_reducible refine (hp _ _ hm1).mono ?_); rintro e w2 ⟨rfl, hm2, ho2⟩; have hr2 := hr1.only ho2 (Ne.symm h1) (Ne.symm h2); have d2 := Blk.cell hm2; have l2 := Blk.lt hm2); (refine hK _ _ (fun hnd => by first | exact Bool.noConfusion hnd | exact ho2.r g) ?_; clear hK K); (repeat (first | (refine First.wpF_pure (fun K hK => ?_); go_simp; first | (refine hK _ _ ?_; clear hK K) | (apply Exists.intro; refine ⟨fun _ => ?_, hK _ _ ?_⟩; fail)) | (refine First.wpF_free (fun K hK => ?_); go_simp; first | (refine hK _ _ ?_; clear hK K)))); refine First.wpF_must (fun K hK => ?_); go_wp2; (refine hK _ _ (fun hnd => by first | exact Bool.noConfusion hnd | exact Only2.refl _ _ _) ?_; clear hK K); refine First.wpF_nil ?_; have ho12 := (((Only2.of_below (Below.alloc (Below.refl _ _) (Nat.le_refl _) (.cells _ 51))).trans (Only2.of_below (World.below_ext _ Z))).trans (ho1.l q)).trans (ho2.r g); go_wp2; (refine wp_region_ext_lit (by kernel_rfl) (by kernel_rfl) ?_; (repeat (first | ((with_reducible refine wpQuiet_step (fun K hK => ?_)); go_simp; first | ((with_reducible refine hK _ ?_); clear hK K) | (apply Exists.intro; (with_reducible refine ⟨fun _ => ?_, hK _ ?_⟩); (go_at_call 53; exact Calls.ext_same (rderr_any _ _ _ _ _ (hr2.below (World.below_ext _ _)))); clear hK K)) | ((with_reducible refine quiet_skipN ?_ (fun K hK => ?_)); (rfl); go_simp; (with_reducible refine hK _ ?_); clear hK K))); (with_reducible refine wpQuiet_nil ?_); intro _ hw'; obtain ⟨Y, hw''⟩ := hw'; subst hw''; go_wp2; go_ret; exact ⟨_, _, _, _, rfl, hr2.below (World.below_ext _ Y), Blk.ext hm2 Y, ho12.trans (Only2.of_below (World.below_ext _ Y))⟩))
        · by_cases k4 : xk = 4
          · subst k4
            have hq := fun w1 (h1 : Rdr w1 g b xs e) => rdstamp_any g b _ e w1 h1
            have hp := fun w1 m (h1 : Blk w1 q 105 #[.slice none 0 0, .int .i64 0, .int .i64 (m)]) => mstamp_any q m w1 h1
            generalize stampP ⟨xs, e⟩ = r at *
            obtain ⟨⟨ra, rb, rc⟩, rx, re⟩ := r
            dsimp only at hq
            cases hb : stEq ra rb rc 0 0 0
            all_goals
              go_enter Try.func59, Try.ntmps59
              go_wp2_with (first | (go_at_call 52; (with_reducible refine (hq _ hr0).mono ?_); rintro e w1 ⟨rfl, hr1, ho1⟩; have hm1 := Blk.only hm0 ho1 h1) | (go_at_call 58; (with_reducible refine (from_any _ _ _ _).mono ?_); rintro e w4 ⟨rfl, hb4⟩; have hm4 := Blk.below hm1 hb4 (Blk.lt hm1); have hr4 := hr1.below hb4) | (go_at_call 89; (with_reducible refine (hp _ _ hm4).mono ?_); rintro e w2 ⟨rfl, hm2, ho2⟩; have hr2 := hr4.only ho2 (Ne.symm h1) (Ne.symm h2); have d2 := Blk.cell hm2; have l2 := Blk.lt hm2; have ho12 := (((Only2.of_below (Below.alloc (Below.refl _ _) (Nat.le_refl _) (.cells _ 51))).trans (ho1.l q)).trans (Only2.of_below hb4)).trans (ho2.r g)))
              (refine wp_region_ext_lit (by kernel_rfl) (by kernel_rfl) ?_; (repeat (first | ((with_reducible refine wpQuiet_step (fun K hK => ?_)); go_simp; first | ((with_reducible refine hK _ ?_); clear hK K) | (apply Exists.intro; (with_reducible refine ⟨fun _ => ?_, hK _ ?_⟩); (go_at_call 53; exact Calls.ext_same (rderr_any _ _ _ _ _ (hr2.below (World.below_ext _ _)))); clear hK K)) | ((with_reducible refine quiet_skipN ?_ (fun K hK => ?_)); (rfl); go_simp; (with_reducible refine hK _ ?_); clear hK K))); (with_reducible refine wpQuiet_nil ?_); intro _ hw'; obtain ⟨Y, hw''⟩ := hw'; subst hw''; go_wp2; go_ret; exact ⟨_, _, _, _, rfl, hr2.below (World.below_ext _ Y), Blk.ext hm2 Y, ho12.trans (Only2.of_below (World.below_ext _ Y))⟩)
          · by_cases k5 : xk = 5
            · subst k5
              have hq := fun w1 (h1 : Rdr w1 g b xs e) => rdcount_any g b _ e xm w1 h1 o7
              have hp := fun w1 m (h1 : Blk w1 q 105 #[.slice none 0 0, .int .i64 0, .int .i64 (m)]) => mcount_any q m xm w1 h1
              generalize countP xm ⟨xs, e⟩ = r at *
              obtain ⟨rn, rx, re⟩ := r
              dsimp only at hq
              cases hb : ((rn : Int) == 0)
              all_goals
                go_enter Try.func59, Try.ntmps59
                (go_wp2; refine wp_region_only2 g q [2, 6] [0, 1, 4, 5, 8] [(true, false, 0), (true, false, 1), (true, true, 2), (true, false, 4), (true, false, 5), (true, true, 6), (false, true, 3), (false, false, 7), (true, false, 8), (false, false, 9)] (by kernel_rfl) (by kernel_rfl) (fun Z => ?_); simp only [List.map_cons, List.map_nil, List.getD_cons_zero, List.getD_cons_succ]; (have hBY := Blk.ext hBs Z); (repeat (first | (refine First.wpF_pure (fun K hK => ?_); go_simp; first | (refine hK _ _ ?_; clear hK K) | (apply Exists.intro; refine ⟨fun _ => ?_, hK _ _ ?_⟩; fail)) | (refine First.wpF_free (fun K hK => ?_); go_simp; first | (refine hK _ _ ?_; clear hK K)))); (refine first_read rfl (v := .int .i64 xm) (fun w' hw' => ?_) (fun K hK => ?_); rotate_left 1; go_simp; refine hK _ _ ?_; clear hK K; rotate_left 1; (have hB' := Blk.only2 hBY hw' n1 n2; have c' := Blk.cell hB'; go_simp)); (repeat (first | (refine First.wpF_pure (fun K hK => ?_); go_simp; first | (refine hK _ _ ?_; clear hK K) | (apply Exists.intro; refine ⟨fun _ => ?_, hK _ _ ?_⟩; fail)) | (refine First.wpF_free (fun K hK => ?_); go_simp; first | (refine hK _ _ ?_; clear hK K)))); (refine first_read rfl (v := .int .i64 xm) (fun w' hw' => ?_) (fun K hK => ?_); rotate_left 1; go_simp; refine hK _ _ ?_; clear hK K; rotate_left 1; (have hB' := Blk.only2 hBY hw' n1 n2; have c' := Blk.cell hB'; go_simp)); refine First.wpF_must (fun K hK => ?_); go_wp2_with (go_at_call 60; (with_reducible refine (hq _ (hr0.below (World.below_ext _ Z))).mono ?_); rintro e w1 ⟨rfl, hr1, ho1⟩; have hm1 := Blk.only (Blk.ext hm0 Z) ho1 h1); (refine hK _ _ (fun hnd => by first | exact Bool.noConfusion hnd | exact ho1.l q) ?_; clear hK K); refine First.wpF_must (fun K hK => ?_); go_wp2_with (go_at_call 90; (with_reducible refine (hp _ _ hm1).mono ?_); rintro e w2 ⟨rfl, hm2, ho2⟩; have hr2 := hr1.only ho2 (Ne.symm h1) (Ne.symm h2); have d2 := Blk.cell hm2; have l2 := Blk.lt hm2); (refine hK _ _ (fun hnd => by first | exact Bool.noConfusion hnd | exact ho2.r g) ?_; clear hK K); (repeat (first | (refine First.wpF_pure (fun K hK => ?_); go_simp; first | (refine hK _ _ ?_; clear hK K) | (apply Exists.intro; refine ⟨fun _ => ?_, hK _ _ ?_⟩; fail)) | (refine First.wpF_free (fun K hK => ?_); go_simp; first | (refine hK _ _ ?_; clear hK K)))); refine First.wpF_must (fun K hK => ?_); go_wp2; (refine hK _ _ (fun hnd => by first | exact Bool.noConfusion hnd | exact Only2.refl _ _ _) ?_; clear hK K); refine First.wpF_nil ?_; have ho12 := (((Only2.of_below (Below.alloc (Below.refl _ _) (Nat.le_refl _) (.cells _ 51))).trans (Only2.of_below (World.below_ext _ Z))).trans (ho1.l q)).trans (ho2.r g); go_wp2; (refine wp_region_ext_lit (by kernel_rfl) (by kernel_rfl) ?_; (repeat (first | ((with_reducible refine wpQuiet_step (fun K hK => ?_)); go_simp; first | ((with_reducible refine hK _ ?_); clear hK K) | (apply Exists.intro; (with_reducible refine ⟨fun _ => ?_, hK _ ?_⟩); (go_at_call 53; exact Calls.ext_same (rderr_any _ _ _ _ _ (hr2.below (World.below_ext _ _)))); clear hK K)) | ((with_reducible refine quiet_skipN ?_ (fun K hK => ?_)); (rfl); go_simp; (with_reducible refine hK _ ?_); clear hK K))); (with_reducible refine wpQuiet_nil ?_); intro _ hw'; obtain ⟨Y, hw''⟩ := hw'; subst hw''; go_wp2; go_ret; exact ⟨_, _, _, _, rfl, hr2.below (World.below_ext _ Y), Blk.ext hm2 Y, ho12.trans (Only2.of_below (World.below_ext _ Y))⟩))
            · have e0 : (xk == 0) = false := by simpa using k0
              have e1 : (xk == 1) = false := by simpa using k1
              have e2 : (xk == 2) = false := by simpa using k2
              have e3 : (xk == 3) = false := by simpa using k3
              have e4 : (xk == 4) = false := by simpa using k4
              have e5 : (xk == 5) = false := by simpa using k5
              have d2 := Blk.cell hm0
              have l2 := Blk.lt hm0
              go_enter Try.func59, Try.ntmps59
              go_wp2
              refine wp_region_ext_lit (by kernel_rfl) (by kernel_rfl) ?_
              (repeat (first | ((with_reducible refine wpQuiet_step (fun K hK => ?_)); go_simp; first | ((with_reducible refine hK _ ?_); clear hK K) | (apply Exists.intro; (with_reducible refine ⟨fun _ => ?_, hK _ ?_⟩); (go_at_call 53; exact Calls.ext_same (rderr_any _ _ _ _ _ (hr0.below (World.below_ext _ _)))); clear hK K)) | ((with_reducible refine quiet_skipN ?_ (fun K hK => ?_)); (rfl); go_simp; (with_reducible refine hK _ ?_); clear hK K)))
              (with_reducible refine wpQuiet_nil ?_); intro _ hw'; obtain ⟨Y, hw''⟩ := hw'; subst hw''
              go_wp2
              go_ret
              exact ⟨_, _, _, _, rfl, hr0.below (World.below_ext _ Y), Blk.ext hm0 Y, (Only2.of_below (Below.alloc (Below.refl _ _) (Nat.le_refl _) _)).trans (Only2.of_below (World.below_ext _ Y))⟩
end Go.Proofs.Ythajbeooemngpaa
