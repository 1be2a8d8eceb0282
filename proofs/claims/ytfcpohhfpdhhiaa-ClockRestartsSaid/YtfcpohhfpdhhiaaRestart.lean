import Derived.Test.YtfcpohhfpdhhiaaGiven
/-! A clock that is made anew. -/
namespace Go.Proofs.Ytfcpohhfpdhhiaa
open Go.RowKit
set_option linter.unusedVariables false
set_option linter.unusedSimpArgs false
set_option maxRecDepth 100000 in
set_option maxHeartbeats 4000000 in
theorem law_restarts (off up mark : Int) (A : Option Addr) (n c : Nat) (l : List Op5) (A' : Option Addr) (n' c' : Nat) (l' : List Op5) (w : World) (hm : U32 mark) (hr : Reads w w.heap.size 5 A n (opsV l)) (hok : ∀ x ∈ l, x.ok) (hr' : Reads w w.heap.size 5 A' n' (opsV l')) (hok' : ∀ x ∈ l', x.ok) (hn63 : n ≤ 9223372036854775807) (hn63' : n' ≤ 9223372036854775807) :
    Calls Try.prog 4 #[.int .i64 off, .int .i64 up, .slice A n c, .slice A' n' c', .int .u32 mark] w fun e w' => e = .returned (.bool true) ∧ Below w.heap.size w w' := by
  have hl : l.length = n := by have := hr.1; rw [opsV_length] at this; omega
  have hl' : l'.length = n' := by have := hr'.1; rw [opsV_length] at this; omega
  have h1 : U32 1 := by unfold U32; omega
  by_cases hf : fitsP off up
  · go_enter Try.func4, Try.ntmps4
    go_wp2_with (first | (go_at_call 7; (with_reducible refine (cnew_fit _ _ _ _ hf).mono ?_); rintro e w1 ⟨rfl, hk1, hb1⟩) | (go_at_call 8; (with_reducible refine (cawake_any _).mono ?_); rintro e w2 ⟨rfl, hb2⟩))
    have hk2 := Blk.alloc (Blk.below hk1 hb2 (Blk.lt hk1)) (.cells #[.int .i64 0, .int .u32 0, .int .u32 0] 30)
    have hv2 := Blk.new w2 30 #[.int .i64 0, .int .u32 0, .int .u32 0]
    have hbs := hb1.trans (hb2.mono hb1.size)
    have hg : w.heap.size < w2.heap.size := by have := Blk.lt hk1; have := hb2.size; omega
    have hb0 : Below w.heap.size w (w2.alloc (.cells #[.int .i64 0, .int .u32 0, .int .u32 0] 30)) := hbs.alloc hbs.size _
    generalize hgw : w2.heap.size = gw at *
    generalize hgc : w.heap.size = gc at *
    go_loopw [14, 45] (fun vh vi wr => ∃ (j : Nat) (k : Ck) (wa wb wm : Int) (h : Bool), j ≤ n ∧ vh = .bool h ∧ vi = .int .i64 (j : Int) ∧ k.ok ∧ k.off = off ∧ Blk wr gc 58 k.cells ∧ Blk wr gw 30 #[.int .i64 wa, .int .u32 wb, .int .u32 wm] ∧ (h = true → wa ≤ k.up) ∧ Below gc w wr) (fun _ vi _ => ((n : Int) - intOf vi).toNat)
    case atStart => exact ⟨0, ckNew off up 1, 0, 0, 0, false, by omega, rfl, rfl, ckNew_ok hf (by omega), rfl, hk2, hv2, (fun e => by cases e), hb0⟩
    case round =>
      clear hk2 hv2 hb0 hbs hk1 hb1 hb2
      obtain ⟨j, k, wa, wb, wm, h, hj, rfl, rfl, hko, hoff, hk0, hv0, hh, hb⟩ := hrel
      obtain ⟨wo, rfl⟩ : ∃ wo : World, wo = wr := ⟨_, rfl⟩
      have hs := hb.size
      have lg := Blk.lt hk0
      have lv := Blk.lt hv0
      by_cases hlt : j < n
      · obtain ⟨b, o, rfl, hbb, hc⟩ := hr.plain (by omega) (by omega)
        obtain ⟨x, hx⟩ : ∃ x, l[j]? = some x := ⟨l[j]'(by omega), List.getElem?_eq_getElem (by omega)⟩
        have hxo := hok x (List.mem_of_getElem? hx)
        have hcell : ∀ k u, x.cells[k]? = some u → wo.cell? ⟨b, o + j * 5 + k, none⟩ = some u := fun k u hu => by
          rw [hb.cell (p := ⟨b, _, none⟩) hbb, Nat.add_assoc]
          exact hc _ _ (opsV_get l j x hx k u hu)
        have m0 := hcell 0 _ rfl
        have m1 := hcell 1 _ rfl
        have m2 := hcell 2 _ rfl
        have m3 := hcell 3 _ rfl
        have m4 := hcell 4 _ rfl
        rw [Nat.add_zero] at m0
        have hbw : b < wo.heap.size := by omega
        have hlj : (j : Int) < n := by omega
        clear hc hr hcell hok hx
        have n3 : gw ≠ gc := by omega
        have hn : ∀ W, Blk W gc 58 k.cells → _ := fun W hW => given_any gc k x W hW hko hxo
        have hZ := fun h' => givenP_zero hko hxo h'
        have hO := givenP_ok hko hxo
        generalize givenP k x = r at *
        have hV := Blk.alloc hv0 (.cells #[.int .i64 x.kind, .int .i64 x.phys, .int .i64 x.a, .int .u32 x.b, .int .u32 x.c] 33)
        by_cases he : r.e = 0
        · have he' : (r.e == 0) = true := by simp [he]
          go_wp2_with (go_at_call 16; (with_reducible refine Calls.mono (hn _ ?hkk) ?_); (case hkk => (repeat' (first | with_reducible exact hk0 | with_reducible refine Blk.ext ?_ _ | with_reducible refine Blk.alloc ?_ _ | with_reducible apply Blk.set_to | with_reducible refine Blk.far ?_ ?_ _ | rfl | (simp [World.size_ext]; done) | (simp [World.size_ext]; omega)))); rintro e w2 ⟨rfl, hk2, ho2⟩; have hV2 := Blk.only hV ho2 n3; have d2 := Blk.cell hV2; have g2 := Blk.frozen hV2; have ls2 := Blk.lt hV2; have s2 := ho2.size; have v1 : gw ≠ w2.heap.size := (by omega); have v2 : w2.heap.size ≠ gw := (by omega))
          go_roundw
          case rel =>
            have o2' : Only wo w2 gc := ((Only.refl wo gc).alloc _).trans ho2
            have hb2' : Below gc w w2 := hb.trans (o2'.below (Nat.le_refl _) (by omega))
            have hsz : gc ≤ w2.heap.size := by have := hb2'.size; omega
            have hU := (hZ he).up
            exact ⟨j + 1, r.k, r.x, r.y, r.z, true, by omega, rfl, by go_num, hO.1, hO.2.1.trans hoff, by (repeat' (first | with_reducible exact hk2 | with_reducible refine Blk.ext ?_ _ | with_reducible refine Blk.alloc ?_ _ | with_reducible apply Blk.set_to | with_reducible refine Blk.far ?_ ?_ _ | rfl | (simp [World.size_ext]; done) | (simp [World.size_ext]; omega))), Blk.alloc (Blk.three hV2) _, (fun _ => Int.le_trans hU hO.2.2), by (repeat' (first | with_reducible exact Below.refl _ _ | with_reducible refine Below.ext ?_ ?_ _ | with_reducible refine Below.alloc ?_ ?_ _ | with_reducible refine Below.setCell ?_ ?_ _ | with_reducible refine Below.drew ?_ | with_reducible assumption | (simp [World.size_ext]; done) | (simp [World.size_ext]; omega)))⟩
          case measure => simp [intOf]; omega
        · have he' : (r.e == 0) = false := by simp [he]
          go_wp2_with (go_at_call 16; (with_reducible refine Calls.mono (hn _ ?hkk) ?_); (case hkk => (repeat' (first | with_reducible exact hk0 | with_reducible refine Blk.ext ?_ _ | with_reducible refine Blk.alloc ?_ _ | with_reducible apply Blk.set_to | with_reducible refine Blk.far ?_ ?_ _ | rfl | (simp [World.size_ext]; done) | (simp [World.size_ext]; omega)))); rintro e w2 ⟨rfl, hk2, ho2⟩; have hV2 := Blk.only hV ho2 n3; have d2 := Blk.cell hV2; have g2 := Blk.frozen hV2; have ls2 := Blk.lt hV2; have s2 := ho2.size; have v1 : gw ≠ w2.heap.size := (by omega); have v2 : w2.heap.size ≠ gw := (by omega))
          go_roundw
          case rel =>
            have o2' : Only wo w2 gc := ((Only.refl wo gc).alloc _).trans ho2
            have hb2' : Below gc w w2 := hb.trans (o2'.below (Nat.le_refl _) (by omega))
            have hsz : gc ≤ w2.heap.size := by have := hb2'.size; omega
            exact ⟨j + 1, r.k, wa, wb, wm, h, by omega, rfl, by go_num, hO.1, hO.2.1.trans hoff, by (repeat' (first | with_reducible exact hk2 | with_reducible refine Blk.ext ?_ _ | with_reducible refine Blk.alloc ?_ _ | with_reducible apply Blk.set_to | with_reducible refine Blk.far ?_ ?_ _ | rfl | (simp [World.size_ext]; done) | (simp [World.size_ext]; omega))), by (repeat' (first | with_reducible exact hV2 | with_reducible refine Blk.ext ?_ _ | with_reducible refine Blk.alloc ?_ _ | with_reducible apply Blk.set_to | with_reducible refine Blk.far ?_ ?_ _ | rfl | (simp [World.size_ext]; done) | (simp [World.size_ext]; omega))), (fun e => Int.le_trans (hh e) hO.2.2), by (repeat' (first | with_reducible exact Below.refl _ _ | with_reducible refine Below.ext ?_ ?_ _ | with_reducible refine Below.alloc ?_ ?_ _ | with_reducible refine Below.setCell ?_ ?_ _ | with_reducible refine Below.drew ?_ | with_reducible assumption | (simp [World.size_ext]; done) | (simp [World.size_ext]; omega)))⟩
          case measure => simp [intOf]; omega
      · obtain rfl : j = n := by omega
        clear hr
        have hf2 : fitsP off k.up := ⟨by rw [← hoff]; exact hko.off.1, by rw [← hoff]; exact hko.off.2, hko.up.1, hko.up.2⟩
        go_wp2_with (first | (go_at_call 14; (with_reducible refine (cupper_any gc k wo hk0).mono ?_); rintro e w3 ⟨rfl, hb3⟩) | (go_at_call 7; (with_reducible refine (cnew_fit _ _ _ _ hf2).mono ?_); rintro e w4 ⟨rfl, hk4, hb4⟩))
        have hbs4 := hb3.trans (hb4.mono hb3.size)
        have hv4 := Blk.below hv0 hbs4 lv
        have hs3 := hb3.size
        have hb04 : Below gc w w4 := hb.trans (hbs4.mono (by omega))
        generalize hgd : w3.heap.size = gd at *
        have hdw : gw < gd := by omega
        have hdc : gc < gd := by omega
        go_loopw [76] (fun vi wr => ∃ (j : Nat) (k2 : Ck), j ≤ n' ∧ vi = .int .i64 (j : Int) ∧ k2.ok ∧ (k.up ≤ k2.a ∧ (k2.a = k.up → k2.b = 4294967295)) ∧ Blk wr gd 58 k2.cells ∧ Blk wr gw 30 #[.int .i64 wa, .int .u32 wb, .int .u32 wm] ∧ Below gc w wr) (fun vi _ => ((n' : Int) - intOf vi).toNat)
        case atStart => exact ⟨0, ckNew off k.up mark, by omega, rfl, ckNew_ok hf2 hm, ⟨Int.le_refl _, fun _ => rfl⟩, hk4, hv4, hb04⟩
        case round =>
          clear hk4 hv4 hb04 hbs4 hb3 hb4 hk0 hv0
          obtain ⟨j, k2, hj, rfl, hko2, hup2, hk0, hv0, hb'⟩ := hrel
          obtain ⟨wp, rfl⟩ : ∃ wp : World, wp = wr := ⟨_, rfl⟩
          have hs := hb'.size
          have lg := Blk.lt hk0
          have lv := Blk.lt hv0
          by_cases hlt : j < n'
          · obtain ⟨b, o, rfl, hbb, hc⟩ := hr'.plain (by omega) (by omega)
            obtain ⟨x, hx⟩ : ∃ x, l'[j]? = some x := ⟨l'[j]'(by omega), List.getElem?_eq_getElem (by omega)⟩
            have hxo := hok' x (List.mem_of_getElem? hx)
            have hcell : ∀ k u, x.cells[k]? = some u → wp.cell? ⟨b, o + j * 5 + k, none⟩ = some u := fun k u hu => by
              rw [hb'.cell (p := ⟨b, _, none⟩) (by omega), Nat.add_assoc]
              exact hc _ _ (opsV_get l' j x hx k u hu)
            have m0 := hcell 0 _ rfl
            have m1 := hcell 1 _ rfl
            have m2 := hcell 2 _ rfl
            have m3 := hcell 3 _ rfl
            have m4 := hcell 4 _ rfl
            rw [Nat.add_zero] at m0
            have hbw : b < wp.heap.size := by omega
            have hlj : (j : Int) < n' := by omega
            clear hc hr' hcell hok' hx
            have n3 : gw ≠ gd := by omega
            have hn : ∀ W, Blk W gd 58 k2.cells → _ := fun W hW => given_any gd k2 x W hW hko2 hxo
            have hZ := fun h' => givenP_zero hko2 hxo h'
            have hN := fun h' => givenP_not (k := k2) (x := x) h'
            have hO := givenP_ok hko2 hxo
            generalize givenP k2 x = r at *
            have hV := Blk.alloc hv0 (.cells #[.int .i64 x.kind, .int .i64 x.phys, .int .i64 x.a, .int .u32 x.b, .int .u32 x.c] 33)
            by_cases he : r.e = 0
            · have he' : (r.e == 0) = true := by simp [he]
              have hG := hZ he
              have hA := hG.ahead
              have hrb := hO.1.b
              rw [hG.k] at hrb
              have hlt2 : k.up < r.x := by
                unfold Ahead at hA
                have h2 := hup2.2
                have h3 := hup2.1
                simp only at hrb
                rcases hA with hA | ⟨hA, hB⟩
                · omega
                · rcases Int.lt_or_le k.up r.x with h4 | h4
                  · exact h4
                  · have := h2 (by omega)
                    omega
              have hup3 : k.up ≤ r.k.a ∧ (r.k.a = k.up → r.k.b = 4294967295) := by
                rw [hG.k]
                simp only
                exact ⟨by omega, fun e => by omega⟩
              have z4 : h = true → cmpI wa wb 4294967295 r.x r.y r.z = -1 := fun e => ahead_cmp (.inl (by have := hh e; omega))
              go_wp2_with (go_at_call 16; (with_reducible refine Calls.mono (hn _ ?hkk) ?_); (case hkk => (repeat' (first | with_reducible exact hk0 | with_reducible refine Blk.ext ?_ _ | with_reducible refine Blk.alloc ?_ _ | with_reducible apply Blk.set_to | with_reducible refine Blk.far ?_ ?_ _ | rfl | (simp [World.size_ext]; done) | (simp [World.size_ext]; omega)))); rintro e w2 ⟨rfl, hk2, ho2⟩; have hV2 := Blk.only hV ho2 n3; have d2 := Blk.cell hV2; have g2 := Blk.frozen hV2; have ls2 := Blk.lt hV2; have s2 := ho2.size; have v1 : gw ≠ w2.heap.size := (by omega); have v2 : w2.heap.size ≠ gw := (by omega))
              have o2' : Only wp w2 gd := ((Only.refl wp gd).alloc _).trans ho2
              have hb2' : Below gc w w2 := hb'.trans (o2'.below (by omega) (by omega))
              have hsz : gc ≤ w2.heap.size := by have := hb2'.size; omega
              cases h
              · refine wp_region_ext_lit (by kernel_rfl) (by kernel_rfl) ?_; (repeat (first | ((with_reducible refine wpQuiet_step (fun K hK => ?_)); go_simp; first | ((with_reducible refine hK _ ?_); clear hK K) | (apply Exists.intro; (with_reducible refine ⟨fun _ => ?_, hK _ ?_⟩); (first | (go_at_call 15; exact Calls.ext_of (last_any _ _ _ _)) | (go_at_call 12; exact Calls.ext_of (compare_any _ _ _ _ _ _ _))); clear hK K)) | ((with_reducible refine quiet_skipN ?_ (fun K hK => ?_)); (rfl); go_simp; (with_reducible refine hK _ ?_); clear hK K))); (with_reducible refine wpQuiet_nil ?_); intro _ hw'; obtain ⟨Y, hw''⟩ := hw'; subst hw''; go_wp2; go_roundw; (case rel => exact ⟨j + 1, r.k, by omega, by go_num, hO.1, hup3, by (repeat' (first | with_reducible exact hk2 | with_reducible refine Blk.ext ?_ _ | with_reducible refine Blk.alloc ?_ _ | with_reducible apply Blk.set_to | with_reducible refine Blk.far ?_ ?_ _ | rfl | (simp [World.size_ext]; done) | (simp [World.size_ext]; omega))), by (repeat' (first | with_reducible exact hV2 | with_reducible refine Blk.ext ?_ _ | with_reducible refine Blk.alloc ?_ _ | with_reducible apply Blk.set_to | with_reducible refine Blk.far ?_ ?_ _ | rfl | (simp [World.size_ext]; done) | (simp [World.size_ext]; omega))), by (repeat' (first | with_reducible exact Below.refl _ _ | with_reducible refine Below.ext ?_ ?_ _ | with_reducible refine Below.alloc ?_ ?_ _ | with_reducible refine Below.setCell ?_ ?_ _ | with_reducible refine Below.drew ?_ | with_reducible assumption | (simp [World.size_ext]; done) | (simp [World.size_ext]; omega)))⟩); (case measure => simp [intOf]; omega)
              · have z5 := z4 rfl
                clear z4 hh
                refine wp_region_ext_lit (by kernel_rfl) (by kernel_rfl) ?_; (repeat (first | ((with_reducible refine wpQuiet_step (fun K hK => ?_)); go_simp; first | ((with_reducible refine hK _ ?_); clear hK K) | (apply Exists.intro; (with_reducible refine ⟨fun _ => ?_, hK _ ?_⟩); (first | (go_at_call 15; exact Calls.ext_of (last_any _ _ _ _)) | (go_at_call 12; exact Calls.ext_of (compare_any _ _ _ _ _ _ _))); clear hK K)) | ((with_reducible refine quiet_skipN ?_ (fun K hK => ?_)); (rfl); go_simp; (with_reducible refine hK _ ?_); clear hK K))); (with_reducible refine wpQuiet_nil ?_); intro _ hw'; obtain ⟨Y, hw''⟩ := hw'; subst hw''; go_wp2; go_roundw; (case rel => exact ⟨j + 1, r.k, by omega, by go_num, hO.1, hup3, by (repeat' (first | with_reducible exact hk2 | with_reducible refine Blk.ext ?_ _ | with_reducible refine Blk.alloc ?_ _ | with_reducible apply Blk.set_to | with_reducible refine Blk.far ?_ ?_ _ | rfl | (simp [World.size_ext]; done) | (simp [World.size_ext]; omega))), by (repeat' (first | with_reducible exact hV2 | with_reducible refine Blk.ext ?_ _ | with_reducible refine Blk.alloc ?_ _ | with_reducible apply Blk.set_to | with_reducible refine Blk.far ?_ ?_ _ | rfl | (simp [World.size_ext]; done) | (simp [World.size_ext]; omega))), by (repeat' (first | with_reducible exact Below.refl _ _ | with_reducible refine Below.ext ?_ ?_ _ | with_reducible refine Below.alloc ?_ ?_ _ | with_reducible refine Below.setCell ?_ ?_ _ | with_reducible refine Below.drew ?_ | with_reducible assumption | (simp [World.size_ext]; done) | (simp [World.size_ext]; omega)))⟩); (case measure => simp [intOf]; omega)
            · have he' : (r.e == 0) = false := by simp [he]
              have hup3 : k.up ≤ r.k.a ∧ (r.k.a = k.up → r.k.b = 4294967295) := by rw [(hN he).1, (hN he).2]; exact hup2
              go_wp2_with (go_at_call 16; (with_reducible refine Calls.mono (hn _ ?hkk) ?_); (case hkk => (repeat' (first | with_reducible exact hk0 | with_reducible refine Blk.ext ?_ _ | with_reducible refine Blk.alloc ?_ _ | with_reducible apply Blk.set_to | with_reducible refine Blk.far ?_ ?_ _ | rfl | (simp [World.size_ext]; done) | (simp [World.size_ext]; omega)))); rintro e w2 ⟨rfl, hk2, ho2⟩; have hV2 := Blk.only hV ho2 n3; have d2 := Blk.cell hV2; have g2 := Blk.frozen hV2; have ls2 := Blk.lt hV2; have s2 := ho2.size; have v1 : gw ≠ w2.heap.size := (by omega); have v2 : w2.heap.size ≠ gw := (by omega))
              have o2' : Only wp w2 gd := ((Only.refl wp gd).alloc _).trans ho2
              have hb2' : Below gc w w2 := hb'.trans (o2'.below (by omega) (by omega))
              have hsz : gc ≤ w2.heap.size := by have := hb2'.size; omega
              refine wp_region_ext_lit (by kernel_rfl) (by kernel_rfl) ?_; (repeat (first | ((with_reducible refine wpQuiet_step (fun K hK => ?_)); go_simp; first | ((with_reducible refine hK _ ?_); clear hK K) | (apply Exists.intro; (with_reducible refine ⟨fun _ => ?_, hK _ ?_⟩); (first | (go_at_call 15; exact Calls.ext_of (last_any _ _ _ _)) | (go_at_call 12; exact Calls.ext_of (compare_any _ _ _ _ _ _ _))); clear hK K)) | ((with_reducible refine quiet_skipN ?_ (fun K hK => ?_)); (rfl); go_simp; (with_reducible refine hK _ ?_); clear hK K))); (with_reducible refine wpQuiet_nil ?_); intro _ hw'; obtain ⟨Y, hw''⟩ := hw'; subst hw''; go_wp2; go_roundw; (case rel => exact ⟨j + 1, r.k, by omega, by go_num, hO.1, hup3, by (repeat' (first | with_reducible exact hk2 | with_reducible refine Blk.ext ?_ _ | with_reducible refine Blk.alloc ?_ _ | with_reducible apply Blk.set_to | with_reducible refine Blk.far ?_ ?_ _ | rfl | (simp [World.size_ext]; done) | (simp [World.size_ext]; omega))), by (repeat' (first | with_reducible exact hV2 | with_reducible refine Blk.ext ?_ _ | with_reducible refine Blk.alloc ?_ _ | with_reducible apply Blk.set_to | with_reducible refine Blk.far ?_ ?_ _ | rfl | (simp [World.size_ext]; done) | (simp [World.size_ext]; omega))), by (repeat' (first | with_reducible exact Below.refl _ _ | with_reducible refine Below.ext ?_ ?_ _ | with_reducible refine Below.alloc ?_ ?_ _ | with_reducible refine Below.setCell ?_ ?_ _ | with_reducible refine Below.drew ?_ | with_reducible assumption | (simp [World.size_ext]; done) | (simp [World.size_ext]; omega)))⟩); (case measure => simp [intOf]; omega)
          · obtain rfl : j = n' := by omega
            clear hr'
            go_wp2
            go_ret
            exact ⟨rfl, by rw [hgc]; exact hb'⟩
  · go_enter Try.func4, Try.ntmps4
    go_wp2_with (first | (go_at_call 7; (with_reducible refine (cnew_not _ _ _ _ hf).mono ?_); rintro e w1 ⟨rfl, hb1⟩) | (go_at_call 8; (with_reducible refine (cawake_any w1).mono ?_); rintro e w2 ⟨rfl, hb2⟩) | (go_at_call 8; (with_reducible refine (cawake_any w2).mono ?_); rintro e w3 ⟨rfl, hb3⟩))
    go_ret
    exact ⟨rfl, (hb1.trans (hb2.mono hb1.size)).trans (hb3.mono (Nat.le_trans hb1.size hb2.size))⟩
section
open Go.ChangeShapes Go.WideShapes Go.ChangeAt
variable {H : Type} {enc : TypeId × Value → H}
theorem trodAll_five {P : Program} {w : World} {base : Nat} {spare : Nat → Bool} {held : Bool} {t0 t1 t2 t3 t4 : TypeId} {args : Array Value} {ds : List (DataW H)} {ps : List MemPlace} (h : DataW.TrodAll enc P w base spare held [t0, t1, t2, t3, t4] args.toList ds ps) :
    ∃ v0 v1 v2 v3 v4 d0 d1 d2 d3 d4 p0 p1 p2 p3 p4, args = #[v0, v1, v2, v3, v4] ∧ ds = [d0, d1, d2, d3, d4] ∧ DataW.Trod enc P w base spare held t0 v0 d0 p0 ∧ DataW.Trod enc P w base spare held t1 v1 d1 p1 ∧ DataW.Trod enc P w base spare held t2 v2 d2 p2 ∧ DataW.Trod enc P w base spare held t3 v3 d3 p3 ∧ DataW.Trod enc P w base spare held t4 v4 d4 p4 := by
  obtain ⟨v0, r0, d0, e0, p0, q0, hargs, rfl, rfl, h0, k0⟩ := trodAll_cons h
  obtain ⟨v1, r1, d1, e1, p1, q1, rfl, rfl, rfl, h1, k1⟩ := trodAll_cons k0
  obtain ⟨v2, r2, d2, e2, p2, q2, rfl, rfl, rfl, h2, k2⟩ := trodAll_cons k1
  obtain ⟨v3, r3, d3, e3, p3, q3, rfl, rfl, rfl, h3, k3⟩ := trodAll_cons k2
  obtain ⟨v4, r4, d4, e4, p4, q4, rfl, rfl, rfl, h4, k4⟩ := trodAll_cons k3
  obtain ⟨rfl, rfl, rfl⟩ := trodAll_nil k4
  exact ⟨v0, v1, v2, v3, v4, d0, d1, d2, d3, d4, p0, p1, p2, p3, p4, by cases args; simp_all, rfl, h0, h1, h2, h3, h4⟩
set_option maxRecDepth 100000 in
theorem clockRestarts_walk : LawWalk enc Try.prog 4 Try.f4 := by
  intro W base args ds ps hval hA hlt _
  rw [Try.params4] at hA hval
  obtain ⟨v0, v1, v2, v3, v4, d0, d1, d2, d3, d4, p0, p1, p2, p3, p4, rfl, rfl, h0, h1, h2, h3, h4⟩ := trodAll_five hA
  obtain ⟨a, rfl, _, _, ha⟩ := open_int Try.underlying2 (hval 0 _ v0 rfl rfl) h0
  obtain ⟨b, rfl, _, _, hb⟩ := open_int Try.underlying2 (hval 1 _ v1 rfl rfl) h1
  obtain ⟨A, n, c, l, rfl, hnc, hcm, hr, hok⟩ := ops_open (hval 2 _ v2 rfl rfl) h2
  obtain ⟨A', n', c', l', rfl, hnc', hcm', hr', hok'⟩ := ops_open (hval 3 _ v3 rfl rfl) h3
  obtain ⟨m, rfl, _, _, hm⟩ := open_int Try.underlying22 (hval 4 _ v4 rfl rfl) h4
  simp [Lit.wf, IntKind.min, IntKind.max, IntKind.signed, IntKind.bits] at hm
  exact law_restarts a b m A n c l A' n' c' l' W hm hr hok hr' hok' (by unfold maxLen at hcm; omega) (by unfold maxLen at hcm'; omega)
set_option maxRecDepth 100000 in
theorem clockRestarts_lifted (os : Os) (started : os.Started) (H : Type) (enc : TypeId × Value → H) :
    ReturnsInHanded {} Try.checked os 4 .any (Rows.clockRestartsSpec.pre6 enc Try.prog Try.f4 Rows.clockRestartsRow.domain false) (Rows.clockRestartsSpec.post enc Try.prog Try.f4 false true false false) :=
  law_lifted (C := Try.checked) own started (by kernel_rfl) Try.func4 laidOut (by kernel_rfl) rfl Try.underlying4 rfl
    (fun ds h => by obtain ⟨d0, d1, d2, d3, d4, rfl⟩ := list5 h; rfl)
    (ChangeSpec.witness6 (enc := enc) (C := Try.checked) false ⟨#[], #[.int .i64 0, .int .i64 0, .slice none 0 0, .slice none 0 0, .int .u32 0], []⟩ 8 (by kernel_rfl) (by kernel_rfl) (by kernel_rfl) (by kernel_rfl))
    clockRestarts_walk
theorem clockRestarts_holds : Rows.ClockRestartsSaid :=
  OpenClaim.holds_of_wide 4 Try.f4 rfl rfl rfl rfl rfl rfl rfl ⟨rfl, rfl, rfl, rfl, rfl⟩ rfl rfl rfl rfl rfl (by kernel_rfl) Try.func4 (by kernel_rfl)
    (of_decide_eq_true (by kernel_rfl)) (by unfold Func.isWrapper; rw [if_neg (of_decide_eq_false (by kernel_rfl))]; exact ⟨rfl, rfl⟩)
    (fun os started H enc _ => clockRestarts_lifted os started H enc)
#print axioms clockRestarts_holds
end
end Go.Proofs.Ytfcpohhfpdhhiaa
