import Derived.Test.YthajbeooemngpaaPack
/-! Which samples may be packed: the document. -/
namespace Go.Proofs.Ythajbeooemngpaa
open Go.RowKit
set_option linter.unusedVariables false
set_option linter.unusedSimpArgs false
set_option maxRecDepth 100000 in
set_option maxHeartbeats 1000000 in
theorem rpright_any (A : Option Addr) (n c : Nat) (l : List (Int × Int)) (w : World) (hr : Reads w w.heap.size 2 A n (smps l)) (hn : n * 16 ≤ 140737488355328) :
    Calls Try.prog 20 #[.slice A n c] w fun e w' => e = .returned (.bool (decide (n ≤ 65536) && goodP l)) ∧ Below w.heap.size w w' := by
  have hl : l.length = n := by have := hr.1; rw [smps_length] at this; omega
  go_enter Try.func20, Try.ntmps20
  go_wp2
  go_loopw [3] (fun s wr => ∃ j : Nat, j ≤ n ∧ s = .int .i64 (j : Int) ∧ (∀ i, i < j → okP l i = true) ∧ Below w.heap.size w wr) (fun s _ => ((n : Int) - intOf s).toNat)
  case atStart => exact ⟨0, by omega, rfl, fun i hi => by omega, Below.refl _ _⟩
  case round =>
    obtain ⟨j, hj, rfl, hok, hb⟩ := hrel
    obtain ⟨wo, rfl⟩ : ∃ wo : World, wo = wr := ⟨_, rfl⟩
    have hs := hb.size
    by_cases hlt : j < n
    · obtain ⟨b, o, rfl, hbb, hc⟩ := hr.plain (by omega) (by omega)
      have hg : l[j]? = some l[j] := List.getElem?_eq_getElem (by omega)
      have m1 : wo.cell? ⟨b, o + j * 2, none⟩ = some (.int .i64 l[j].1) := by rw [hb.cell (p := ⟨b, _, none⟩) hbb]; exact hc _ _ (smps_get l j _ hg).1
      have m2 : wo.cell? ⟨b, o + j * 2 + 1, none⟩ = some (.int .i64 l[j].2) := by rw [hb.cell (p := ⟨b, _, none⟩) hbb, Nat.add_assoc]; exact hc _ _ (smps_get l j _ hg).2
      have hbw : b < wo.heap.size := by omega
      have hlj : (j : Int) < n := by omega
      generalize l[j] = p at *
      by_cases h1 : 0 ≤ p.1
      · have c1 : decide (p.1 < 0) = false := by simp; omega
        by_cases h2 : p.1 ≤ 4611686018427387904
        · have c2 : decide (4611686018427387904 < p.1) = false := by simp; omega
          rcases Nat.eq_zero_or_pos j with h0 | h0
          · subst h0
            simp only [Nat.zero_mul, Nat.add_zero] at m1 m2
            rw [show ((0 : Nat) : Int) = 0 from rfl]
            have HO : Hid (∀ i, i < 1 → okP l i = true) := show ∀ i, i < 1 → okP l i = true from fun i hi => by
              obtain rfl : i = 0 := by omega
              rw [okP_zero hg]
              simp [h1, h2]
            clear hc hok hr hg h1 h2
            go_wp2
            refine wp_region_ext_lit (by kernel_rfl) (by kernel_rfl) ?_
            (repeat (first | ((with_reducible refine wpQuiet_step (fun K hK => ?_)); go_simp; first | ((with_reducible refine hK _ ?_); clear hK K) | (apply Exists.intro; (with_reducible refine ⟨fun _ => ?_, hK _ ?_⟩); skip; clear hK K)) | ((with_reducible refine quiet_skipN ?_ (fun K hK => ?_)); (rfl); go_simp; (with_reducible refine hK _ ?_); clear hK K)))
            (with_reducible refine wpQuiet_nil ?_); intro _ hw'; obtain ⟨Y, hw''⟩ := hw'; subst hw''
            go_wp2
            go_roundw
            case rel => exact ⟨1, by omega, rfl, HO.out, by (repeat' (first | with_reducible exact Below.refl _ _ | with_reducible refine Below.ext ?_ ?_ _ | with_reducible refine Below.alloc ?_ ?_ _ | with_reducible refine Below.setCell ?_ ?_ _ | with_reducible refine Below.drew ?_ | with_reducible assumption | (simp [World.size_ext]; done) | (simp [World.size_ext]; omega)))⟩
            case measure => simp [intOf]; omega
          · obtain ⟨m, rfl⟩ : ∃ m, j = m + 1 := ⟨j - 1, by omega⟩
            have hg' : l[m]? = some l[m] := List.getElem?_eq_getElem (by omega)
            have m3 : wo.cell? ⟨b, o + m * 2, none⟩ = some (.int .i64 l[m].1) := by rw [hb.cell (p := ⟨b, _, none⟩) hbb]; exact hc _ _ (smps_get l m _ hg').1
            have HO := hide (okP_succ hg hg')
            generalize l[m] = q at *
            have c5 : decide ((0 : Int) < (m : Int) + 1) = true := by simp only [decide_eq_true_eq]; omega
            have c6 : (0 : Int) < (m : Int) + 1 := by omega
            have k1 : IntKind.i64.wrap (m : Int) = (m : Int) := IntWalk.i64_in _ (by omega)
            have k3 : (m : Int) < n := by omega
            have k5 : m < n := by omega
            have k6 : (m : Int) + 1 < n := by omega
            have k7 : (0 : Int) ≤ (m : Int) + 1 := by omega
            have k8 : ((m : Int) + 1).toNat = m + 1 := by omega
            have k9 : m + 1 < n := by omega
            have HH := hide hok
            by_cases h3 : q.1 < p.1
            · have c4 : decide (p.1 ≤ q.1) = false := by simp; omega
              have HP : Hid ((decide (0 ≤ p.1) && decide (p.1 ≤ 4611686018427387904) && decide (q.1 < p.1)) = true) := show (decide (0 ≤ p.1) && decide (p.1 ≤ 4611686018427387904) && decide (q.1 < p.1)) = true by simp [h1, h2, h3]
              clear hc hok hr hg hg' h1 h2 h3
              go_wp2
              refine wp_region_ext_lit (by kernel_rfl) (by kernel_rfl) ?_
              (repeat (first | ((with_reducible refine wpQuiet_step (fun K hK => ?_)); go_simp; first | ((with_reducible refine hK _ ?_); clear hK K) | (apply Exists.intro; (with_reducible refine ⟨fun _ => ?_, hK _ ?_⟩); skip; clear hK K)) | ((with_reducible refine quiet_skipN ?_ (fun K hK => ?_)); (rfl); go_simp; (with_reducible refine hK _ ?_); clear hK K)))
              (with_reducible refine wpQuiet_nil ?_); intro _ hw'; obtain ⟨Y, hw''⟩ := hw'; subst hw''
              go_wp2
              go_roundw
              case rel =>
                refine ⟨m + 1 + 1, by omega, by go_num, fun i hi => ?_, by (repeat' (first | with_reducible exact Below.refl _ _ | with_reducible refine Below.ext ?_ ?_ _ | with_reducible refine Below.alloc ?_ ?_ _ | with_reducible refine Below.setCell ?_ ?_ _ | with_reducible refine Below.drew ?_ | with_reducible assumption | (simp [World.size_ext]; done) | (simp [World.size_ext]; omega)))⟩
                rcases Nat.lt_or_ge i (m + 1) with hi' | hi'
                · exact HH.out i hi'
                · obtain rfl : i = m + 1 := by omega
                  exact HO.out.trans HP.out
              case measure => simp [intOf]; omega
            · have c4 : decide (p.1 ≤ q.1) = true := by simp; omega
              have HP : Hid (goodP l = false) := goodP_not (i := m + 1) (by omega) (HO.out.trans (by simp [h3]))
              clear hc hok hr hg hg' h1 h2 h3
              go_wp2
              refine wp_region_ext_lit (by kernel_rfl) (by kernel_rfl) ?_
              (repeat (first | ((with_reducible refine wpQuiet_step (fun K hK => ?_)); go_simp; first | ((with_reducible refine hK _ ?_); clear hK K) | (apply Exists.intro; (with_reducible refine ⟨fun _ => ?_, hK _ ?_⟩); skip; clear hK K)) | ((with_reducible refine quiet_skipN ?_ (fun K hK => ?_)); (rfl); go_simp; (with_reducible refine hK _ ?_); clear hK K)))
              (with_reducible refine wpQuiet_nil ?_); intro _ hw'; obtain ⟨Y, hw''⟩ := hw'; subst hw''
              go_wp2
              rw [HP.out, Bool.and_false]
              go_ret
              exact ⟨rfl, by (repeat' (first | with_reducible exact Below.refl _ _ | with_reducible refine Below.ext ?_ ?_ _ | with_reducible refine Below.alloc ?_ ?_ _ | with_reducible refine Below.setCell ?_ ?_ _ | with_reducible refine Below.drew ?_ | with_reducible assumption | (simp [World.size_ext]; done) | (simp [World.size_ext]; omega)))⟩
        · have c2 : decide (4611686018427387904 < p.1) = true := by simp; omega
          have HP : Hid (goodP l = false) := goodP_not (i := j) (by omega) (okP_lo hg (fun h => h2 h.2))
          clear hc hok hr hg h1 h2
          go_wp2
          refine wp_region_ext_lit (by kernel_rfl) (by kernel_rfl) ?_
          (repeat (first | ((with_reducible refine wpQuiet_step (fun K hK => ?_)); go_simp; first | ((with_reducible refine hK _ ?_); clear hK K) | (apply Exists.intro; (with_reducible refine ⟨fun _ => ?_, hK _ ?_⟩); skip; clear hK K)) | ((with_reducible refine quiet_skipN ?_ (fun K hK => ?_)); (rfl); go_simp; (with_reducible refine hK _ ?_); clear hK K)))
          (with_reducible refine wpQuiet_nil ?_); intro _ hw'; obtain ⟨Y, hw''⟩ := hw'; subst hw''
          go_wp2
          rw [HP.out, Bool.and_false]
          go_ret
          exact ⟨rfl, by (repeat' (first | with_reducible exact Below.refl _ _ | with_reducible refine Below.ext ?_ ?_ _ | with_reducible refine Below.alloc ?_ ?_ _ | with_reducible refine Below.setCell ?_ ?_ _ | with_reducible refine Below.drew ?_ | with_reducible assumption | (simp [World.size_ext]; done) | (simp [World.size_ext]; omega)))⟩
      · have c1 : decide (p.1 < 0) = true := by simp; omega
        have HP : Hid (goodP l = false) := goodP_not (i := j) (by omega) (okP_lo hg (fun h => h1 h.1))
        clear hc hok hr hg h1
        go_wp2
        refine wp_region_ext_lit (by kernel_rfl) (by kernel_rfl) ?_
        (repeat (first | ((with_reducible refine wpQuiet_step (fun K hK => ?_)); go_simp; first | ((with_reducible refine hK _ ?_); clear hK K) | (apply Exists.intro; (with_reducible refine ⟨fun _ => ?_, hK _ ?_⟩); skip; clear hK K)) | ((with_reducible refine quiet_skipN ?_ (fun K hK => ?_)); (rfl); go_simp; (with_reducible refine hK _ ?_); clear hK K)))
        (with_reducible refine wpQuiet_nil ?_); intro _ hw'; obtain ⟨Y, hw''⟩ := hw'; subst hw''
        go_wp2
        rw [HP.out, Bool.and_false]
        go_ret
        exact ⟨rfl, by (repeat' (first | with_reducible exact Below.refl _ _ | with_reducible refine Below.ext ?_ ?_ _ | with_reducible refine Below.alloc ?_ ?_ _ | with_reducible refine Below.setCell ?_ ?_ _ | with_reducible refine Below.drew ?_ | with_reducible assumption | (simp [World.size_ext]; done) | (simp [World.size_ext]; omega)))⟩
    · obtain rfl : j = n := by omega
      have HP : Hid (goodP l = true) := goodP_of (by rw [hl]; exact hok)
      clear hok hr
      go_wp2
      rw [HP.out, Bool.and_true]
      go_ret
      exact ⟨by simp; omega, by (repeat' (first | with_reducible exact Below.refl _ _ | with_reducible refine Below.ext ?_ ?_ _ | with_reducible refine Below.alloc ?_ ?_ _ | with_reducible refine Below.setCell ?_ ?_ _ | with_reducible refine Below.drew ?_ | with_reducible assumption | (simp [World.size_ext]; done) | (simp [World.size_ext]; omega)))⟩
end Go.Proofs.Ythajbeooemngpaa
