import Derived.Test.YtmfbidhnafpkdaaOrd
import Derived.Test.YtmfbidhnafpkdaaCmp
/-! The document's: how two lists of labels stand. -/
namespace Go.Proofs.Ytmfbidhnafpkdaa
open Go.RowKit
set_option linter.unusedVariables false
set_option linter.unusedSimpArgs false
set_option maxRecDepth 100000 in
set_option maxHeartbeats 4000000 in
theorem rcompare_any (v1 v2 : Value) (L M : List Par) (w : World) (h1 : Pz w v1 L) (h2 : Pz w v2 M) :
    Calls Try.prog 29 #[v1, v2] w fun e w' => e = .returned (.int .i64 (cmpL L M)) ∧ Below w.heap.size w w' := by
  obtain ⟨A1, c1, rfl⟩ := h1.shape
  obtain ⟨A2, c2, rfl⟩ := h2.shape
  have hn1 := h1.n.2
  have hn2 := h2.n.2
  obtain ⟨q, hq⟩ : ∃ q, w.heap.size = q := ⟨_, rfl⟩
  have hB : Below q w w := by rw [← hq]; exact Below.refl _ _
  rw [hq]
  generalize hR : cmpL L M = R
  go_enter Try.func29, Try.ntmps29
  go_wp2
  go_loopw [5] (fun s5 wr => ∃ i : Nat, i ≤ L.length ∧ i ≤ M.length ∧ s5 = .int .i64 (i : Int) ∧ cmpL (L.drop i) (M.drop i) = R ∧ Pz wr (.slice A1 L.length c1) L ∧ Pz wr (.slice A2 M.length c2) M ∧ Below q w wr) (fun s5 _ => ((L.length : Int) - intOf s5).toNat)
  case atStart => exact ⟨0, by omega, by omega, rfl, hR, h1, h2, hB⟩
  case round =>
    clear h1 h2 hR hB
    obtain ⟨i, hi, hj, rfl, hR, h1, h2, hb⟩ := hrel
    have hqw : q ≤ wr.heap.size := by rw [← hq]; exact hb.size
    by_cases hlt : i < L.length
    · obtain ⟨x, hx⟩ : ∃ x, L[i]? = some x := ⟨_, List.getElem?_eq_getElem hlt⟩
      obtain ⟨b, o, rfl, hbb, m0, m1⟩ := h1.at_ hx
      have hii : (i : Int) < L.length := by omega
      by_cases hlm : i < M.length
      · obtain ⟨y, hy⟩ : ∃ y, M[i]? = some y := ⟨_, List.getElem?_eq_getElem hlm⟩
        obtain ⟨b2, o2, rfl, hbb2, n0, n1⟩ := h2.at_ hy
        have hjj : (i : Int) < M.length := by omega
        rw [dropP hx, dropP hy, cmpL] at hR
        unfold cmpP at hR
        have ea := cmpB_eq x.a y.a
        have la := cmpB_less x.a y.a
        have eb := cmpB_eq x.b y.b
        have lb := cmpB_less x.b y.b
        have va := cmpB_vals x.a y.a
        have vb := cmpB_vals x.b y.b
        generalize cmpB x.a y.a = p at *
        generalize cmpB x.b y.b = r at *
        have H := hide (⟨h1, h2, hR, hx, hy⟩ : _ ∧ _ ∧ _ ∧ _ ∧ _)
        clear h1 h2 hR hx hy
        rcases va with rfl | rfl | rfl
        · have ea : (x.a.toList == y.a.toList) = false := ea
          have la : Op.bytesLess x.a.toList y.a.toList = true := la
          go_wp2
          refine wp_region_ext_lit (by kernel_rfl) (by kernel_rfl) ?_
          (repeat (first | ((with_reducible refine wpQuiet_step (fun K hK => ?_)); go_simp; first | ((with_reducible refine hK _ ?_); clear hK K) | (apply Exists.intro; (with_reducible refine ⟨fun _ => ?_, hK _ ?_⟩); fail; clear hK K)) | ((with_reducible refine quiet_skipN ?_ (fun K hK => ?_)); (rfl); go_simp; (with_reducible refine hK _ ?_); clear hK K)))
          (with_reducible refine wpQuiet_nil ?_); intro _ hw'; obtain ⟨X, hw''⟩ := hw'; subst hw''
          go_wp2
          refine wp_region_ext_lit (by kernel_rfl) (by kernel_rfl) ?_
          (repeat (first | ((with_reducible refine wpQuiet_step (fun K hK => ?_)); go_simp; first | ((with_reducible refine hK _ ?_); clear hK K) | (apply Exists.intro; (with_reducible refine ⟨fun _ => ?_, hK _ ?_⟩); fail; clear hK K)) | ((with_reducible refine quiet_skipN ?_ (fun K hK => ?_)); (rfl); go_simp; (with_reducible refine hK _ ?_); clear hK K)))
          (with_reducible refine wpQuiet_nil ?_); intro _ hw'; obtain ⟨Y, hw''⟩ := hw'; subst hw''
          go_wp2
          obtain ⟨h1, h2, hR, _, _⟩ := H.out
          subst hR
          go_ret
          exact ⟨rfl, hb.trans ((by (repeat' (first | with_reducible exact Below.refl _ _ | with_reducible refine Below.ext ?_ ?_ _ | with_reducible refine Below.alloc ?_ ?_ _ | with_reducible refine Below.setCell ?_ ?_ _ | with_reducible refine Below.drew ?_ | with_reducible assumption | (simp [World.size_ext]; done) | (simp [World.size_ext]; omega))) : Below wr.heap.size wr _).mono hqw)⟩
        · have ea : (x.a.toList == y.a.toList) = true := ea
          rcases vb with rfl | rfl | rfl
          · have eb : (x.b.toList == y.b.toList) = false := eb
            have lb : Op.bytesLess x.b.toList y.b.toList = true := lb
            go_wp2
            refine wp_region_ext_lit (by kernel_rfl) (by kernel_rfl) ?_
            (repeat (first | ((with_reducible refine wpQuiet_step (fun K hK => ?_)); go_simp; first | ((with_reducible refine hK _ ?_); clear hK K) | (apply Exists.intro; (with_reducible refine ⟨fun _ => ?_, hK _ ?_⟩); fail; clear hK K)) | ((with_reducible refine quiet_skipN ?_ (fun K hK => ?_)); (rfl); go_simp; (with_reducible refine hK _ ?_); clear hK K)))
            (with_reducible refine wpQuiet_nil ?_); intro _ hw'; obtain ⟨X, hw''⟩ := hw'; subst hw''
            go_wp2
            refine wp_region_ext_lit (by kernel_rfl) (by kernel_rfl) ?_
            (repeat (first | ((with_reducible refine wpQuiet_step (fun K hK => ?_)); go_simp; first | ((with_reducible refine hK _ ?_); clear hK K) | (apply Exists.intro; (with_reducible refine ⟨fun _ => ?_, hK _ ?_⟩); fail; clear hK K)) | ((with_reducible refine quiet_skipN ?_ (fun K hK => ?_)); (rfl); go_simp; (with_reducible refine hK _ ?_); clear hK K)))
            (with_reducible refine wpQuiet_nil ?_); intro _ hw'; obtain ⟨Y, hw''⟩ := hw'; subst hw''
            go_wp2
            refine wp_region_ext_lit (by kernel_rfl) (by kernel_rfl) ?_
            (repeat (first | ((with_reducible refine wpQuiet_step (fun K hK => ?_)); go_simp; first | ((with_reducible refine hK _ ?_); clear hK K) | (apply Exists.intro; (with_reducible refine ⟨fun _ => ?_, hK _ ?_⟩); fail; clear hK K)) | ((with_reducible refine quiet_skipN ?_ (fun K hK => ?_)); (rfl); go_simp; (with_reducible refine hK _ ?_); clear hK K)))
            (with_reducible refine wpQuiet_nil ?_); intro _ hw'; obtain ⟨Z, hw''⟩ := hw'; subst hw''
            go_wp2
            obtain ⟨h1, h2, hR, _, _⟩ := H.out
            subst hR
            go_ret
            exact ⟨rfl, hb.trans ((by (repeat' (first | with_reducible exact Below.refl _ _ | with_reducible refine Below.ext ?_ ?_ _ | with_reducible refine Below.alloc ?_ ?_ _ | with_reducible refine Below.setCell ?_ ?_ _ | with_reducible refine Below.drew ?_ | with_reducible assumption | (simp [World.size_ext]; done) | (simp [World.size_ext]; omega))) : Below wr.heap.size wr _).mono hqw)⟩
          · have eb : (x.b.toList == y.b.toList) = true := eb
            go_wp2
            refine wp_region_ext_lit (by kernel_rfl) (by kernel_rfl) ?_
            (repeat (first | ((with_reducible refine wpQuiet_step (fun K hK => ?_)); go_simp; first | ((with_reducible refine hK _ ?_); clear hK K) | (apply Exists.intro; (with_reducible refine ⟨fun _ => ?_, hK _ ?_⟩); fail; clear hK K)) | ((with_reducible refine quiet_skipN ?_ (fun K hK => ?_)); (rfl); go_simp; (with_reducible refine hK _ ?_); clear hK K)))
            (with_reducible refine wpQuiet_nil ?_); intro _ hw'; obtain ⟨X, hw''⟩ := hw'; subst hw''
            go_wp2
            refine wp_region_ext_lit (by kernel_rfl) (by kernel_rfl) ?_
            (repeat (first | ((with_reducible refine wpQuiet_step (fun K hK => ?_)); go_simp; first | ((with_reducible refine hK _ ?_); clear hK K) | (apply Exists.intro; (with_reducible refine ⟨fun _ => ?_, hK _ ?_⟩); fail; clear hK K)) | ((with_reducible refine quiet_skipN ?_ (fun K hK => ?_)); (rfl); go_simp; (with_reducible refine hK _ ?_); clear hK K)))
            (with_reducible refine wpQuiet_nil ?_); intro _ hw'; obtain ⟨Y, hw''⟩ := hw'; subst hw''
            go_wp2
            obtain ⟨h1, h2, hR, _, _⟩ := H.out
            go_roundw
            case rel => exact ⟨i + 1, by omega, by omega, by go_num, by simpa using hR, h1.below (by (repeat' (first | with_reducible exact Below.refl _ _ | with_reducible refine Below.ext ?_ ?_ _ | with_reducible refine Below.alloc ?_ ?_ _ | with_reducible refine Below.setCell ?_ ?_ _ | with_reducible refine Below.drew ?_ | with_reducible assumption | (simp [World.size_ext]; done) | (simp [World.size_ext]; omega)))), h2.below (by (repeat' (first | with_reducible exact Below.refl _ _ | with_reducible refine Below.ext ?_ ?_ _ | with_reducible refine Below.alloc ?_ ?_ _ | with_reducible refine Below.setCell ?_ ?_ _ | with_reducible refine Below.drew ?_ | with_reducible assumption | (simp [World.size_ext]; done) | (simp [World.size_ext]; omega)))), hb.trans ((by (repeat' (first | with_reducible exact Below.refl _ _ | with_reducible refine Below.ext ?_ ?_ _ | with_reducible refine Below.alloc ?_ ?_ _ | with_reducible refine Below.setCell ?_ ?_ _ | with_reducible refine Below.drew ?_ | with_reducible assumption | (simp [World.size_ext]; done) | (simp [World.size_ext]; omega))) : Below wr.heap.size wr _).mono hqw)⟩
            case measure => simp [intOf]; omega
          · have eb : (x.b.toList == y.b.toList) = false := eb
            have lb : Op.bytesLess x.b.toList y.b.toList = false := lb
            go_wp2
            refine wp_region_ext_lit (by kernel_rfl) (by kernel_rfl) ?_
            (repeat (first | ((with_reducible refine wpQuiet_step (fun K hK => ?_)); go_simp; first | ((with_reducible refine hK _ ?_); clear hK K) | (apply Exists.intro; (with_reducible refine ⟨fun _ => ?_, hK _ ?_⟩); fail; clear hK K)) | ((with_reducible refine quiet_skipN ?_ (fun K hK => ?_)); (rfl); go_simp; (with_reducible refine hK _ ?_); clear hK K)))
            (with_reducible refine wpQuiet_nil ?_); intro _ hw'; obtain ⟨X, hw''⟩ := hw'; subst hw''
            go_wp2
            refine wp_region_ext_lit (by kernel_rfl) (by kernel_rfl) ?_
            (repeat (first | ((with_reducible refine wpQuiet_step (fun K hK => ?_)); go_simp; first | ((with_reducible refine hK _ ?_); clear hK K) | (apply Exists.intro; (with_reducible refine ⟨fun _ => ?_, hK _ ?_⟩); fail; clear hK K)) | ((with_reducible refine quiet_skipN ?_ (fun K hK => ?_)); (rfl); go_simp; (with_reducible refine hK _ ?_); clear hK K)))
            (with_reducible refine wpQuiet_nil ?_); intro _ hw'; obtain ⟨Y, hw''⟩ := hw'; subst hw''
            go_wp2
            refine wp_region_ext_lit (by kernel_rfl) (by kernel_rfl) ?_
            (repeat (first | ((with_reducible refine wpQuiet_step (fun K hK => ?_)); go_simp; first | ((with_reducible refine hK _ ?_); clear hK K) | (apply Exists.intro; (with_reducible refine ⟨fun _ => ?_, hK _ ?_⟩); fail; clear hK K)) | ((with_reducible refine quiet_skipN ?_ (fun K hK => ?_)); (rfl); go_simp; (with_reducible refine hK _ ?_); clear hK K)))
            (with_reducible refine wpQuiet_nil ?_); intro _ hw'; obtain ⟨Z, hw''⟩ := hw'; subst hw''
            go_wp2
            obtain ⟨h1, h2, hR, _, _⟩ := H.out
            subst hR
            go_ret
            exact ⟨rfl, hb.trans ((by (repeat' (first | with_reducible exact Below.refl _ _ | with_reducible refine Below.ext ?_ ?_ _ | with_reducible refine Below.alloc ?_ ?_ _ | with_reducible refine Below.setCell ?_ ?_ _ | with_reducible refine Below.drew ?_ | with_reducible assumption | (simp [World.size_ext]; done) | (simp [World.size_ext]; omega))) : Below wr.heap.size wr _).mono hqw)⟩
        · have ea : (x.a.toList == y.a.toList) = false := ea
          have la : Op.bytesLess x.a.toList y.a.toList = false := la
          go_wp2
          refine wp_region_ext_lit (by kernel_rfl) (by kernel_rfl) ?_
          (repeat (first | ((with_reducible refine wpQuiet_step (fun K hK => ?_)); go_simp; first | ((with_reducible refine hK _ ?_); clear hK K) | (apply Exists.intro; (with_reducible refine ⟨fun _ => ?_, hK _ ?_⟩); fail; clear hK K)) | ((with_reducible refine quiet_skipN ?_ (fun K hK => ?_)); (rfl); go_simp; (with_reducible refine hK _ ?_); clear hK K)))
          (with_reducible refine wpQuiet_nil ?_); intro _ hw'; obtain ⟨X, hw''⟩ := hw'; subst hw''
          go_wp2
          refine wp_region_ext_lit (by kernel_rfl) (by kernel_rfl) ?_
          (repeat (first | ((with_reducible refine wpQuiet_step (fun K hK => ?_)); go_simp; first | ((with_reducible refine hK _ ?_); clear hK K) | (apply Exists.intro; (with_reducible refine ⟨fun _ => ?_, hK _ ?_⟩); fail; clear hK K)) | ((with_reducible refine quiet_skipN ?_ (fun K hK => ?_)); (rfl); go_simp; (with_reducible refine hK _ ?_); clear hK K)))
          (with_reducible refine wpQuiet_nil ?_); intro _ hw'; obtain ⟨Y, hw''⟩ := hw'; subst hw''
          go_wp2
          obtain ⟨h1, h2, hR, _, _⟩ := H.out
          subst hR
          go_ret
          exact ⟨rfl, hb.trans ((by (repeat' (first | with_reducible exact Below.refl _ _ | with_reducible refine Below.ext ?_ ?_ _ | with_reducible refine Below.alloc ?_ ?_ _ | with_reducible refine Below.setCell ?_ ?_ _ | with_reducible refine Below.drew ?_ | with_reducible assumption | (simp [World.size_ext]; done) | (simp [World.size_ext]; omega))) : Below wr.heap.size wr _).mono hqw)⟩
      · obtain rfl : i = M.length := by omega
        have hjj : ¬ ((L.length : Int) < (M.length : Int)) := by omega
        have hjj' : ((M.length : Int) < (L.length : Int)) := by omega
        rw [dropP hx, List.drop_length, cmpL] at hR
        subst hR
        clear hx h1 h2
        go_wp2
        go_ret
        exact ⟨rfl, hb⟩
    · obtain rfl : i = L.length := by omega
      rw [List.drop_length] at hR
      by_cases hlm : L.length < M.length
      · obtain ⟨y, hy⟩ : ∃ y, M[L.length]? = some y := ⟨_, List.getElem?_eq_getElem hlm⟩
        rw [dropP hy, cmpL] at hR
        subst hR
        have hjj : (L.length : Int) < M.length := by omega
        clear hy h1 h2
        go_wp2
        go_ret
        exact ⟨rfl, hb⟩
      · have : M.drop L.length = [] := List.drop_eq_nil_of_le (by omega)
        rw [this, cmpL] at hR
        subst hR
        have hjj : ¬ ((L.length : Int) < M.length) := by omega
        have hjj' : ¬ ((M.length : Int) < L.length) := by omega
        clear this h1 h2
        go_wp2
        go_ret
        exact ⟨rfl, hb⟩
theorem rsame_any (v1 v2 : Value) (L M : List Par) (w : World) (h1 : Pz w v1 L) (h2 : Pz w v2 M) :
    Calls Try.prog 18 #[v1, v2] w fun e w' => e = .returned (.bool (decide (L = M))) ∧ Below w.heap.size w w' := by
  have hC := rcompare_any v1 v2 L M w h1 h2
  have hz := cmpL_zero L M
  obtain ⟨A1, c1, rfl⟩ := h1.shape
  obtain ⟨A2, c2, rfl⟩ := h2.shape
  by_cases h : L = M
  · have e := hz.2 h
    rw [e] at hC
    rw [decide_eq_true h]
    clear hz e h h1 h2
    go_enter Try.func18, Try.ntmps18
    go_wp2_with (go_at_call 29; (with_reducible refine hC.mono ?_); rintro e w1 ⟨rfl, hb⟩)
    go_ret
    exact ⟨rfl, hb⟩
  · have e : (cmpL L M == 0) = false := by simp [hz, h]
    rw [decide_eq_false h]
    generalize cmpL L M = r at *
    clear hz
    go_enter Try.func18, Try.ntmps18
    go_wp2_with (go_at_call 29; (with_reducible refine hC.mono ?_); rintro e w1 ⟨rfl, hb⟩)
    go_ret
    exact ⟨by rw [← e]; rfl, hb⟩
end Go.Proofs.Ytmfbidhnafpkdaa
