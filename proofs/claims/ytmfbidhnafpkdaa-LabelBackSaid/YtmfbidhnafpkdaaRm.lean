import Derived.Test.YtmfbidhnafpkdaaMk2
import Derived.Test.YtmfbidhnafpkdaaRt
/-! The document's: whether labels are a set, a label's value, the set of any labels. -/
namespace Go.Proofs.Ytmfbidhnafpkdaa
open Go.RowKit
set_option linter.unusedVariables false
set_option linter.unusedSimpArgs false
set_option maxRecDepth 100000 in
set_option maxHeartbeats 16000000 in
theorem rright_any (v : Value) (L : List Par) (w : World) (h1 : Pz w v L) (hok : ∀ x ∈ L, x.ok) :
    Calls Try.prog 21 #[v] w fun e w' => e = .returned (.bool (rightL L)) ∧ Below w.heap.size w w' := by
  obtain ⟨A1, c1, rfl⟩ := h1.shape
  have hn1 := h1.n.2
  obtain ⟨q, hq⟩ : ∃ q, w.heap.size = q := ⟨_, rfl⟩
  have hB : Below q w w := by rw [← hq]; exact Below.refl _ _
  rw [hq]
  go_enter Try.func21, Try.ntmps21
  go_wp2
  go_loopw [3] (fun s10 wr => ∃ i : Nat, i ≤ L.length ∧ s10 = .int .i64 (i : Int) ∧ okT L i = true ∧ Pz wr (.slice A1 L.length c1) L ∧ Below q w wr) (fun s10 _ => ((L.length : Int) - intOf s10).toNat)
  case atStart => exact ⟨0, by omega, rfl, rfl, h1, hB⟩
  case round =>
    clear h1 hB
    obtain ⟨i, hi, rfl, hno, h1, hb⟩ := hrel
    have hqw : q ≤ wr.heap.size := by rw [← hq]; exact hb.size
    by_cases hlt : i < L.length
    · obtain ⟨x, hx⟩ : ∃ x, L[i]? = some x := ⟨_, List.getElem?_eq_getElem hlt⟩
      obtain ⟨b, o, rfl, hbb, m0, m1⟩ := h1.at_ hx
      have hii : (i : Int) < L.length := by omega
      have hxo := hok x (List.mem_of_getElem? hx)
      have hN := fun w => rname_any x.a hxo.1 w
      have hV := fun w => rvalue_any x.b hxo.2 w
      rcases Nat.eq_zero_or_pos i with hi0 | hi0
      · have hO : okAt L i = (nmB x.a && vlB x.b) := by subst hi0; exact okAt_0 hx
        have d0 : decide (0 < i) = false := decide_eq_false (by omega)
        clear hi0
        cases hn : nmB x.a with
        | false =>
          have hok1 : okAt L i = false := by rw [hO, hn]; rfl
          rw [hn] at hN
          clear hO
          have hF := hide (show rightL L = false from by
            unfold rightL
            rw [show (List.range L.length).all (okAt L) = false from by
              rw [List.all_eq_false]
              exact ⟨i, List.mem_range.2 hlt, by rw [hok1]; simp⟩]
            simp)
          have H := hide (⟨h1, hx⟩ : _ ∧ _)
          clear h1 hx hno hok1
          go_wp2_with (first | (go_at_call 12; (with_reducible refine (hN _).mono ?_); rintro e w1 ⟨rfl, rfl⟩) | (go_at_call 14; (with_reducible refine (hV _).mono ?_); rintro e w2 ⟨rfl, rfl⟩))
          go_ret
          exact ⟨by rw [hF.out]; rfl, hb⟩
        | true =>
          rw [hn] at hN
          cases hv : vlB x.b with
          | false =>
            have hok1 : okAt L i = false := by rw [hO, hn, hv]; rfl
            rw [hv] at hV
            clear hO
            have hF := hide (show rightL L = false from by
              unfold rightL
              rw [show (List.range L.length).all (okAt L) = false from by
                rw [List.all_eq_false]
                exact ⟨i, List.mem_range.2 hlt, by rw [hok1]; simp⟩]
              simp)
            have H := hide (⟨h1, hx⟩ : _ ∧ _)
            clear h1 hx hno hok1
            go_wp2_with (first | (go_at_call 12; (with_reducible refine (hN _).mono ?_); rintro e w1 ⟨rfl, rfl⟩) | (go_at_call 14; (with_reducible refine (hV _).mono ?_); rintro e w2 ⟨rfl, rfl⟩))
            go_ret
            exact ⟨by rw [hF.out]; rfl, hb⟩
          | true =>
            have hok1 : okAt L i = true := by rw [hO, hn, hv]; rfl
            rw [hv] at hV
            clear hO
            have HN := hide (okT_up hno hok1)
            have H := hide (⟨h1, hx⟩ : _ ∧ _)
            clear h1 hx hno hok1
            go_wp2_with (first | (go_at_call 12; (with_reducible refine (hN _).mono ?_); rintro e w1 ⟨rfl, rfl⟩) | (go_at_call 14; (with_reducible refine (hV _).mono ?_); rintro e w2 ⟨rfl, rfl⟩))
            refine wp_region_ext_lit (by kernel_rfl) (by kernel_rfl) ?_
            (repeat (first | ((with_reducible refine wpQuiet_step (fun K hK => ?_)); go_simp; first | ((with_reducible refine hK _ ?_); clear hK K) | (apply Exists.intro; (with_reducible refine ⟨fun _ => ?_, hK _ ?_⟩); fail; clear hK K)) | ((with_reducible refine quiet_skipN ?_ (fun K hK => ?_)); (rfl); go_simp; (with_reducible refine hK _ ?_); clear hK K)))
            (with_reducible refine wpQuiet_nil ?_); intro _ hw'; obtain ⟨X, hw''⟩ := hw'; subst hw''
            go_wp2
            go_roundw
            case rel => exact ⟨_, Nat.succ_le_of_lt hlt, by go_num, HN.out, H.out.1.below (by (repeat' (first | with_reducible exact Below.refl _ _ | with_reducible refine Below.ext ?_ ?_ _ | with_reducible refine Below.alloc ?_ ?_ _ | with_reducible refine Below.setCell ?_ ?_ _ | with_reducible refine Below.drew ?_ | with_reducible assumption | (simp [World.size_ext]; done) | (simp [World.size_ext]; omega)))), hb.trans ((by (repeat' (first | with_reducible exact Below.refl _ _ | with_reducible refine Below.ext ?_ ?_ _ | with_reducible refine Below.alloc ?_ ?_ _ | with_reducible refine Below.setCell ?_ ?_ _ | with_reducible refine Below.drew ?_ | with_reducible assumption | (simp [World.size_ext]; done) | (simp [World.size_ext]; omega))) : Below _ _ _).mono hqw)⟩
            case measure => simp [intOf]; omega
      · obtain ⟨k, hik⟩ : ∃ k, i = k + 1 := ⟨i - 1, by omega⟩
        obtain ⟨y, hy⟩ : ∃ y, L[k]? = some y := ⟨_, List.getElem?_eq_getElem (by omega)⟩
        obtain ⟨_, n0, n1⟩ := h1.get hy
        have hO : okAt L i = (nmB x.a && vlB x.b && decide (cmpB y.a x.a = -1)) := by subst hik; exact okAt_s hx hy
        have hsub : (i : Int) - 1 = (k : Int) := by omega
        have hkn' : (k : Int) < L.length := by omega
        have d0 : decide (0 < i) = true := decide_eq_true (by omega)
        have hwk : IntKind.i64.wrap (k : Int) = (k : Int) := by rw [IntKind.wrap_i64]; omega
        have hls := cmpB_less y.a x.a
        clear hy hik hi0
        cases hn : nmB x.a with
        | false =>
          have hok1 : okAt L i = false := by rw [hO, hn]; rfl
          rw [hn] at hN
          clear hO hls
          have hF := hide (show rightL L = false from by
            unfold rightL
            rw [show (List.range L.length).all (okAt L) = false from by
              rw [List.all_eq_false]
              exact ⟨i, List.mem_range.2 hlt, by rw [hok1]; simp⟩]
            simp)
          have H := hide (⟨h1, hx⟩ : _ ∧ _)
          clear h1 hx hno hok1
          go_wp2_with (first | (go_at_call 12; (with_reducible refine (hN _).mono ?_); rintro e w1 ⟨rfl, rfl⟩) | (go_at_call 14; (with_reducible refine (hV _).mono ?_); rintro e w2 ⟨rfl, rfl⟩))
          go_ret
          exact ⟨by rw [hF.out]; rfl, hb⟩
        | true =>
          rw [hn] at hN
          cases hv : vlB x.b with
          | false =>
            have hok1 : okAt L i = false := by rw [hO, hn, hv]; rfl
            rw [hv] at hV
            clear hO hls
            have hF := hide (show rightL L = false from by
              unfold rightL
              rw [show (List.range L.length).all (okAt L) = false from by
                rw [List.all_eq_false]
                exact ⟨i, List.mem_range.2 hlt, by rw [hok1]; simp⟩]
              simp)
            have H := hide (⟨h1, hx⟩ : _ ∧ _)
            clear h1 hx hno hok1
            go_wp2_with (first | (go_at_call 12; (with_reducible refine (hN _).mono ?_); rintro e w1 ⟨rfl, rfl⟩) | (go_at_call 14; (with_reducible refine (hV _).mono ?_); rintro e w2 ⟨rfl, rfl⟩))
            go_ret
            exact ⟨by rw [hF.out]; rfl, hb⟩
          | true =>
            rw [hv] at hV
            rw [hn, hv] at hO
            by_cases hc : cmpB y.a x.a = -1
            · rw [decide_eq_true hc] at hls hO
              have hok1 : okAt L i = true := hO
              clear hO hc
              have HN := hide (okT_up hno hok1)
              have H := hide (⟨h1, hx⟩ : _ ∧ _)
              clear h1 hx hno hok1
              go_wp2_with (first | (go_at_call 12; (with_reducible refine (hN _).mono ?_); rintro e w1 ⟨rfl, rfl⟩) | (go_at_call 14; (with_reducible refine (hV _).mono ?_); rintro e w2 ⟨rfl, rfl⟩))
              refine wp_region_ext_lit (by kernel_rfl) (by kernel_rfl) ?_
              (repeat (first | ((with_reducible refine wpQuiet_step (fun K hK => ?_)); go_simp; first | ((with_reducible refine hK _ ?_); clear hK K) | (apply Exists.intro; (with_reducible refine ⟨fun _ => ?_, hK _ ?_⟩); fail; clear hK K)) | ((with_reducible refine quiet_skipN ?_ (fun K hK => ?_)); (rfl); go_simp; (with_reducible refine hK _ ?_); clear hK K)))
              (with_reducible refine wpQuiet_nil ?_); intro _ hw'; obtain ⟨X, hw''⟩ := hw'; subst hw''
              go_wp2
              go_roundw
              case rel => exact ⟨_, Nat.succ_le_of_lt hlt, by go_num, HN.out, H.out.1.below (by (repeat' (first | with_reducible exact Below.refl _ _ | with_reducible refine Below.ext ?_ ?_ _ | with_reducible refine Below.alloc ?_ ?_ _ | with_reducible refine Below.setCell ?_ ?_ _ | with_reducible refine Below.drew ?_ | with_reducible assumption | (simp [World.size_ext]; done) | (simp [World.size_ext]; omega)))), hb.trans ((by (repeat' (first | with_reducible exact Below.refl _ _ | with_reducible refine Below.ext ?_ ?_ _ | with_reducible refine Below.alloc ?_ ?_ _ | with_reducible refine Below.setCell ?_ ?_ _ | with_reducible refine Below.drew ?_ | with_reducible assumption | (simp [World.size_ext]; done) | (simp [World.size_ext]; omega))) : Below _ _ _).mono hqw)⟩
              case measure => simp [intOf]; omega
            · rw [decide_eq_false hc] at hls hO
              have hok1 : okAt L i = false := hO
              clear hO hc
              have hF := hide (show rightL L = false from by
                unfold rightL
                rw [show (List.range L.length).all (okAt L) = false from by
                  rw [List.all_eq_false]
                  exact ⟨i, List.mem_range.2 hlt, by rw [hok1]; simp⟩]
                simp)
              have H := hide (⟨h1, hx⟩ : _ ∧ _)
              clear h1 hx hno hok1
              go_wp2_with (first | (go_at_call 12; (with_reducible refine (hN _).mono ?_); rintro e w1 ⟨rfl, rfl⟩) | (go_at_call 14; (with_reducible refine (hV _).mono ?_); rintro e w2 ⟨rfl, rfl⟩))
              refine wp_region_ext_lit (by kernel_rfl) (by kernel_rfl) ?_
              (repeat (first | ((with_reducible refine wpQuiet_step (fun K hK => ?_)); go_simp; first | ((with_reducible refine hK _ ?_); clear hK K) | (apply Exists.intro; (with_reducible refine ⟨fun _ => ?_, hK _ ?_⟩); fail; clear hK K)) | ((with_reducible refine quiet_skipN ?_ (fun K hK => ?_)); (rfl); go_simp; (with_reducible refine hK _ ?_); clear hK K)))
              (with_reducible refine wpQuiet_nil ?_); intro _ hw'; obtain ⟨X, hw''⟩ := hw'; subst hw''
              go_wp2
              go_ret
              exact ⟨by rw [hF.out]; rfl, hb.trans ((by (repeat' (first | with_reducible exact Below.refl _ _ | with_reducible refine Below.ext ?_ ?_ _ | with_reducible refine Below.alloc ?_ ?_ _ | with_reducible refine Below.setCell ?_ ?_ _ | with_reducible refine Below.drew ?_ | with_reducible assumption | (simp [World.size_ext]; done) | (simp [World.size_ext]; omega))) : Below _ _ _).mono hqw)⟩
    · obtain rfl : i = L.length := by omega
      have hF := hide (show rightL L = decide ((L.length : Int) ≤ 16) from by
        have e : (List.range L.length).all (okAt L) = true := hno
        unfold rightL
        rw [e, Bool.and_true, Bool.eq_iff_iff]
        simp only [decide_eq_true_eq]
        omega)
      clear h1 hno
      go_wp2
      go_ret
      exact ⟨by rw [hF.out]; rfl, hb⟩
set_option maxRecDepth 100000 in
set_option maxHeartbeats 4000000 in
theorem rget_any (v : Value) (L : List Par) (nm : ByteArray) (w : World) (h1 : Pz w v L) :
    Calls Try.prog 23 #[v, .string nm] w fun e w' => e = .returned (.string (getL L nm)) ∧ Below w.heap.size w w' := by
  obtain ⟨A1, c1, rfl⟩ := h1.shape
  have hn1 := h1.n.2
  obtain ⟨q, hq⟩ : ∃ q, w.heap.size = q := ⟨_, rfl⟩
  have hB : Below q w w := by rw [← hq]; exact Below.refl _ _
  rw [hq]
  generalize hR : getL L nm = R
  go_enter Try.func23, Try.ntmps23
  go_wp2
  go_loopw [5] (fun s9 wr => ∃ i : Nat, i ≤ L.length ∧ s9 = .int .i64 (i : Int) ∧ getL (L.drop i) nm = R ∧ wr = w) (fun s9 _ => ((L.length : Int) - intOf s9).toNat)
  case atStart => exact ⟨0, by omega, rfl, hR, rfl⟩
  case round =>
    clear hR
    obtain ⟨i, hi, rfl, hR, rfl⟩ := hrel
    by_cases hlt : i < L.length
    · obtain ⟨x, hx⟩ : ∃ x, L[i]? = some x := ⟨_, List.getElem?_eq_getElem hlt⟩
      obtain ⟨b, o, rfl, hbb, m0, m1⟩ := h1.at_ hx
      have hii : (i : Int) < L.length := by omega
      rw [getL_drop hx] at hR
      have hls := cmpB_eq x.a nm
      clear h1
      by_cases hc : cmpB x.a nm = 0
      · rw [if_pos hc] at hR
        subst hR
        rw [decide_eq_true hc] at hls
        clear hx hc
        go_wp2
        go_ret
        exact ⟨rfl, hB⟩
      · rw [if_neg hc] at hR
        rw [decide_eq_false hc] at hls
        have H := hide hR
        clear hx hc hR
        go_wp2
        go_roundw
        case rel => exact ⟨i + 1, by omega, by go_num, H.out, by trivial⟩
        case measure => simp [intOf]; omega
    · obtain rfl : i = L.length := by omega
      rw [List.drop_length, getL] at hR
      subst hR
      clear h1
      go_wp2
      go_ret
      exact ⟨rfl, hB⟩
end Go.Proofs.Ytmfbidhnafpkdaa
