import Derived.Test.YtmfbidhnafpkdaaDoorTo
import Derived.Test.YtmfbidhnafpkdaaDoorOrd
/-! Whether labels are a set. -/
namespace Go.Proofs.YtmfbidhnafpkdaaDoor
open Go.RowKit
set_option linter.unusedVariables false
set_option linter.unusedSimpArgs false
def okAt (l : List Par) (i : Nat) : Bool := match l[i]? with
  | some x => nmB x.a && vlB x.b && (match i with
    | 0 => true
    | k + 1 => match l[k]? with
      | some y => decide (cmpB y.a x.a = -1)
      | none => true)
  | none => true
def okT (l : List Par) (n : Nat) : Bool := (List.range n).all (okAt l)
def rightL (l : List Par) : Bool := decide (l.length ≤ 16) && (List.range l.length).all (okAt l)
theorem okT_up {l : List Par} {i : Nat} (h : okT l i = true) (h1 : okAt l i = true) : okT l (i + 1) = true := by
  unfold okT at *
  rw [List.range_succ, List.all_append, h]
  simp [h1]
theorem okAt_0 {l : List Par} {x : Par} (hx : l[0]? = some x) : okAt l 0 = (nmB x.a && vlB x.b) := by
  unfold okAt
  rw [hx]
  simp
theorem okAt_s {l : List Par} {k : Nat} {x y : Par} (hx : l[k + 1]? = some x) (hy : l[k]? = some y) : okAt l (k + 1) = (nmB x.a && vlB x.b && decide (cmpB y.a x.a = -1)) := by
  unfold okAt
  rw [hx]
  simp only [hy]
theorem pname_b (s : ByteArray) (hs : s.size ≤ maxLen) (w : World) : Calls Tryd.prog 23 #[.string s] w fun e w' => e = .returned (.bool (nmB s)) ∧ Below w.heap.size w w' :=
  (pname_any s hs w).mono fun e w' h => ⟨h.1, by rw [h.2]; exact Below.refl _ _⟩
theorem pvalue_b (s : ByteArray) (hs : s.size ≤ maxLen) (w : World) : Calls Tryd.prog 24 #[.string s] w fun e w' => e = .returned (.bool (vlB s)) ∧ Below w.heap.size w w' :=
  (pvalue_any s hs w).mono fun e w' h => ⟨h.1, by rw [h.2]; exact Below.refl _ _⟩
theorem rname_b (s : ByteArray) (hs : s.size ≤ maxLen) (w : World) : Calls Tryd.prog 25 #[.string s] w fun e w' => e = .returned (.bool (nmB s)) ∧ Below w.heap.size w w' :=
  (rname_any s hs w).mono fun e w' h => ⟨h.1, by rw [h.2]; exact Below.refl _ _⟩
theorem rvalue_b (s : ByteArray) (hs : s.size ≤ maxLen) (w : World) : Calls Tryd.prog 26 #[.string s] w fun e w' => e = .returned (.bool (vlB s)) ∧ Below w.heap.size w w' :=
  (rvalue_any s hs w).mono fun e w' h => ⟨h.1, by rw [h.2]; exact Below.refl _ _⟩
set_option maxRecDepth 100000 in
set_option maxHeartbeats 16000000 in
theorem pright_any (v : Value) (L : List Par) (w : World) (h1 : Pz w v L) (hok : ∀ x ∈ L, x.ok) :
    Calls Tryd.prog 16 #[v] w fun e w' => e = .returned (.bool (rightL L)) ∧ Below w.heap.size w w' := by
  obtain ⟨A1, c1, rfl⟩ := h1.shape
  have hn1 := h1.n.2
  obtain ⟨q, hq⟩ : ∃ q, w.heap.size = q := ⟨_, rfl⟩
  have hB : Below q w w := by rw [← hq]; exact Below.refl _ _
  by_cases h16 : L.length ≤ 16
  · have h16i : (L.length : Int) ≤ 16 := by omega
    rw [hq]
    go_enter Tryd.func16, Tryd.ntmps16
    go_wp2
    go_loopw [10] (fun s10 wr => ∃ i : Nat, i ≤ L.length ∧ s10 = .int .i64 (i : Int) ∧ okT L i = true ∧ Pz wr (.slice A1 L.length c1) L ∧ Below q w wr) (fun s10 _ => ((L.length : Int) - intOf s10).toNat)
    case atStart => exact ⟨0, by omega, rfl, rfl, h1, hB⟩
    case round =>
      clear h1 hB
      obtain ⟨i, hi, rfl, hno, h1, hb⟩ := hrel
      have hqw : q ≤ wr.heap.size := by rw [← hq]; exact hb.size
      by_cases hlt : i < L.length
      · obtain ⟨x, hx⟩ : ∃ x, L[i]? = some x := ⟨_, List.getElem?_eq_getElem hlt⟩
        obtain ⟨b, o, rfl, hbb, m0, m1⟩ := h1.at_ hx
        have hii : (i : Int) < L.length := by omega
        have hxo := hok x (List.mem_of_getElem? hx)
        have hN := fun w => pname_b x.a hxo.1 w
        have hV := fun w => pvalue_b x.b hxo.2 w
        rcases Nat.eq_zero_or_pos i with hi0 | hi0
        · have hO : okAt L i = (nmB x.a && vlB x.b) := by subst hi0; exact okAt_0 hx
          have d0 : decide (0 < i) = false := decide_eq_false (by omega)
          clear hi0
          cases hn : nmB x.a with
          | false =>
            have hok1 : okAt L i = false := by rw [hO, hn]; rfl
            rw [hn] at hN
            clear hO
            have hF := hide (show rightL L = false from by
              unfold rightL
              rw [show (List.range L.length).all (okAt L) = false from by
                rw [List.all_eq_false]
                exact ⟨i, List.mem_range.2 hlt, by rw [hok1]; simp⟩]
              simp)
            have H := hide (⟨h1, hx⟩ : _ ∧ _)
            clear h1 hx hno hok1
            go_wp2
            refine wp_region_ext_lit (by kernel_rfl) (by kernel_rfl) ?_
            (repeat (first | ((with_reducible refine wpQuiet_step (fun K hK => ?_)); go_simp; first | ((with_reducible refine hK _ ?_); clear hK K) | (apply Exists.intro; (with_reducible refine ⟨fun _ => ?_, hK _ ?_⟩); first | (go_at_call 23; exact Calls.ext_of (hN _)) | (go_at_call 24; exact Calls.ext_of (hV _)); clear hK K)) | ((with_reducible refine quiet_skipN ?_ (fun K hK => ?_)); (rfl); go_simp; (with_reducible refine hK _ ?_); clear hK K)))
            (with_reducible refine wpQuiet_nil ?_); intro _ hw'; obtain ⟨X, hw''⟩ := hw'; subst hw''
            go_wp2
            go_ret
            exact ⟨by rw [hF.out]; rfl, hb.trans ((by (repeat' (first | with_reducible exact Below.refl _ _ | with_reducible refine Below.ext ?_ ?_ _ | with_reducible refine Below.alloc ?_ ?_ _ | with_reducible refine Below.setCell ?_ ?_ _ | with_reducible refine Below.drew ?_ | with_reducible assumption | (simp [World.size_ext]; done) | (simp [World.size_ext]; omega))) : Below wr.heap.size wr _).mono hqw)⟩
          | true =>
            rw [hn] at hN
            cases hv : vlB x.b with
            | false =>
              have hok1 : okAt L i = false := by rw [hO, hn, hv]; rfl
              rw [hv] at hV
              clear hO
              have hF := hide (show rightL L = false from by
                unfold rightL
                rw [show (List.range L.length).all (okAt L) = false from by
                  rw [List.all_eq_false]
                  exact ⟨i, List.mem_range.2 hlt, by rw [hok1]; simp⟩]
                simp)
              have H := hide (⟨h1, hx⟩ : _ ∧ _)
              clear h1 hx hno hok1
              go_wp2
              refine wp_region_ext_lit (by kernel_rfl) (by kernel_rfl) ?_
              (repeat (first | ((with_reducible refine wpQuiet_step (fun K hK => ?_)); go_simp; first | ((with_reducible refine hK _ ?_); clear hK K) | (apply Exists.intro; (with_reducible refine ⟨fun _ => ?_, hK _ ?_⟩); first | (go_at_call 23; exact Calls.ext_of (hN _)) | (go_at_call 24; exact Calls.ext_of (hV _)); clear hK K)) | ((with_reducible refine quiet_skipN ?_ (fun K hK => ?_)); (rfl); go_simp; (with_reducible refine hK _ ?_); clear hK K)))
              (with_reducible refine wpQuiet_nil ?_); intro _ hw'; obtain ⟨X, hw''⟩ := hw'; subst hw''
              go_wp2
              go_ret
              exact ⟨by rw [hF.out]; rfl, hb.trans ((by (repeat' (first | with_reducible exact Below.refl _ _ | with_reducible refine Below.ext ?_ ?_ _ | with_reducible refine Below.alloc ?_ ?_ _ | with_reducible refine Below.setCell ?_ ?_ _ | with_reducible refine Below.drew ?_ | with_reducible assumption | (simp [World.size_ext]; done) | (simp [World.size_ext]; omega))) : Below wr.heap.size wr _).mono hqw)⟩
            | true =>
              have hok1 : okAt L i = true := by rw [hO, hn, hv]; rfl
              rw [hv] at hV
              clear hO
              have HN := hide (okT_up hno hok1)
              have H := hide (⟨h1, hx⟩ : _ ∧ _)
              clear h1 hx hno hok1
              go_wp2
              refine wp_region_ext_lit (by kernel_rfl) (by kernel_rfl) ?_
              (repeat (first | ((with_reducible refine wpQuiet_step (fun K hK => ?_)); go_simp; first | ((with_reducible refine hK _ ?_); clear hK K) | (apply Exists.intro; (with_reducible refine ⟨fun _ => ?_, hK _ ?_⟩); first | (go_at_call 23; exact Calls.ext_of (hN _)) | (go_at_call 24; exact Calls.ext_of (hV _)); clear hK K)) | ((with_reducible refine quiet_skipN ?_ (fun K hK => ?_)); (rfl); go_simp; (with_reducible refine hK _ ?_); clear hK K)))
              (with_reducible refine wpQuiet_nil ?_); intro _ hw'; obtain ⟨X, hw''⟩ := hw'; subst hw''
              go_wp2
              go_roundw
              case rel => exact ⟨_, Nat.succ_le_of_lt hlt, by go_num, HN.out, H.out.1.below (by (repeat' (first | with_reducible exact Below.refl _ _ | with_reducible refine Below.ext ?_ ?_ _ | with_reducible refine Below.alloc ?_ ?_ _ | with_reducible refine Below.setCell ?_ ?_ _ | with_reducible refine Below.drew ?_ | with_reducible assumption | (simp [World.size_ext]; done) | (simp [World.size_ext]; omega)))), hb.trans ((by (repeat' (first | with_reducible exact Below.refl _ _ | with_reducible refine Below.ext ?_ ?_ _ | with_reducible refine Below.alloc ?_ ?_ _ | with_reducible refine Below.setCell ?_ ?_ _ | with_reducible refine Below.drew ?_ | with_reducible assumption | (simp [World.size_ext]; done) | (simp [World.size_ext]; omega))) : Below wr.heap.size wr _).mono hqw)⟩
              case measure => simp [intOf]; omega
        · obtain ⟨k, hik⟩ : ∃ k, i = k + 1 := ⟨i - 1, by omega⟩
          obtain ⟨y, hy⟩ : ∃ y, L[k]? = some y := ⟨_, List.getElem?_eq_getElem (by omega)⟩
          obtain ⟨_, n0, n1⟩ := h1.get hy
          have hO : okAt L i = (nmB x.a && vlB x.b && decide (cmpB y.a x.a = -1)) := by subst hik; exact okAt_s hx hy
          have hsub : (i : Int) - 1 = (k : Int) := by omega
          have hkn' : (k : Int) < L.length := by omega
          have d0 : decide (0 < i) = true := decide_eq_true (by omega)
          have hwk : IntKind.i64.wrap (k : Int) = (k : Int) := by rw [IntKind.wrap_i64]; omega
          have hls := cmpB_less y.a x.a
          clear hy hik hi0
          cases hn : nmB x.a with
          | false =>
            have hok1 : okAt L i = false := by rw [hO, hn]; rfl
            rw [hn] at hN
            clear hO hls
            have hF := hide (show rightL L = false from by
              unfold rightL
              rw [show (List.range L.length).all (okAt L) = false from by
                rw [List.all_eq_false]
                exact ⟨i, List.mem_range.2 hlt, by rw [hok1]; simp⟩]
              simp)
            have H := hide (⟨h1, hx⟩ : _ ∧ _)
            clear h1 hx hno hok1
            go_wp2
            refine wp_region_ext_lit (by kernel_rfl) (by kernel_rfl) ?_
            (repeat (first | ((with_reducible refine wpQuiet_step (fun K hK => ?_)); go_simp; first | ((with_reducible refine hK _ ?_); clear hK K) | (apply Exists.intro; (with_reducible refine ⟨fun _ => ?_, hK _ ?_⟩); first | (go_at_call 23; exact Calls.ext_of (hN _)) | (go_at_call 24; exact Calls.ext_of (hV _)); clear hK K)) | ((with_reducible refine quiet_skipN ?_ (fun K hK => ?_)); (rfl); go_simp; (with_reducible refine hK _ ?_); clear hK K)))
            (with_reducible refine wpQuiet_nil ?_); intro _ hw'; obtain ⟨X, hw''⟩ := hw'; subst hw''
            go_wp2
            go_ret
            exact ⟨by rw [hF.out]; rfl, hb.trans ((by (repeat' (first | with_reducible exact Below.refl _ _ | with_reducible refine Below.ext ?_ ?_ _ | with_reducible refine Below.alloc ?_ ?_ _ | with_reducible refine Below.setCell ?_ ?_ _ | with_reducible refine Below.drew ?_ | with_reducible assumption | (simp [World.size_ext]; done) | (simp [World.size_ext]; omega))) : Below wr.heap.size wr _).mono hqw)⟩
          | true =>
            rw [hn] at hN
            cases hv : vlB x.b with
            | false =>
              have hok1 : okAt L i = false := by rw [hO, hn, hv]; rfl
              rw [hv] at hV
              clear hO hls
              have hF := hide (show rightL L = false from by
                unfold rightL
                rw [show (List.range L.length).all (okAt L) = false from by
                  rw [List.all_eq_false]
                  exact ⟨i, List.mem_range.2 hlt, by rw [hok1]; simp⟩]
                simp)
              have H := hide (⟨h1, hx⟩ : _ ∧ _)
              clear h1 hx hno hok1
              go_wp2
              refine wp_region_ext_lit (by kernel_rfl) (by kernel_rfl) ?_
              (repeat (first | ((with_reducible refine wpQuiet_step (fun K hK => ?_)); go_simp; first | ((with_reducible refine hK _ ?_); clear hK K) | (apply Exists.intro; (with_reducible refine ⟨fun _ => ?_, hK _ ?_⟩); first | (go_at_call 23; exact Calls.ext_of (hN _)) | (go_at_call 24; exact Calls.ext_of (hV _)); clear hK K)) | ((with_reducible refine quiet_skipN ?_ (fun K hK => ?_)); (rfl); go_simp; (with_reducible refine hK _ ?_); clear hK K)))
              (with_reducible refine wpQuiet_nil ?_); intro _ hw'; obtain ⟨X, hw''⟩ := hw'; subst hw''
              go_wp2
              go_ret
              exact ⟨by rw [hF.out]; rfl, hb.trans ((by (repeat' (first | with_reducible exact Below.refl _ _ | with_reducible refine Below.ext ?_ ?_ _ | with_reducible refine Below.alloc ?_ ?_ _ | with_reducible refine Below.setCell ?_ ?_ _ | with_reducible refine Below.drew ?_ | with_reducible assumption | (simp [World.size_ext]; done) | (simp [World.size_ext]; omega))) : Below wr.heap.size wr _).mono hqw)⟩
            | true =>
              rw [hv] at hV
              rw [hn, hv] at hO
              by_cases hc : cmpB y.a x.a = -1
              · rw [decide_eq_true hc] at hls hO
                have hok1 : okAt L i = true := hO
                clear hO hc
                have HN := hide (okT_up hno hok1)
                have H := hide (⟨h1, hx⟩ : _ ∧ _)
                clear h1 hx hno hok1
                go_wp2
                refine wp_region_ext_lit (by kernel_rfl) (by kernel_rfl) ?_
                (repeat (first | ((with_reducible refine wpQuiet_step (fun K hK => ?_)); go_simp; first | ((with_reducible refine hK _ ?_); clear hK K) | (apply Exists.intro; (with_reducible refine ⟨fun _ => ?_, hK _ ?_⟩); first | (go_at_call 23; exact Calls.ext_of (hN _)) | (go_at_call 24; exact Calls.ext_of (hV _)); clear hK K)) | ((with_reducible refine quiet_skipN ?_ (fun K hK => ?_)); (rfl); go_simp; (with_reducible refine hK _ ?_); clear hK K)))
                (with_reducible refine wpQuiet_nil ?_); intro _ hw'; obtain ⟨X, hw''⟩ := hw'; subst hw''
                go_wp2
                go_roundw
                case rel => exact ⟨_, Nat.succ_le_of_lt hlt, by go_num, HN.out, H.out.1.below (by (repeat' (first | with_reducible exact Below.refl _ _ | with_reducible refine Below.ext ?_ ?_ _ | with_reducible refine Below.alloc ?_ ?_ _ | with_reducible refine Below.setCell ?_ ?_ _ | with_reducible refine Below.drew ?_ | with_reducible assumption | (simp [World.size_ext]; done) | (simp [World.size_ext]; omega)))), hb.trans ((by (repeat' (first | with_reducible exact Below.refl _ _ | with_reducible refine Below.ext ?_ ?_ _ | with_reducible refine Below.alloc ?_ ?_ _ | with_reducible refine Below.setCell ?_ ?_ _ | with_reducible refine Below.drew ?_ | with_reducible assumption | (simp [World.size_ext]; done) | (simp [World.size_ext]; omega))) : Below wr.heap.size wr _).mono hqw)⟩
                case measure => simp [intOf]; omega
              · rw [decide_eq_false hc] at hls hO
                have hok1 : okAt L i = false := hO
                clear hO hc
                have hF := hide (show rightL L = false from by
                  unfold rightL
                  rw [show (List.range L.length).all (okAt L) = false from by
                    rw [List.all_eq_false]
                    exact ⟨i, List.mem_range.2 hlt, by rw [hok1]; simp⟩]
                  simp)
                have H := hide (⟨h1, hx⟩ : _ ∧ _)
                clear h1 hx hno hok1
                go_wp2
                refine wp_region_ext_lit (by kernel_rfl) (by kernel_rfl) ?_
                (repeat (first | ((with_reducible refine wpQuiet_step (fun K hK => ?_)); go_simp; first | ((with_reducible refine hK _ ?_); clear hK K) | (apply Exists.intro; (with_reducible refine ⟨fun _ => ?_, hK _ ?_⟩); first | (go_at_call 23; exact Calls.ext_of (hN _)) | (go_at_call 24; exact Calls.ext_of (hV _)); clear hK K)) | ((with_reducible refine quiet_skipN ?_ (fun K hK => ?_)); (rfl); go_simp; (with_reducible refine hK _ ?_); clear hK K)))
                (with_reducible refine wpQuiet_nil ?_); intro _ hw'; obtain ⟨X, hw''⟩ := hw'; subst hw''
                go_wp2
                go_ret
                exact ⟨by rw [hF.out]; rfl, hb.trans ((by (repeat' (first | with_reducible exact Below.refl _ _ | with_reducible refine Below.ext ?_ ?_ _ | with_reducible refine Below.alloc ?_ ?_ _ | with_reducible refine Below.setCell ?_ ?_ _ | with_reducible refine Below.drew ?_ | with_reducible assumption | (simp [World.size_ext]; done) | (simp [World.size_ext]; omega))) : Below wr.heap.size wr _).mono hqw)⟩
      · obtain rfl : i = L.length := by omega
        have hF := hide (show rightL L = true from by unfold rightL; rw [decide_eq_true h16]; exact hno)
        clear h1 hno
        go_wp2
        go_ret
        exact ⟨by rw [hF.out]; rfl, hb⟩
  · have h16i : (16 : Int) < L.length := by omega
    have hF := hide (show rightL L = false from by simp [rightL, h16])
    rw [hq]
    clear h1
    go_enter Tryd.func16, Tryd.ntmps16
    go_wp2
    go_ret
    exact ⟨by rw [hF.out]; rfl, hB⟩
end Go.Proofs.YtmfbidhnafpkdaaDoor
