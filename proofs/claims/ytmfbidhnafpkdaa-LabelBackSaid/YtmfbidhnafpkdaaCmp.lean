import Derived.Test.YtmfbidhnafpkdaaPar
/-! How two lists of labels stand. -/
namespace Go.Proofs.Ytmfbidhnafpkdaa
open Go.RowKit
set_option linter.unusedVariables false
set_option linter.unusedSimpArgs false
theorem dropP {L : List Par} {i : Nat} {x : Par} (h : L[i]? = some x) : L.drop i = x :: L.drop (i + 1) := by
  obtain ⟨h1, rfl⟩ := List.getElem?_eq_some_iff.1 h
  exact List.drop_eq_getElem_cons h1
set_option maxRecDepth 100000 in
set_option maxHeartbeats 4000000 in
theorem cmpf_any (v1 v2 : Value) (L M : List Par) (w : World) (h1 : Pz w v1 L) (h2 : Pz w v2 M) :
    Calls Try.prog 41 #[v1, v2, .func (.func 42) #[] #[]] w fun e w' => e = .returned (.int .i64 (cmpL L M)) ∧ Below w.heap.size w w' := by
  obtain ⟨A1, c1, rfl⟩ := h1.shape
  obtain ⟨A2, c2, rfl⟩ := h2.shape
  have hn1 := h1.n.2
  have hn2 := h2.n.2
  generalize hq : w.heap.size = q at *
  generalize hR : cmpL L M = R
  go_enter Try.func41, Try.ntmps41
  go_wp2
  go_loopw [13] (fun s13 wr => ∃ i : Nat, i ≤ L.length ∧ i ≤ M.length ∧ s13 = .int .i64 (i : Int) ∧ cmpL (L.drop i) (M.drop i) = R ∧ Pz wr (.slice A1 L.length c1) L ∧ Pz wr (.slice A2 M.length c2) M ∧ Below q w wr) (fun s13 _ => ((L.length : Int) - intOf s13).toNat)
  case atStart => exact ⟨0, by omega, by omega, rfl, hR, h1, h2, by rw [← hq]; exact Below.refl _ _⟩
  case round =>
    clear h1 h2 hR
    obtain ⟨i, hi, hj, rfl, hR, h1, h2, hb⟩ := hrel
    have hqw : q ≤ wr.heap.size := by rw [← hq]; exact hb.size
    by_cases hlt : i < L.length
    · obtain ⟨x, hx⟩ : ∃ x, L[i]? = some x := ⟨_, List.getElem?_eq_getElem hlt⟩
      obtain ⟨b, o, rfl, hbb, m0, m1⟩ := h1.at_ hx
      have hii : (i : Int) < L.length := by omega
      by_cases hlm : i < M.length
      · obtain ⟨y, hy⟩ : ∃ y, M[i]? = some y := ⟨_, List.getElem?_eq_getElem hlm⟩
        obtain ⟨b2, o2, rfl, hbb2, n0, n1⟩ := h2.at_ hy
        have hjj : (i : Int) < M.length := by omega
        have hjj' : ¬ ((M.length : Int) ≤ i) := by omega
        have hP := pcmp1_any x y
        rw [dropP hx, dropP hy, cmpL] at hR
        generalize cmpP x y = p at *
        have H := hide (⟨h1, h2, hR, hx, hy⟩ : _ ∧ _ ∧ _ ∧ _ ∧ _)
        clear h1 h2 hR hx hy
        by_cases hp : p = 0
        · subst hp
          go_wp2_with (go_at_call 42; (with_reducible refine (hP _).mono ?_); rintro e w1 ⟨rfl, hv1⟩)
          have hbw : Below wr.heap.size wr w1 := (((Below.refl wr.heap.size wr).alloc (Nat.le_refl _) _).alloc (by simp) _).trans (hv1.mono (by simp; omega))
          obtain ⟨h1, h2, hR, _, _⟩ := H.out
          go_roundw
          case rel => exact ⟨i + 1, by omega, by omega, by go_num, by simpa using hR, h1.below hbw, h2.below hbw, hb.trans (hbw.mono hqw)⟩
          case measure => simp [intOf]; omega
        · have hp1 : (p == 0) = false := by simp [hp]
          have hp2 : (p != 0) = true := by simp [hp]
          go_wp2_with (go_at_call 42; (with_reducible refine (hP _).mono ?_); rintro e w1 ⟨rfl, hv1⟩)
          have hbw : Below wr.heap.size wr w1 := (((Below.refl wr.heap.size wr).alloc (Nat.le_refl _) _).alloc (by simp) _).trans (hv1.mono (by simp; omega))
          obtain ⟨h1, h2, hR, _, _⟩ := H.out
          rw [if_neg hp] at hR
          subst hR
          go_ret
          exact ⟨rfl, hb.trans (hbw.mono hqw)⟩
      · obtain rfl : i = M.length := by omega
        have hjj : (M.length : Int) ≤ (M.length : Int) := Int.le_refl _
        rw [dropP hx, List.drop_length, cmpL] at hR
        subst hR
        clear hx h1 h2
        go_wp2
        go_ret
        exact ⟨rfl, by (repeat' (first | with_reducible exact Below.refl _ _ | with_reducible refine Below.ext ?_ ?_ _ | with_reducible refine Below.alloc ?_ ?_ _ | with_reducible refine Below.setCell ?_ ?_ _ | with_reducible refine Below.drew ?_ | with_reducible assumption | (simp [World.size_ext]; done) | (simp [World.size_ext]; omega)))⟩
    · obtain rfl : i = L.length := by omega
      rw [List.drop_length] at hR
      by_cases hlm : L.length < M.length
      · obtain ⟨y, hy⟩ : ∃ y, M[L.length]? = some y := ⟨_, List.getElem?_eq_getElem hlm⟩
        rw [dropP hy, cmpL] at hR
        subst hR
        have hjj : (L.length : Int) < M.length := by omega
        clear hy h1 h2
        go_wp2
        go_ret
        exact ⟨rfl, hb⟩
      · have : M.drop L.length = [] := List.drop_eq_nil_of_le (by omega)
        rw [this, cmpL] at hR
        subst hR
        have hjj : ¬ ((L.length : Int) < M.length) := by omega
        clear this h1 h2
        go_wp2
        go_ret
        exact ⟨rfl, hb⟩
theorem pcompare_any (v1 v2 : Value) (L M : List Par) (w : World) (h1 : Pz w v1 L) (h2 : Pz w v2 M) :
    Calls Try.prog 28 #[v1, v2] w fun e w' => e = .returned (.int .i64 (cmpL L M)) ∧ Below w.heap.size w w' := by
  have hC := cmpf_any v1 v2 L M w h1 h2
  obtain ⟨A1, c1, rfl⟩ := h1.shape
  obtain ⟨A2, c2, rfl⟩ := h2.shape
  go_enter Try.func28, Try.ntmps28
  go_wp2_with (go_at_call 41; (with_reducible refine hC.mono ?_); rintro e w1 ⟨rfl, hb⟩)
  go_ret
  exact ⟨rfl, hb⟩
end Go.Proofs.Ytmfbidhnafpkdaa
