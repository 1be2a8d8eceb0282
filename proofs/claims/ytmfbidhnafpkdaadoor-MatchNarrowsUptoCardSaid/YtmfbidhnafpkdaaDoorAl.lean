import Derived.Test.YtmfbidhnafpkdaaDoorOn
/-! Whether all rules hold. -/
namespace Go.Proofs.YtmfbidhnafpkdaaDoor
open Go.RowKit
set_option linter.unusedVariables false
set_option linter.unusedSimpArgs false
theorem allL_false {L : List Rul} {S : List Par} {x : Rul} (hx : x ∈ L) (h : oneL S x = false) : allL L S = false := by
  unfold allL
  rw [List.all_eq_false]
  exact ⟨x, hx, by rw [h]; simp⟩
set_option maxRecDepth 100000 in
set_option maxHeartbeats 8000000 in
theorem mall_any (v sv : Value) (L : List Rul) (S : List Par) (w : World) (h1 : Rz w v L) (h2 : Pz w sv S) (hg : Sg w) (hz : ∀ y ∈ S, y.b.size < 4294967281) :
    Calls Tryd.prog 12 #[v, sv] w fun e w' => e = .returned (.bool (allL L S)) ∧ Below w.heap.size w w' := by
  obtain ⟨A1, c1, rfl⟩ := h1.shape
  have hn1 := h1.n.2
  obtain ⟨q, hq⟩ : ∃ q, w.heap.size = q := ⟨_, rfl⟩
  have hB : Below q w w := by rw [← hq]; exact Below.refl _ _
  rw [hq]
  go_enter Tryd.func12, Tryd.ntmps12
  go_wp2
  go_loopw [9] (fun s9 wr => ∃ i : Nat, i ≤ L.length ∧ s9 = .int .i64 (i : Int) ∧ (L.take i).all (oneL S) = true ∧ Below q w wr) (fun s9 _ => ((L.length : Int) - intOf s9).toNat)
  case atStart => exact ⟨0, by omega, rfl, rfl, hB⟩
  case round =>
    clear hB
    obtain ⟨i, hi, rfl, hno, hb⟩ := hrel
    have hqw : q ≤ wr.heap.size := by rw [← hq]; exact hb.size
    by_cases hlt : i < L.length
    · obtain ⟨x, hx⟩ : ∃ x, L[i]? = some x := ⟨_, List.getElem?_eq_getElem hlt⟩
      have hbw : Below w.heap.size w wr := by rw [hq]; exact hb
      obtain ⟨b, o, rfl, hbb, m0, m1, m2⟩ := (h1.below hbw).at_ hx
      have hii : (i : Int) < L.length := by omega
      have hC := mone_any x sv S (wr.alloc (.cells #[.string x.a, .int .i64 x.op, .string x.b] 35)) ((h2.below hbw).alloc _) ((hg.below hbw).below (Below.alloc (Below.refl _ _) (Nat.le_refl _) _)) hz
      cases ho : oneL S x with
      | false =>
        have hF := hide (allL_false (List.mem_of_getElem? hx) ho)
        rw [ho] at hC
        clear h1 h2 hx hno ho hbw hg
        go_wp2_with (go_at_call 27; (with_reducible refine hC.mono ?_); rintro e w1 ⟨rfl, hb1⟩; obtain ⟨X, rfl⟩ := World.ext_of_below hb1; clear hb1)
        go_ret
        exact ⟨by rw [hF.out]; rfl, hb.trans ((by (repeat' (first | with_reducible exact Below.refl _ _ | with_reducible refine Below.ext ?_ ?_ _ | with_reducible refine Below.alloc ?_ ?_ _ | with_reducible refine Below.setCell ?_ ?_ _ | with_reducible refine Below.drew ?_ | with_reducible assumption | (simp [World.size_ext]; done) | (simp [World.size_ext]; omega))) : Below wr.heap.size wr _).mono hqw)⟩
      | true =>
        have HN := hide (all_up hno hx ho)
        rw [ho] at hC
        clear h1 h2 hx hno ho hbw hg
        go_wp2_with (go_at_call 27; (with_reducible refine hC.mono ?_); rintro e w1 ⟨rfl, hb1⟩; obtain ⟨X, rfl⟩ := World.ext_of_below hb1; clear hb1)
        go_roundw
        case rel => exact ⟨i + 1, Nat.succ_le_of_lt hlt, by go_num, HN.out, hb.trans ((by (repeat' (first | with_reducible exact Below.refl _ _ | with_reducible refine Below.ext ?_ ?_ _ | with_reducible refine Below.alloc ?_ ?_ _ | with_reducible refine Below.setCell ?_ ?_ _ | with_reducible refine Below.drew ?_ | with_reducible assumption | (simp [World.size_ext]; done) | (simp [World.size_ext]; omega))) : Below wr.heap.size wr _).mono hqw)⟩
        case measure => first | (simp [intOf]; done) | (simp [intOf]; omega)
    · obtain rfl : i = L.length := by omega
      rw [List.take_length] at hno
      have hF := hide (show allL L S = true from hno)
      clear h1 h2 hno hg
      go_wp2
      go_ret
      exact ⟨by rw [hF.out]; rfl, hb⟩
set_option maxRecDepth 100000 in
set_option maxHeartbeats 8000000 in
theorem rall_any (v sv : Value) (L : List Rul) (S : List Par) (w : World) (h1 : Rz w v L) (h2 : Pz w sv S) (hz : ∀ y ∈ S, y.b.size < 4294967281) (hok : ∀ x ∈ L, x.ok) :
    Calls Tryd.prog 14 #[v, sv] w fun e w' => e = .returned (.bool (allL L S)) ∧ Below w.heap.size w w' := by
  obtain ⟨A1, c1, rfl⟩ := h1.shape
  have hn1 := h1.n.2
  obtain ⟨q, hq⟩ : ∃ q, w.heap.size = q := ⟨_, rfl⟩
  have hB : Below q w w := by rw [← hq]; exact Below.refl _ _
  rw [hq]
  go_enter Tryd.func14, Tryd.ntmps14
  go_wp2
  go_loopw [5] (fun s5 wr => ∃ i : Nat, i ≤ L.length ∧ s5 = .int .i64 (i : Int) ∧ (L.take i).all (oneL S) = true ∧ Below q w wr) (fun s5 _ => ((L.length : Int) - intOf s5).toNat)
  case atStart => exact ⟨0, by omega, rfl, rfl, hB⟩
  case round =>
    clear hB
    obtain ⟨i, hi, rfl, hno, hb⟩ := hrel
    have hqw : q ≤ wr.heap.size := by rw [← hq]; exact hb.size
    by_cases hlt : i < L.length
    · obtain ⟨x, hx⟩ : ∃ x, L[i]? = some x := ⟨_, List.getElem?_eq_getElem hlt⟩
      have hbw : Below w.heap.size w wr := by rw [hq]; exact hb
      obtain ⟨b, o, rfl, hbb, m0, m1, m2⟩ := (h1.below hbw).at_ hx
      have hii : (i : Int) < L.length := by omega
      have hC := rone_any x sv S wr (h2.below hbw) hz (hok x (List.mem_of_getElem? hx)).2.1
      cases ho : oneL S x with
      | false =>
        have hF := hide (allL_false (List.mem_of_getElem? hx) ho)
        rw [ho] at hC
        clear h1 h2 hx hno ho hbw
        go_wp2_with (go_at_call 28; (with_reducible refine hC.mono ?_); rintro e w1 ⟨rfl, hb1⟩; obtain ⟨X, rfl⟩ := World.ext_of_below hb1; clear hb1)
        go_ret
        exact ⟨by rw [hF.out]; rfl, hb.trans ((by (repeat' (first | with_reducible exact Below.refl _ _ | with_reducible refine Below.ext ?_ ?_ _ | with_reducible refine Below.alloc ?_ ?_ _ | with_reducible refine Below.setCell ?_ ?_ _ | with_reducible refine Below.drew ?_ | with_reducible assumption | (simp [World.size_ext]; done) | (simp [World.size_ext]; omega))) : Below wr.heap.size wr _).mono hqw)⟩
      | true =>
        have HN := hide (all_up hno hx ho)
        rw [ho] at hC
        clear h1 h2 hx hno ho hbw
        go_wp2_with (go_at_call 28; (with_reducible refine hC.mono ?_); rintro e w1 ⟨rfl, hb1⟩; obtain ⟨X, rfl⟩ := World.ext_of_below hb1; clear hb1)
        go_roundw
        case rel => exact ⟨i + 1, Nat.succ_le_of_lt hlt, by go_num, HN.out, hb.trans ((by (repeat' (first | with_reducible exact Below.refl _ _ | with_reducible refine Below.ext ?_ ?_ _ | with_reducible refine Below.alloc ?_ ?_ _ | with_reducible refine Below.setCell ?_ ?_ _ | with_reducible refine Below.drew ?_ | with_reducible assumption | (simp [World.size_ext]; done) | (simp [World.size_ext]; omega))) : Below wr.heap.size wr _).mono hqw)⟩
        case measure => first | (simp [intOf]; done) | (simp [intOf]; omega)
    · obtain rfl : i = L.length := by omega
      rw [List.take_length] at hno
      have hF := hide (show allL L S = true from hno)
      clear h1 h2 hno
      go_wp2
      go_ret
      exact ⟨by rw [hF.out]; rfl, hb⟩
end Go.Proofs.YtmfbidhnafpkdaaDoor
