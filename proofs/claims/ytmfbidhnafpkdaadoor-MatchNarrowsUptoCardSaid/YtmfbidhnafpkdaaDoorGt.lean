import Derived.Test.YtmfbidhnafpkdaaDoorTo
import Derived.Test.YtmfbidhnafpkdaaDoorOrd
import Derived.Test.YtmfbidhnafpkdaaDoorDraw
import Derived.WalkSpells
import Derived.WalkLawsBesides
import Derived.WalkMore
/-! A label's value: the program's, and the document's. -/
namespace Go.Proofs.YtmfbidhnafpkdaaDoor
open Go.RowKit
set_option linter.unusedVariables false
set_option linter.unusedSimpArgs false
theorem dropP {L : List Par} {i : Nat} {x : Par} (h : L[i]? = some x) : L.drop i = x :: L.drop (i + 1) := by
  obtain ⟨h1, rfl⟩ := List.getElem?_eq_some_iff.1 h
  exact List.drop_eq_getElem_cons h1
def getL : List Par → ByteArray → ByteArray
  | [], _ => ⟨#[]⟩
  | x :: l, nm => if cmpB x.a nm = 0 then x.b else getL l nm
theorem getL_drop {L : List Par} {i : Nat} {x : Par} (h : L[i]? = some x) (nm : ByteArray) : getL (L.drop i) nm = if cmpB x.a nm = 0 then x.b else getL (L.drop (i + 1)) nm := by
  rw [dropP h, getL]
set_option maxRecDepth 100000 in
set_option maxHeartbeats 4000000 in
theorem pget_any (v : Value) (L : List Par) (nm : ByteArray) (w : World) (h1 : Pz w v L) :
    Calls Tryd.prog 15 #[v, .string nm] w fun e w' => e = .returned (.string (getL L nm)) ∧ Below w.heap.size w w' := by
  obtain ⟨A1, c1, rfl⟩ := h1.shape
  have hn1 := h1.n.2
  obtain ⟨q, hq⟩ : ∃ q, w.heap.size = q := ⟨_, rfl⟩
  have hB : Below q w w := by rw [← hq]; exact Below.refl _ _
  rw [hq]
  generalize hR : getL L nm = R
  go_enter Tryd.func15, Tryd.ntmps15
  go_wp2
  go_loopw [9] (fun s9 wr => ∃ i : Nat, i ≤ L.length ∧ s9 = .int .i64 (i : Int) ∧ getL (L.drop i) nm = R ∧ Pz wr (.slice A1 L.length c1) L ∧ Below q w wr) (fun s9 _ => ((L.length : Int) - intOf s9).toNat)
  case atStart => exact ⟨0, by omega, rfl, hR, h1, hB⟩
  case round =>
    clear h1 hR hB
    obtain ⟨i, hi, rfl, hR, h1, hb⟩ := hrel
    have hqw : q ≤ wr.heap.size := by rw [← hq]; exact hb.size
    by_cases hlt : i < L.length
    · obtain ⟨x, hx⟩ : ∃ x, L[i]? = some x := ⟨_, List.getElem?_eq_getElem hlt⟩
      obtain ⟨b, o, rfl, hbb, m0, m1⟩ := h1.at_ hx
      have hii : (i : Int) < L.length := by omega
      rw [getL_drop hx] at hR
      have hls := cmpB_eq x.a nm
      by_cases hc : cmpB x.a nm = 0
      · rw [if_pos hc] at hR
        subst hR
        rw [decide_eq_true hc] at hls
        clear h1 hx hc
        go_wp2
        go_ret
        exact ⟨rfl, hb.trans ((by (repeat' (first | with_reducible exact Below.refl _ _ | with_reducible refine Below.ext ?_ ?_ _ | with_reducible refine Below.alloc ?_ ?_ _ | with_reducible refine Below.setCell ?_ ?_ _ | with_reducible refine Below.drew ?_ | with_reducible assumption | (simp [World.size_ext]; done) | (simp [World.size_ext]; omega))) : Below wr.heap.size wr _).mono hqw)⟩
      · rw [if_neg hc] at hR
        rw [decide_eq_false hc] at hls
        have H := hide (⟨h1, hR⟩ : _ ∧ _)
        clear h1 hx hc hR
        go_wp2
        go_roundw
        case rel => exact ⟨i + 1, by omega, by go_num, H.out.2, H.out.1.below (by (repeat' (first | with_reducible exact Below.refl _ _ | with_reducible refine Below.ext ?_ ?_ _ | with_reducible refine Below.alloc ?_ ?_ _ | with_reducible refine Below.setCell ?_ ?_ _ | with_reducible refine Below.drew ?_ | with_reducible assumption | (simp [World.size_ext]; done) | (simp [World.size_ext]; omega)))), hb.trans ((by (repeat' (first | with_reducible exact Below.refl _ _ | with_reducible refine Below.ext ?_ ?_ _ | with_reducible refine Below.alloc ?_ ?_ _ | with_reducible refine Below.setCell ?_ ?_ _ | with_reducible refine Below.drew ?_ | with_reducible assumption | (simp [World.size_ext]; done) | (simp [World.size_ext]; omega))) : Below wr.heap.size wr _).mono hqw)⟩
        case measure => simp [intOf]; omega
    · obtain rfl : i = L.length := by omega
      rw [List.drop_length, getL] at hR
      subst hR
      clear h1
      go_wp2
      go_ret
      exact ⟨rfl, hb⟩
set_option maxRecDepth 100000 in
set_option maxHeartbeats 4000000 in
theorem rget_any (v : Value) (L : List Par) (nm : ByteArray) (w : World) (h1 : Pz w v L) :
    Calls Tryd.prog 42 #[v, .string nm] w fun e w' => e = .returned (.string (getL L nm)) ∧ Below w.heap.size w w' := by
  obtain ⟨A1, c1, rfl⟩ := h1.shape
  have hn1 := h1.n.2
  obtain ⟨q, hq⟩ : ∃ q, w.heap.size = q := ⟨_, rfl⟩
  have hB : Below q w w := by rw [← hq]; exact Below.refl _ _
  rw [hq]
  generalize hR : getL L nm = R
  go_enter Tryd.func42, Tryd.ntmps42
  go_wp2
  go_loopw [5] (fun s9 wr => ∃ i : Nat, i ≤ L.length ∧ s9 = .int .i64 (i : Int) ∧ getL (L.drop i) nm = R ∧ wr = w) (fun s9 _ => ((L.length : Int) - intOf s9).toNat)
  case atStart => exact ⟨0, by omega, rfl, hR, rfl⟩
  case round =>
    clear hR
    obtain ⟨i, hi, rfl, hR, rfl⟩ := hrel
    by_cases hlt : i < L.length
    · obtain ⟨x, hx⟩ : ∃ x, L[i]? = some x := ⟨_, List.getElem?_eq_getElem hlt⟩
      obtain ⟨b, o, rfl, hbb, m0, m1⟩ := h1.at_ hx
      have hii : (i : Int) < L.length := by omega
      rw [getL_drop hx] at hR
      have hls := cmpB_eq x.a nm
      clear h1
      by_cases hc : cmpB x.a nm = 0
      · rw [if_pos hc] at hR
        subst hR
        rw [decide_eq_true hc] at hls
        clear hx hc
        go_wp2
        go_ret
        exact ⟨rfl, hB⟩
      · rw [if_neg hc] at hR
        rw [decide_eq_false hc] at hls
        have H := hide hR
        clear hx hc hR
        go_wp2
        go_roundw
        case rel => exact ⟨i + 1, by omega, by go_num, H.out, by trivial⟩
        case measure => simp [intOf]; omega
    · obtain rfl : i = L.length := by omega
      rw [List.drop_length, getL] at hR
      subst hR
      clear h1
      go_wp2
      go_ret
      exact ⟨rfl, hB⟩
end Go.Proofs.YtmfbidhnafpkdaaDoor
