import Derived.Test.YtmfbidhnafpkdaaDoorRul
import Derived.Test.YtmfbidhnafpkdaaDoorSgn
import Derived.Test.YtmfbidhnafpkdaaDoorRt
/-! Whether rules may be. -/
namespace Go.Proofs.YtmfbidhnafpkdaaDoor
open Go.RowKit
set_option linter.unusedVariables false
set_option linter.unusedSimpArgs false
def okR (x : Rul) : Bool := nmB x.a && (decide (1 ≤ x.op) && (decide (x.op ≤ 4) && (decide (x.b.size = 0) || vlB x.b)))
/-- Whether rules may be. -/
def rightR (L : List Rul) : Bool := decide (L.length ≤ 16) && L.all okR
theorem all_up {α : Type} {p : α → Bool} {L : List α} {i : Nat} {x : α} (h : (L.take i).all p = true) (hx : L[i]? = some x) (h1 : p x = true) : (L.take (i + 1)).all p = true := by
  rw [List.take_add_one, hx, List.all_append, h]
  simp [h1]
set_option maxRecDepth 100000 in
set_option maxHeartbeats 16000000 in
theorem mright_any (v : Value) (L : List Rul) (w : World) (h1 : Rz w v L) (hok : ∀ x ∈ L, x.ok) :
    Calls Tryd.prog 9 #[v] w fun e w' => e = .returned (.bool (rightR L)) ∧ Below w.heap.size w w' := by
  obtain ⟨A1, c1, rfl⟩ := h1.shape
  have hn1 := h1.n.2
  obtain ⟨q, hq⟩ : ∃ q, w.heap.size = q := ⟨_, rfl⟩
  have hB : Below q w w := by rw [← hq]; exact Below.refl _ _
  by_cases h16 : L.length ≤ 16
  · have h16i : (L.length : Int) ≤ 16 := by omega
    rw [hq]
    go_enter Tryd.func9, Tryd.ntmps9
    go_wp2
    go_loopw [10] (fun s10 wr => ∃ i : Nat, i ≤ L.length ∧ s10 = .int .i64 (i : Int) ∧ (L.take i).all okR = true ∧ Rz wr (.slice A1 L.length c1) L ∧ Below q w wr) (fun s10 _ => ((L.length : Int) - intOf s10).toNat)
    case atStart => exact ⟨0, by omega, rfl, rfl, h1, hB⟩
    case round =>
      clear h1 hB
      obtain ⟨i, hi, rfl, hno, h1, hb⟩ := hrel
      have hqw : q ≤ wr.heap.size := by rw [← hq]; exact hb.size
      by_cases hlt : i < L.length
      · obtain ⟨x, hx⟩ : ∃ x, L[i]? = some x := ⟨_, List.getElem?_eq_getElem hlt⟩
        obtain ⟨b, o, rfl, hbb, m0, m1, m2⟩ := h1.at_ hx
        have hii : (i : Int) < L.length := by omega
        have hxo := hok x (List.mem_of_getElem? hx)
        have hN := fun w => pname_any x.a hxo.1 w
        have hV := fun w => pvalue_any x.b hxo.2.1 w
        clear hxo
        have hO : okR x = (nmB x.a && (decide (1 ≤ x.op) && (decide (x.op ≤ 4) && (decide (x.b.size = 0) || vlB x.b)))) := rfl
        cases hn : nmB x.a with
        | false =>
          have hok1 : okR x = false := by rw [hO, hn]; rfl
          rw [hn] at hN
          clear hO
          have hF := hide (show rightR L = false from by
            unfold rightR
            rw [show L.all okR = false from by
              rw [List.all_eq_false]
              exact ⟨x, List.mem_of_getElem? hx, by rw [hok1]; simp⟩]
            simp)
          clear h1 hx hno hok1
          go_wp2_with (first | (go_at_call 23; (with_reducible refine (hN _).mono ?_); rintro e w1 ⟨rfl, rfl⟩) | (go_at_call 24; (with_reducible refine (hV _).mono ?_); rintro e w2 ⟨rfl, rfl⟩))
          go_ret
          exact ⟨by rw [hF.out]; rfl, hb.trans ((by (repeat' (first | with_reducible exact Below.refl _ _ | with_reducible refine Below.ext ?_ ?_ _ | with_reducible refine Below.alloc ?_ ?_ _ | with_reducible refine Below.setCell ?_ ?_ _ | with_reducible refine Below.drew ?_ | with_reducible assumption | (simp [World.size_ext]; done) | (simp [World.size_ext]; omega))) : Below wr.heap.size wr _).mono hqw)⟩
        | true =>
          rw [hn] at hN
          by_cases o1 : 1 ≤ x.op
          case neg =>
            have hok1 : okR x = false := by rw [hO, hn, decide_eq_false o1]; rfl
            have o1' : x.op < 1 := by omega
            clear hO o1
            have hF := hide (show rightR L = false from by
              unfold rightR
              rw [show L.all okR = false from by
                rw [List.all_eq_false]
                exact ⟨x, List.mem_of_getElem? hx, by rw [hok1]; simp⟩]
              simp)
            clear h1 hx hno hok1
            go_wp2_with (first | (go_at_call 23; (with_reducible refine (hN _).mono ?_); rintro e w1 ⟨rfl, rfl⟩) | (go_at_call 24; (with_reducible refine (hV _).mono ?_); rintro e w2 ⟨rfl, rfl⟩))
            go_ret
            exact ⟨by rw [hF.out]; rfl, hb.trans ((by (repeat' (first | with_reducible exact Below.refl _ _ | with_reducible refine Below.ext ?_ ?_ _ | with_reducible refine Below.alloc ?_ ?_ _ | with_reducible refine Below.setCell ?_ ?_ _ | with_reducible refine Below.drew ?_ | with_reducible assumption | (simp [World.size_ext]; done) | (simp [World.size_ext]; omega))) : Below wr.heap.size wr _).mono hqw)⟩
          by_cases o4 : x.op ≤ 4
          case neg =>
            have hok1 : okR x = false := by rw [hO, hn, decide_eq_true o1, decide_eq_false o4]; rfl
            have o1' : ¬ x.op < 1 := by omega
            have o4' : 4 < x.op := by omega
            clear hO o1 o4
            have hF := hide (show rightR L = false from by
              unfold rightR
              rw [show L.all okR = false from by
                rw [List.all_eq_false]
                exact ⟨x, List.mem_of_getElem? hx, by rw [hok1]; simp⟩]
              simp)
            clear h1 hx hno hok1
            go_wp2_with (first | (go_at_call 23; (with_reducible refine (hN _).mono ?_); rintro e w1 ⟨rfl, rfl⟩) | (go_at_call 24; (with_reducible refine (hV _).mono ?_); rintro e w2 ⟨rfl, rfl⟩))
            go_ret
            exact ⟨by rw [hF.out]; rfl, hb.trans ((by (repeat' (first | with_reducible exact Below.refl _ _ | with_reducible refine Below.ext ?_ ?_ _ | with_reducible refine Below.alloc ?_ ?_ _ | with_reducible refine Below.setCell ?_ ?_ _ | with_reducible refine Below.drew ?_ | with_reducible assumption | (simp [World.size_ext]; done) | (simp [World.size_ext]; omega))) : Below wr.heap.size wr _).mono hqw)⟩
          have o1' : ¬ x.op < 1 := by omega
          have o4' : ¬ 4 < x.op := by omega
          rcases Nat.eq_zero_or_pos x.b.size with h0 | h0
          · have hok1 : okR x = true := by rw [hO, hn, decide_eq_true o1, decide_eq_true o4, decide_eq_true h0]; rfl
            have he := str_empty h0
            have he' : x.b.toList.isEmpty = true := by rw [he]; rfl
            clear hO o1 o4 h0
            have HN := hide (all_up hno hx hok1)
            have H := hide (⟨h1, hx⟩ : _ ∧ _)
            clear h1 hx hno hok1
            go_wp2_with (first | (go_at_call 23; (with_reducible refine (hN _).mono ?_); rintro e w1 ⟨rfl, rfl⟩) | (go_at_call 24; (with_reducible refine (hV _).mono ?_); rintro e w2 ⟨rfl, rfl⟩))
            go_roundw
            case rel => exact ⟨i + 1, Nat.succ_le_of_lt hlt, by go_num, HN.out, H.out.1.below (by (repeat' (first | with_reducible exact Below.refl _ _ | with_reducible refine Below.ext ?_ ?_ _ | with_reducible refine Below.alloc ?_ ?_ _ | with_reducible refine Below.setCell ?_ ?_ _ | with_reducible refine Below.drew ?_ | with_reducible assumption | (simp [World.size_ext]; done) | (simp [World.size_ext]; omega)))), hb.trans ((by (repeat' (first | with_reducible exact Below.refl _ _ | with_reducible refine Below.ext ?_ ?_ _ | with_reducible refine Below.alloc ?_ ?_ _ | with_reducible refine Below.setCell ?_ ?_ _ | with_reducible refine Below.drew ?_ | with_reducible assumption | (simp [World.size_ext]; done) | (simp [World.size_ext]; omega))) : Below wr.heap.size wr _).mono hqw)⟩
            case measure => first | (simp [intOf]; done) | (simp [intOf]; omega)
          · obtain ⟨he, he'⟩ := str_some h0
            cases hv : vlB x.b with
            | false =>
              have hok1 : okR x = false := by rw [hO, hn, hv, decide_eq_true o1, decide_eq_true o4, decide_eq_false (by omega)]; rfl
              rw [hv] at hV
              clear hO o1 o4 h0
              have hF := hide (show rightR L = false from by
                unfold rightR
                rw [show L.all okR = false from by
                  rw [List.all_eq_false]
                  exact ⟨x, List.mem_of_getElem? hx, by rw [hok1]; simp⟩]
                simp)
              clear h1 hx hno hok1
              go_wp2_with (first | (go_at_call 23; (with_reducible refine (hN _).mono ?_); rintro e w1 ⟨rfl, rfl⟩) | (go_at_call 24; (with_reducible refine (hV _).mono ?_); rintro e w2 ⟨rfl, rfl⟩))
              go_ret
              exact ⟨by rw [hF.out]; rfl, hb.trans ((by (repeat' (first | with_reducible exact Below.refl _ _ | with_reducible refine Below.ext ?_ ?_ _ | with_reducible refine Below.alloc ?_ ?_ _ | with_reducible refine Below.setCell ?_ ?_ _ | with_reducible refine Below.drew ?_ | with_reducible assumption | (simp [World.size_ext]; done) | (simp [World.size_ext]; omega))) : Below wr.heap.size wr _).mono hqw)⟩
            | true =>
              have hok1 : okR x = true := by rw [hO, hn, hv, decide_eq_true o1, decide_eq_true o4]; simp
              rw [hv] at hV
              clear hO o1 o4 h0
              have HN := hide (all_up hno hx hok1)
              have H := hide (⟨h1, hx⟩ : _ ∧ _)
              clear h1 hx hno hok1
              go_wp2_with (first | (go_at_call 23; (with_reducible refine (hN _).mono ?_); rintro e w1 ⟨rfl, rfl⟩) | (go_at_call 24; (with_reducible refine (hV _).mono ?_); rintro e w2 ⟨rfl, rfl⟩))
              go_roundw
              case rel => exact ⟨i + 1, Nat.succ_le_of_lt hlt, by go_num, HN.out, H.out.1.below (by (repeat' (first | with_reducible exact Below.refl _ _ | with_reducible refine Below.ext ?_ ?_ _ | with_reducible refine Below.alloc ?_ ?_ _ | with_reducible refine Below.setCell ?_ ?_ _ | with_reducible refine Below.drew ?_ | with_reducible assumption | (simp [World.size_ext]; done) | (simp [World.size_ext]; omega)))), hb.trans ((by (repeat' (first | with_reducible exact Below.refl _ _ | with_reducible refine Below.ext ?_ ?_ _ | with_reducible refine Below.alloc ?_ ?_ _ | with_reducible refine Below.setCell ?_ ?_ _ | with_reducible refine Below.drew ?_ | with_reducible assumption | (simp [World.size_ext]; done) | (simp [World.size_ext]; omega))) : Below wr.heap.size wr _).mono hqw)⟩
              case measure => first | (simp [intOf]; done) | (simp [intOf]; omega)
      · obtain rfl : i = L.length := by omega
        have hF := hide (show rightR L = true from by unfold rightR; rw [decide_eq_true h16]; rw [List.take_length] at hno; exact hno)
        clear h1 hno
        go_wp2
        go_ret
        exact ⟨by rw [hF.out]; rfl, hb⟩
  · have h16i : (16 : Int) < L.length := by omega
    have hF := hide (show rightR L = false from by simp [rightR, h16])
    rw [hq]
    clear h1
    go_enter Tryd.func9, Tryd.ntmps9
    go_wp2
    go_ret
    exact ⟨by rw [hF.out]; rfl, hB⟩
set_option maxRecDepth 100000 in
set_option maxHeartbeats 16000000 in
theorem rright_any (v : Value) (L : List Rul) (w : World) (h1 : Rz w v L) (hok : ∀ x ∈ L, x.ok) :
    Calls Tryd.prog 11 #[v] w fun e w' => e = .returned (.bool (rightR L)) ∧ Below w.heap.size w w' := by
  obtain ⟨A1, c1, rfl⟩ := h1.shape
  have hn1 := h1.n.2
  obtain ⟨q, hq⟩ : ∃ q, w.heap.size = q := ⟨_, rfl⟩
  have hB : Below q w w := by rw [← hq]; exact Below.refl _ _
  rw [hq]
  go_enter Tryd.func11, Tryd.ntmps11
  go_wp2
  go_loopw [3] (fun s3 wr => ∃ i : Nat, i ≤ L.length ∧ s3 = .int .i64 (i : Int) ∧ (L.take i).all okR = true ∧ wr = w) (fun s3 _ => ((L.length : Int) - intOf s3).toNat)
  case atStart => exact ⟨0, by omega, rfl, rfl, rfl⟩
  case round =>
    obtain ⟨i, hi, rfl, hno, rfl⟩ := hrel
    by_cases hlt : i < L.length
    · obtain ⟨x, hx⟩ : ∃ x, L[i]? = some x := ⟨_, List.getElem?_eq_getElem hlt⟩
      obtain ⟨b, o, rfl, hbb, m0, m1, m2⟩ := h1.at_ hx
      have hii : (i : Int) < L.length := by omega
      have hxo := hok x (List.mem_of_getElem? hx)
      have hN := fun w => rname_any x.a hxo.1 w
      have hV := fun w => rvalue_any x.b hxo.2.1 w
      clear hxo
      have hO : okR x = (nmB x.a && (decide (1 ≤ x.op) && (decide (x.op ≤ 4) && (decide (x.b.size = 0) || vlB x.b)))) := rfl
      cases hn : nmB x.a with
      | false =>
        have hok1 : okR x = false := by rw [hO, hn]; rfl
        rw [hn] at hN
        clear hO
        have hF := hide (show rightR L = false from by
          unfold rightR
          rw [show L.all okR = false from by
            rw [List.all_eq_false]
            exact ⟨x, List.mem_of_getElem? hx, by rw [hok1]; simp⟩]
          simp)
        clear h1 hx hno hok1
        go_wp2_with (first | (go_at_call 25; (with_reducible refine (hN _).mono ?_); rintro e w1 ⟨rfl, rfl⟩) | (go_at_call 26; (with_reducible refine (hV _).mono ?_); rintro e w2 ⟨rfl, rfl⟩))
        go_ret
        exact ⟨by rw [hF.out]; rfl, hB⟩
      | true =>
        rw [hn] at hN
        by_cases o1 : 1 ≤ x.op
        case neg =>
          have hok1 : okR x = false := by rw [hO, hn, decide_eq_false o1]; rfl
          have o1' : x.op < 1 := by omega
          clear hO o1
          have hF := hide (show rightR L = false from by
            unfold rightR
            rw [show L.all okR = false from by
              rw [List.all_eq_false]
              exact ⟨x, List.mem_of_getElem? hx, by rw [hok1]; simp⟩]
            simp)
          clear h1 hx hno hok1
          go_wp2_with (first | (go_at_call 25; (with_reducible refine (hN _).mono ?_); rintro e w1 ⟨rfl, rfl⟩) | (go_at_call 26; (with_reducible refine (hV _).mono ?_); rintro e w2 ⟨rfl, rfl⟩))
          go_ret
          exact ⟨by rw [hF.out]; rfl, hB⟩
        by_cases o4 : x.op ≤ 4
        case neg =>
          have hok1 : okR x = false := by rw [hO, hn, decide_eq_true o1, decide_eq_false o4]; rfl
          have o1' : ¬ x.op < 1 := by omega
          have o4' : 4 < x.op := by omega
          clear hO o1 o4
          have hF := hide (show rightR L = false from by
            unfold rightR
            rw [show L.all okR = false from by
              rw [List.all_eq_false]
              exact ⟨x, List.mem_of_getElem? hx, by rw [hok1]; simp⟩]
            simp)
          clear h1 hx hno hok1
          go_wp2_with (first | (go_at_call 25; (with_reducible refine (hN _).mono ?_); rintro e w1 ⟨rfl, rfl⟩) | (go_at_call 26; (with_reducible refine (hV _).mono ?_); rintro e w2 ⟨rfl, rfl⟩))
          go_ret
          exact ⟨by rw [hF.out]; rfl, hB⟩
        have o1' : ¬ x.op < 1 := by omega
        have o4' : ¬ 4 < x.op := by omega
        rcases Nat.eq_zero_or_pos x.b.size with h0 | h0
        · have hok1 : okR x = true := by rw [hO, hn, decide_eq_true o1, decide_eq_true o4, decide_eq_true h0]; rfl
          have he := str_empty h0
          have he' : x.b.toList.isEmpty = true := by rw [he]; rfl
          clear hO o1 o4 h0
          have HN := hide (all_up hno hx hok1)
          clear h1 hx hno hok1
          go_wp2_with (first | (go_at_call 25; (with_reducible refine (hN _).mono ?_); rintro e w1 ⟨rfl, rfl⟩) | (go_at_call 26; (with_reducible refine (hV _).mono ?_); rintro e w2 ⟨rfl, rfl⟩))
          go_roundw
          case rel => exact ⟨i + 1, Nat.succ_le_of_lt hlt, by go_num, HN.out, by trivial⟩
          case measure => first | (simp [intOf]; done) | (simp [intOf]; omega)
        · obtain ⟨he, he'⟩ := str_some h0
          cases hv : vlB x.b with
          | false =>
            have hok1 : okR x = false := by rw [hO, hn, hv, decide_eq_true o1, decide_eq_true o4, decide_eq_false (by omega)]; rfl
            rw [hv] at hV
            clear hO o1 o4 h0
            have hF := hide (show rightR L = false from by
              unfold rightR
              rw [show L.all okR = false from by
                rw [List.all_eq_false]
                exact ⟨x, List.mem_of_getElem? hx, by rw [hok1]; simp⟩]
              simp)
            clear h1 hx hno hok1
            go_wp2_with (first | (go_at_call 25; (with_reducible refine (hN _).mono ?_); rintro e w1 ⟨rfl, rfl⟩) | (go_at_call 26; (with_reducible refine (hV _).mono ?_); rintro e w2 ⟨rfl, rfl⟩))
            go_ret
            exact ⟨by rw [hF.out]; rfl, hB⟩
          | true =>
            have hok1 : okR x = true := by rw [hO, hn, hv, decide_eq_true o1, decide_eq_true o4]; simp
            rw [hv] at hV
            clear hO o1 o4 h0
            have HN := hide (all_up hno hx hok1)
            clear h1 hx hno hok1
            go_wp2_with (first | (go_at_call 25; (with_reducible refine (hN _).mono ?_); rintro e w1 ⟨rfl, rfl⟩) | (go_at_call 26; (with_reducible refine (hV _).mono ?_); rintro e w2 ⟨rfl, rfl⟩))
            go_roundw
            case rel => exact ⟨i + 1, Nat.succ_le_of_lt hlt, by go_num, HN.out, by trivial⟩
            case measure => first | (simp [intOf]; done) | (simp [intOf]; omega)
    · obtain rfl : i = L.length := by omega
      rw [List.take_length] at hno
      by_cases h16 : L.length ≤ 16
      · have h16i : (L.length : Int) ≤ 16 := by omega
        have hF := hide (show rightR L = true from by unfold rightR; rw [decide_eq_true h16]; exact hno)
        clear h1 hno
        go_wp2
        go_ret
        exact ⟨by rw [hF.out]; rfl, hB⟩
      · have h16i : ¬ (L.length : Int) ≤ 16 := by omega
        have hF := hide (show rightR L = false from by simp [rightR, h16])
        clear h1 hno
        go_wp2
        go_ret
        exact ⟨by rw [hF.out]; rfl, hB⟩
end Go.Proofs.YtmfbidhnafpkdaaDoor
