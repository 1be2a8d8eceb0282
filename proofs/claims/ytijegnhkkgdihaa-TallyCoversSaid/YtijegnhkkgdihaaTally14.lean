import Derived.Test.YtijegnhkkgdihaaTally8
import Derived.Test.YtijegnhkkgdihaaTally12
/-! Cells as the document's; whether cells are the same; whether times don't fall. -/
namespace Go.Proofs.Ytijegnhkkgdihaa
open Go.RowKit
set_option linter.unusedVariables false
set_option linter.unusedSimpArgs false
theorem infoCR : (Try.prog.info? 61).map (fun i => (i.zero, i.size, i.bytes)) = some (some (.agg #[.int .i64 0, .int .i64 0]), 2, 16) := by kernel_rfl
set_option maxHeartbeats 1000000 in
theorem from_any (A : Option Addr) (n c : Nat) (l : List (Int × Int)) (w : World) (hr : Reads w w.heap.size 2 A n (smps l)) (hn : n * 16 ≤ 140737488355328) :
    Calls Try.prog 17 #[.slice A n c] w fun e w' => ∃ v, e = .returned v ∧ w'.ownsRow w.heap.size 61 2 v n (smps l) ∧ Below w.heap.size w w' := by
  obtain ⟨i0, hi, hz0, hz1, hz2⟩ := info_parts infoCR
  have hl : l.length = n := by have := hr.1; rw [smps_length] at this; omega
  by_cases h0 : n = 0
  · subst h0
    obtain rfl : l = [] := List.length_eq_zero_iff.1 hl
    go_enter Try.func17, Try.ntmps17
    go_wp2
    go_loopw [3, 8] (fun v s wr => v = .slice none 0 0 ∧ s = .int .i64 0 ∧ wr = w) (fun _ s _ => 0)
    case atStart => exact ⟨rfl, rfl, rfl⟩
    case round =>
      obtain ⟨rfl, rfl, rfl⟩ := hrel
      go_wp2
      go_ret
      exact ⟨_, rfl, ⟨rfl, .inl ⟨rfl, rfl⟩⟩, Below.refl _ _⟩
  · obtain ⟨b, o, rfl, hb, hc⟩ := hr.plain (by omega) (by omega)
    go_enter Try.func17, Try.ntmps17
    go_wp2
    go_loopw [3, 8] (fun v s wr => ∃ j : Nat, j ≤ n ∧ s = .int .i64 (j : Int) ∧ wr.ownsRow w.heap.size 61 2 v j (smps (l.take j)) ∧ Below w.heap.size w wr) (fun _ s _ => ((n : Int) - intOf s).toNat)
    case atStart => exact ⟨0, by omega, rfl, ⟨rfl, .inl ⟨rfl, rfl⟩⟩, Below.refl _ _⟩
    case round =>
      obtain ⟨j, hj, rfl, hown, hbel⟩ := hrel
      have hcell0 := hbel.size
      by_cases hlt : j < n
      · have hg : l[j]? = some l[j] := List.getElem?_eq_getElem (by omega)
        obtain ⟨g1, g2⟩ := smps_get l j _ hg
        have m1 : wr.cell? ⟨b, o + j * 2, none⟩ = some (.int .i64 l[j].1) := by rw [hbel.cell (p := ⟨b, _, none⟩) hb]; exact hc _ _ g1
        have m2 : wr.cell? ⟨b, o + j * 2 + 1, none⟩ = some (.int .i64 l[j].2) := by rw [hbel.cell (p := ⟨b, _, none⟩) hb, Nat.add_assoc]; exact hc _ _ g2
        go_wp2_with (at_builtin; go_must (refine wpList_append_own _ rfl (.tmp 12) (.tmp 18) 43 rfl (w.heap.size) 61 i0 (.agg #[.int .i64 0, .int .i64 0]) 2 16 Try.underlying43 hi hz0 hz1 hz2 rfl (by decide) u3 (j) _ rfl ((hown.alloc _).alloc _) ⟨wr.heap.size + 1, 0, none⟩ 1 1 [.int .i64 l[j].1, .int .i64 l[j].2] rfl rfl ?c1 ?c2 ?c3 ?c4 ?c5 ?_))
        case c1 => exact cells_new_at _ #[_, _] _ (by simp)
        case c2 => simp [Value.oneCell']
        case c3 => unfold maxLen; omega
        case c4 => omega
        case c5 => simp; omega
        intro v' w1 hown1 hg1 _
        have hbel1 := own_below ((hbel.alloc hcell0 _).alloc (by simp; omega) _) ((hown.alloc _).alloc _) hg1 (Nat.le_refl _) (by simp; omega)
        have ht : smps (l.take (j + 1)) = smps (l.take j) ++ [.int .i64 l[j].1, .int .i64 l[j].2] := by
          rw [List.take_add_one, hg, smps_append]; rfl
        rw [← ht] at hown1
        clear ht
        go_wp2
        go_roundw
        case rel => exact ⟨j + 1, by omega, by go_num, hown1, hbel1⟩
        case measure => simp [intOf]; omega
      · obtain rfl : j = n := by omega
        rw [List.take_of_length_le (by omega)] at hown
        clear hlt
        go_wp2
        go_ret
        exact ⟨_, rfl, hown, hbel⟩
theorem rise_of {l : List (Int × Int)} (h : ∀ i p q, l[i]? = some p → l[i + 1]? = some q → p.1 ≤ q.1) : Rise l := by
  have key : ∀ d i p q, l[i]? = some p → l[i + 1 + d]? = some q → p.1 ≤ q.1 := by
    intro d
    induction d with
    | zero => exact fun i p q hp hq => h i p q hp hq
    | succ d ih =>
      intro i p q hp hq
      obtain ⟨x, hx⟩ : ∃ x, l[i + 1 + d]? = some x := ⟨l[i + 1 + d]'(by have := (List.getElem?_eq_some_iff.1 hq).1; omega), List.getElem?_eq_getElem _⟩
      have := ih i p x hp hx
      have := h (i + 1 + d) x q hx hq
      omega
  refine List.pairwise_iff_getElem.2 fun i j hi hj hij => ?_
  exact key (j - i - 1) i _ _ (List.getElem?_eq_getElem hi) (by rw [show i + 1 + (j - i - 1) = j by omega]; exact List.getElem?_eq_getElem hj)
set_option maxHeartbeats 1000000 in
theorem rising_any (A : Option Addr) (n c : Nat) (l : List (Int × Int)) (w : World) (hr : Reads w w.heap.size 2 A n (smps l)) (hn : n * 16 ≤ 140737488355328) :
    Calls Try.prog 13 #[.slice A n c] w fun e w' => ∃ b, e = .returned (.bool b) ∧ (b = true → Rise l) ∧ Below w.heap.size w w' := by
  have hlen : l.length = n := by have := hr.1; rw [smps_length] at this; omega
  go_enter Try.func13, Try.ntmps13
  go_wp2
  go_loopw [3] (fun s wr => ∃ j : Nat, 1 ≤ j ∧ (j ≤ n ∨ j = 1) ∧ s = .int .i64 (j : Int) ∧ (∀ i p q, i + 1 < j → l[i]? = some p → l[i + 1]? = some q → p.1 ≤ q.1) ∧ Below w.heap.size w wr) (fun s _ => ((n : Int) - intOf s).toNat)
  case atStart => exact ⟨1, by omega, by omega, rfl, fun i p q h => by omega, Below.refl _ _⟩
  case round =>
    obtain ⟨j, hj1, hj, rfl, hold, hbel⟩ := hrel
    have hsz := hbel.size
    by_cases hlt : j < n
    · obtain ⟨m, rfl⟩ : ∃ m, j = m + 1 := ⟨j - 1, by omega⟩
      obtain ⟨x, hx⟩ : ∃ x, l[m + 1]? = some x := ⟨l[m + 1]'(by omega), List.getElem?_eq_getElem (by omega)⟩
      obtain ⟨y, hy⟩ : ∃ y, l[m]? = some y := ⟨l[m]'(by omega), List.getElem?_eq_getElem (by omega)⟩
      obtain ⟨b, o, rfl, hb, hc⟩ := hr.plain (by omega) (by omega)
      have m1 : wr.cell? ⟨b, o + (m + 1) * 2, none⟩ = some (.int .i64 x.1) := by rw [hbel.cell (p := ⟨b, _, none⟩) hb]; exact hc _ _ (smps_get l (m + 1) _ hx).1
      have m2 : wr.cell? ⟨b, o + m * 2, none⟩ = some (.int .i64 y.1) := by rw [hbel.cell (p := ⟨b, _, none⟩) hb]; exact hc _ _ (smps_get l m _ hy).1
      have k1 : IntKind.i64.wrap (m : Int) = (m : Int) := IntWalk.i64_in _ (by omega)
      have k2 : (m : Int) + 1 < n := by omega
      have k3 : (m : Int) < n := by omega
      have k4 : m + 1 < n := hlt
      have k5 : m < n := by omega
      have k7 : (0 : Int) ≤ (m : Int) + 1 := by omega
      have k6 : ((m : Int) + 1).toNat = m + 1 := by omega
      have hb' : b < wr.heap.size := by omega
      by_cases hxy : x.1 < y.1
      · have cxy : decide (x.1 < y.1) = true := by simpa using hxy
        clear hold hc hx hy hr
        go_wp2
        refine wp_region_ext_lit (by kernel_rfl) (by kernel_rfl) ?_
        (repeat (quiet_step (skip)))
        refine wpQuiet_nil ?_; intro _ hw'; obtain ⟨X, hw''⟩ := hw'; subst hw''
        go_wp2
        go_ret
        exact ⟨_, rfl, fun h => by simp at h, by (repeat' (first | with_reducible exact Below.refl _ _ | with_reducible refine Below.ext ?_ ?_ _ | with_reducible refine Below.alloc ?_ ?_ _ | with_reducible refine Below.setCell ?_ ?_ _ | with_reducible refine Below.drew ?_ | with_reducible assumption | (simp [World.size_ext]; done) | (simp [World.size_ext]; omega)))⟩
      · have cxy : decide (x.1 < y.1) = false := by simpa using hxy
        have hold' : ∀ i p q, i + 1 < m + 1 + 1 → l[i]? = some p → l[i + 1]? = some q → p.1 ≤ q.1 := fun i p q hi hp hq => by
          by_cases e : i = m
          · subst e
            rw [hx] at hq
            rw [hp] at hy
            obtain rfl := Option.some.inj hq
            obtain rfl := Option.some.inj hy
            omega
          · exact hold i p q (by omega) hp hq
        clear hold hc hx hy hr
        go_wp2
        refine wp_region_ext_lit (by kernel_rfl) (by kernel_rfl) ?_
        (repeat (quiet_step (skip)))
        refine wpQuiet_nil ?_; intro _ hw'; obtain ⟨X, hw''⟩ := hw'; subst hw''
        go_wp2
        go_roundw
        case rel => exact ⟨m + 1 + 1, by omega, by omega, by go_num, hold', by (repeat' (first | with_reducible exact Below.refl _ _ | with_reducible refine Below.ext ?_ ?_ _ | with_reducible refine Below.alloc ?_ ?_ _ | with_reducible refine Below.setCell ?_ ?_ _ | with_reducible refine Below.drew ?_ | with_reducible assumption | (simp [World.size_ext]; done) | (simp [World.size_ext]; omega)))⟩
        case measure => simp [intOf]; omega
    · have hR : Rise l := rise_of fun i p q hp hq => hold i p q (by have := (List.getElem?_eq_some_iff.1 hq).1; omega) hp hq
      have cj : decide ((j : Int) < (n : Int)) = false := by simp; omega
      have cj' : decide (j < n) = false := by simp; omega
      clear hold hj hr
      go_wp2
      go_ret
      exact ⟨_, rfl, fun _ => hR, hbel⟩
set_option maxHeartbeats 1000000 in
theorem same_any (A A' : Option Addr) (n c c' : Nat) (l : List (Int × Int)) (w : World) (hr : Reads w w.heap.size 2 A n (smps l)) (hr' : Reads w w.heap.size 2 A' n (smps l)) (hn : n * 16 ≤ 140737488355328) :
    Calls Try.prog 16 #[.slice A n c, .slice A' n c'] w fun e w' => e = .returned (.bool true) ∧ Below w.heap.size w w' := by
  have hlen : l.length = n := by have := hr.1; rw [smps_length] at this; omega
  go_enter Try.func16, Try.ntmps16
  go_wp2
  go_loopw [5] (fun s wr => ∃ j : Nat, j ≤ n ∧ s = .int .i64 (j : Int) ∧ Below w.heap.size w wr) (fun s _ => ((n : Int) - intOf s).toNat)
  case atStart => exact ⟨0, by omega, rfl, Below.refl _ _⟩
  case round =>
    obtain ⟨j, hj, rfl, hbel⟩ := hrel
    have hsz := hbel.size
    by_cases hlt : j < n
    · obtain ⟨x, hx⟩ : ∃ x, l[j]? = some x := ⟨l[j]'(by omega), List.getElem?_eq_getElem (by omega)⟩
      obtain ⟨b, o, rfl, hb, hc⟩ := hr.plain (by omega) (by omega)
      obtain ⟨b', o', rfl, hb', hc'⟩ := hr'.plain (by omega) (by omega)
      have m1 : wr.cell? ⟨b, o + j * 2, none⟩ = some (.int .i64 x.1) := by rw [hbel.cell (p := ⟨b, _, none⟩) hb]; exact hc _ _ (smps_get l j _ hx).1
      have m2 : wr.cell? ⟨b, o + j * 2 + 1, none⟩ = some (.int .i64 x.2) := by rw [hbel.cell (p := ⟨b, _, none⟩) hb, Nat.add_assoc]; exact hc _ _ (smps_get l j _ hx).2
      have m3 : wr.cell? ⟨b', o' + j * 2, none⟩ = some (.int .i64 x.1) := by rw [hbel.cell (p := ⟨b', _, none⟩) hb']; exact hc' _ _ (smps_get l j _ hx).1
      have m4 : wr.cell? ⟨b', o' + j * 2 + 1, none⟩ = some (.int .i64 x.2) := by rw [hbel.cell (p := ⟨b', _, none⟩) hb', Nat.add_assoc]; exact hc' _ _ (smps_get l j _ hx).2
      have k1 : b < wr.heap.size := by omega
      have k2 : b' < wr.heap.size := by omega
      clear hc hc' hx hr hr'
      go_wp2
      refine wp_region_ext_lit (by kernel_rfl) (by kernel_rfl) ?_
      (repeat (quiet_step (skip)))
      refine wpQuiet_nil ?_; intro _ hw'; obtain ⟨X, hw''⟩ := hw'; subst hw''
      go_wp2
      go_roundw
      case rel => exact ⟨j + 1, by omega, by go_num, by (repeat' (first | with_reducible exact Below.refl _ _ | with_reducible refine Below.ext ?_ ?_ _ | with_reducible refine Below.alloc ?_ ?_ _ | with_reducible refine Below.setCell ?_ ?_ _ | with_reducible refine Below.drew ?_ | with_reducible assumption | (simp [World.size_ext]; done) | (simp [World.size_ext]; omega)))⟩
      case measure => simp [intOf]; omega
    · obtain rfl : j = n := by omega
      clear hlt
      go_wp2
      go_ret
      exact ⟨rfl, hbel⟩
end Go.Proofs.Ytijegnhkkgdihaa
