import Derived.Test.YtijegnhkkgdihaaTally2
/-! The document's sum of numbers, digit by digit. -/
namespace Go.Proofs.Ytijegnhkkgdihaa
open Go.RowKit
set_option linter.unusedVariables false
set_option linter.unusedSimpArgs false
def i64s (l : List Int) : List Value := l.map fun x => .int .i64 x
theorem i64s_length (l : List Int) : (i64s l).length = l.length := by simp [i64s]
theorem i64s_append (l m : List Int) : i64s (l ++ m) = i64s l ++ i64s m := by simp [i64s]
theorem i64s_get (l : List Int) (i : Nat) (x : Int) (h : l[i]? = some x) : (i64s l)[i]? = some (.int .i64 x) := by simp [i64s, h]
theorem i64s_set (l : List Int) (i : Nat) (x : Int) : (i64s l).toArray.setIfInBounds i (.int .i64 x) = (i64s (l.set i x)).toArray := by simp [i64s, List.map_set]
def dv : List Int → Int
  | [] => 0
  | d :: D => d + 65536 * dv D
theorem dv_set : ∀ (D : List Int) (k : Nat) (x y : Int), D[k]? = some x → dv (D.set k y) = dv D + (y - x) * 65536 ^ k
  | d :: D, 0, x, y, h => by
    simp only [List.getElem?_cons_zero, Option.some.injEq] at h
    subst h
    simp [dv]
    omega
  | d :: D, k + 1, x, y, h => by
    have := dv_set D k x y (by simpa using h)
    simp only [List.set_cons_succ, dv, this, Int.pow_succ]
    rw [Int.mul_add, ← Int.add_assoc, Int.mul_comm (65536 ^ k) 65536, Int.mul_left_comm]
def sumI : List Int → Int
  | [] => 0
  | p :: l => p + sumI l
theorem sumI_append : ∀ l m : List Int, sumI (l ++ m) = sumI l + sumI m
  | [], m => by simp [sumI]
  | p :: l, m => by simp [sumI, sumI_append l m]; omega
theorem sumI_snoc (l : List Int) (p : Int) : sumI (l ++ [p]) = sumI l + p := by simp [sumI_append, sumI]
def In64 (l : List Int) : Prop := ∀ p ∈ l, -9223372036854775808 ≤ p ∧ p ≤ 9223372036854775807
/-- Digits while they are gathered: those ahead of a place lie in one span, the others in another. -/
def Dg (D : List Int) (k : Nat) (a b A B : Int) : Prop := D.length = 8 ∧ ∀ i x, D[i]? = some x → (4 ≤ i → x = 0) ∧ (i < k → a ≤ x ∧ x ≤ b) ∧ (k ≤ i → A ≤ x ∧ x ≤ B)
theorem Dg.step {D : List Int} {k : Nat} {a b A B y : Int} (h : Dg D k a b A B) (hk : k < 4) (hy : a ≤ y ∧ y ≤ b) : Dg (D.set k y) (k + 1) a b A B := by
  refine ⟨by rw [List.length_set]; exact h.1, fun i x hx => ?_⟩
  by_cases e : k = i
  · subst e
    rw [List.getElem?_set_self (by rw [h.1]; omega)] at hx
    obtain rfl := Option.some.inj hx
    exact ⟨by omega, by omega, by omega⟩
  · rw [List.getElem?_set_ne e] at hx
    have := h.2 i x hx
    exact ⟨this.1, fun hi => this.2.1 (by omega), fun hi => this.2.2 (by omega)⟩
theorem Dg.next {D : List Int} {a b A B a' b' : Int} (h : Dg D 4 a b A B) (ha : a ≤ 0) (hb : 0 ≤ b) : Dg D 0 a' b' a b :=
  ⟨h.1, fun i x hx => ⟨(h.2 i x hx).1, by omega, fun _ => by
    by_cases hi : 4 ≤ i
    · have := (h.2 i x hx).1 hi
      omega
    · exact (h.2 i x hx).2.1 (by omega)⟩⟩
/-- Digits while they are carried. -/
def Dc (D : List Int) (k : Nat) : Prop := D.length = 8 ∧ ∀ i x, D[i]? = some x → (i < k → 0 ≤ x ∧ x < 65536) ∧ (i = k → -68719476736 ≤ x ∧ x ≤ 68719476736) ∧ (k < i → -17179869184 ≤ x ∧ x ≤ 17179869184)
theorem Dc.step {D : List Int} {k : Nat} {x y : Int} (h : Dc D k) (hk : k < 7) (hx : D[k]? = some x) (hy : D[k + 1]? = some y) :
    Dc ((D.set k (x - x / 65536 * 65536)).set (k + 1) (y + x / 65536)) (k + 1) ∧ dv ((D.set k (x - x / 65536 * 65536)).set (k + 1) (y + x / 65536)) = dv D := by
  have bx := (h.2 k x hx).2.1 rfl
  have by_ := (h.2 (k + 1) y hy).2.2 (by omega)
  constructor
  · refine ⟨by rw [List.length_set, List.length_set]; exact h.1, fun i z hz => ?_⟩
    by_cases e : k + 1 = i
    · subst e
      rw [List.getElem?_set_self (by rw [List.length_set, h.1]; omega)] at hz
      obtain rfl := Option.some.inj hz
      exact ⟨by omega, by omega, by omega⟩
    · rw [List.getElem?_set_ne e] at hz
      by_cases e' : k = i
      · subst e'
        rw [List.getElem?_set_self (by rw [h.1]; omega)] at hz
        obtain rfl := Option.some.inj hz
        exact ⟨by omega, by omega, by omega⟩
      · rw [List.getElem?_set_ne e'] at hz
        have := h.2 i z hz
        exact ⟨fun hi => this.1 (by omega), by omega, fun hi => this.2.2 (by omega)⟩
  · rw [dv_set _ (k + 1) y _ (by rw [List.getElem?_set_ne (by omega)]; exact hy), dv_set _ k x _ hx, Int.pow_succ]
    have e1 : (x - x / 65536 * 65536 - x) * (65536 : Int) ^ k = -(x / 65536 * (65536 ^ k * 65536)) := by
      rw [show x - x / 65536 * 65536 - x = -(x / 65536 * 65536) by omega, Int.neg_mul, Int.mul_assoc, Int.mul_comm (65536 ^ k) 65536]
    have e2 : (y + x / 65536 - y) * ((65536 : Int) ^ k * 65536) = x / 65536 * (65536 ^ k * 65536) := by rw [show y + x / 65536 - y = x / 65536 by omega]
    rw [e1, e2]
    omega
theorem len8 {α : Type} : ∀ (D : List α), D.length = 8 → ∃ a b c d e f g h, D = [a, b, c, d, e, f, g, h]
  | [a, b, c, d, e, f, g, h], _ => ⟨a, b, c, d, e, f, g, h, rfl⟩
theorem quo_low (x : Int) (h : x.tmod 65536 < 0) : x.tdiv 65536 - 1 = x / 65536 := by
  by_cases hx : 0 ≤ x
  · rw [Int.tmod_eq_emod_of_nonneg hx] at h
    omega
  · obtain ⟨m, rfl⟩ : ∃ m, x = -m := ⟨-x, by omega⟩
    rw [Int.neg_tmod, Int.tmod_eq_emod_of_nonneg (by omega)] at h
    rw [Int.neg_tdiv, Int.tdiv_eq_ediv_of_nonneg (by omega)]
    omega
theorem quo_up (x : Int) (h : ¬x.tmod 65536 < 0) : x.tdiv 65536 = x / 65536 := by
  by_cases hx : 0 ≤ x
  · exact Int.tdiv_eq_ediv_of_nonneg hx
  · obtain ⟨m, rfl⟩ : ∃ m, x = -m := ⟨-x, by omega⟩
    rw [Int.neg_tmod, Int.tmod_eq_emod_of_nonneg (by omega)] at h
    rw [Int.neg_tdiv, Int.tdiv_eq_ediv_of_nonneg (by omega)]
    omega
theorem Dg.zero : Dg [0, 0, 0, 0, 0, 0, 0, 0] 0 0 0 0 (65535 * ((0 : Nat) : Int)) := ⟨rfl, fun i x hx => by
  have : x ∈ [(0 : Int), 0, 0, 0, 0, 0, 0, 0] := List.mem_of_getElem? hx
  simp at this
  subst this
  simp⟩
theorem mod_up (U k : Nat) : U % 65536 ^ (k + 1) = U % 65536 ^ k + U / 65536 ^ k % 65536 * 65536 ^ k := by
  rw [Nat.pow_succ, Nat.mod_mul, Nat.mul_comm (65536 ^ k)]
theorem dv_more (E : List Int) (k U : Nat) (x : Int) (hx : E[k]? = some x) (t : Int) (W : Int) (h : dv E = W + t * ((U % 65536 ^ k : Nat) : Int)) :
    dv (E.set k (x + t * ((U / 65536 ^ k % 65536 : Nat) : Int))) = W + t * ((U % 65536 ^ (k + 1) : Nat) : Int) := by
  rw [dv_set _ _ _ _ hx, h, mod_up, Int.natCast_add, Int.natCast_mul, Int.natCast_pow, Int.mul_add]
  rw [show x + t * ((U / 65536 ^ k % 65536 : Nat) : Int) - x = t * ((U / 65536 ^ k % 65536 : Nat) : Int) by omega, Int.mul_assoc]
  rw [show (((65536 : Nat) : Int)) = 65536 from rfl]
  omega
theorem carry_low (x z : Int) (h : x.tmod 65536 < 0) (hx : -68719476736 ≤ x ∧ x ≤ 68719476736) (hz : -17179869184 ≤ z ∧ z ≤ 17179869184) :
    wrap64 (x - wrap64 (wrap64 (x.tdiv 65536 - 1) * 65536)) = x - x / 65536 * 65536 ∧ wrap64 (z + wrap64 (x.tdiv 65536 - 1)) = z + x / 65536 := by
  rw [quo_low x h]
  unfold wrap64
  omega
theorem carry_up (x z : Int) (h : 0 ≤ x.tmod 65536) (hx : -68719476736 ≤ x ∧ x ≤ 68719476736) (hz : -17179869184 ≤ z ∧ z ≤ 17179869184) :
    wrap64 (x - wrap64 (x.tdiv 65536 * 65536)) = x - x / 65536 * 65536 ∧ wrap64 (z + x.tdiv 65536) = z + x / 65536 := by
  rw [quo_up x (by omega)]
  unfold wrap64
  omega
def totA (p m : List Int) : Int × Bool := if -9223372036854775808 ≤ sumI p - sumI m ∧ sumI p - sumI m ≤ 9223372036854775807 then (sumI p - sumI m, true) else (0, false)
set_option maxRecDepth 100000 in
set_option maxHeartbeats 1000000 in
theorem total_any (A A' : Option Addr) (n c n' c' : Nat) (p m : List Int) (w : World) (hr : Reads w w.heap.size 1 A n (i64s p)) (hr' : Reads w w.heap.size 1 A' n' (i64s m)) (hp : In64 p) (hm : In64 m) (hn : n ≤ 65536) (hn' : n' ≤ 1) :
    Calls Try.prog 20 #[.slice A n c, .slice A' n' c'] w fun e w' => e = .returned (.tuple #[.int .i64 (totA p m).1, .bool (totA p m).2]) ∧ Below w.heap.size w w' := by
  have hlp : p.length = n := by have := hr.1; rw [i64s_length] at this; omega
  have hlm : m.length = n' := by have := hr'.1; rw [i64s_length] at this; omega
  have b0 : Below w.heap.size w (w.alloc (.cells (i64s [0, 0, 0, 0, 0, 0, 0, 0]).toArray 62)) := (Below.refl _ _).alloc (Nat.le_refl _) _
  have k0 : Blk (w.alloc (.cells (i64s [0, 0, 0, 0, 0, 0, 0, 0]).toArray 62)) w.heap.size 62 (i64s [0, 0, 0, 0, 0, 0, 0, 0]).toArray := Blk.new _ _ _
  go_enter Try.func20, Try.ntmps20
  go_wp2
  go_loopw [7] (fun s wr => ∃ (j : Nat) (D : List Int), j ≤ n ∧ s = .int .i64 (j : Int) ∧ Dg D 0 0 0 0 (65535 * j) ∧ dv D = sumI (p.take j) + 9223372036854775808 * j ∧ Blk wr w.heap.size 62 (i64s D).toArray ∧ Below w.heap.size w wr) (fun s _ => ((n : Int) - intOf s).toNat)
  case atStart => exact ⟨0, [0, 0, 0, 0, 0, 0, 0, 0], by omega, rfl, Dg.zero, rfl, k0, b0⟩
  case round =>
    obtain ⟨j, D, hj, rfl, hD, hV, hB, hbel⟩ := hrel
    by_cases hlt : j < n
    · obtain ⟨x, hg⟩ : ∃ x, p[j]? = some x := ⟨p[j]'(by omega), List.getElem?_eq_getElem (by omega)⟩
      obtain ⟨b, o, rfl, hb, hc⟩ := hr.plain (by omega) (by omega)
      have m1 : wr.cell? ⟨b, o + j, none⟩ = some (.int .i64 x) := by rw [hbel.cell (p := ⟨b, _, none⟩) hb]; exact hc _ _ (i64s_get p j _ hg)
      have hx := hp x (List.mem_of_getElem? hg)
      obtain ⟨U, hU, hUlt⟩ : ∃ U : Nat, Hid ((U : Int) = x + 9223372036854775808) ∧ U < 18446744073709551616 := ⟨(x + 9223372036854775808).toNat, show _ = _ by omega, by omega⟩
      have hbel1 := hbel
      have hB1 := hB
      go_wp2
      go_loopw [8, 9] (fun u s wi => ∃ (k : Nat) (E : List Int) (q : Nat), k ≤ 4 ∧ s = .int .i64 (k : Int) ∧ u = .int .u64 (q : Int) ∧ Hid (q = U / 65536 ^ k) ∧ Dg E k 0 (65535 * (j + 1)) 0 (65535 * j) ∧ Hid (dv E = dv D + 1 * ((U % 65536 ^ k : Nat) : Int)) ∧ Blk wi w.heap.size 62 (i64s E).toArray ∧ Below w.heap.size w wi) (fun _ s _ => ((4 : Int) - intOf s).toNat)
      case atStart => exact ⟨0, D, U, by omega, rfl, by have := hU.out; congr 1; unfold IntKind.wrap; simp [IntKind.signed, IntKind.bits]; omega, show _ = _ by simp, ⟨hD.1, fun i x hx => by have := hD.2 i x hx; omega⟩, show _ = _ by simp [Nat.mod_one], hB1, hbel1⟩
      case round =>
        clear hB1 hbel1 hc hr m1 hr' hD
        obtain ⟨k, E, q, hk, rfl, rfl, hq, hE, hW, hB, hbel⟩ := hrel
        have f1 := hB.frozen
        have hq0 : (0 : Int) ≤ q := by omega
        by_cases hk4 : k < 4
        · obtain ⟨y, hy⟩ : ∃ y, E[k]? = some y := ⟨E[k]'(by rw [hE.1]; omega), List.getElem?_eq_getElem (by rw [hE.1]; omega)⟩
          have m1 : wr.cell? ⟨w.heap.size, k, none⟩ = some (.int .i64 y) := by rw [hB.cell]; simpa using i64s_get E k y hy
          have hy' := (hE.2 k y hy).2.2 (Nat.le_refl _)
          have hqU : q < 18446744073709551616 := by rw [hq.out]; exact Nat.lt_of_le_of_lt (Nat.div_le_self _ _) hUlt
          have hBk : Hid (Blk (wr.setCell ⟨w.heap.size, k, none⟩ (.int .i64 (y + 1 * ((q % 65536 : Nat) : Int)))) w.heap.size 62 (i64s (E.set k (y + 1 * ((q % 65536 : Nat) : Int)))).toArray) := by
            have := hB.set_ k (.int .i64 (y + 1 * ((q % 65536 : Nat) : Int)))
            rw [i64s_set] at this
            exact this
          go_wp2
          go_roundw
          case rel => exact ⟨k + 1, E.set k (y + 1 * ((q % 65536 : Nat) : Int)), q / 65536, by omega, by go_num, by go_num, show _ = _ by rw [hq.out, Nat.pow_succ, Nat.div_div_eq_div_mul], hE.step hk4 (by omega), show _ = _ by rw [hq.out]; exact dv_more E k U y hy 1 _ hW.out, by rw [show y + (q : Int) % 65536 = y + 1 * ((q % 65536 : Nat) : Int) by omega]; exact hBk.out, hbel.setCell (Nat.le_refl _) _⟩
          case measure => simp [intOf]; omega
        · obtain rfl : k = 4 := by omega
          have hW' : Hid (dv E = sumI (p.take (j + 1)) + 9223372036854775808 * ((j + 1 : Nat) : Int)) := by
            show _ = _
            have h1 := hW.out
            have h2 := hU.out
            rw [Nat.mod_eq_of_lt (show U < 65536 ^ 4 by omega), hV] at h1
            rw [List.take_add_one, hg, h1, h2]
            simp only [Option.toList, sumI_snoc]
            omega
          have hE' : Dg E 0 0 0 0 (65535 * ((j + 1 : Nat) : Int)) := hE.next (by omega) (by omega)
          clear hW hq
          go_wp2
          go_roundw
          case rel => exact ⟨j + 1, E, by omega, by go_num, hE', hW'.out, hB, hbel⟩
          case measure => simp [intOf]; omega
    · obtain rfl : j = n := by omega
      rw [List.take_of_length_le (by omega)] at hV
      clear hlt hr b0 k0
      have hD2 : Dg D 0 0 0 (-(65535 * ((0 : Nat) : Int))) (65535 * 65536) := ⟨hD.1, fun i x hx => by have := hD.2 i x hx; omega⟩
      clear hD
      obtain ⟨wo, rfl⟩ : ∃ wo : World, wo = wr := ⟨_, rfl⟩
      go_wp2
      go_loopw [10] (fun s wr => ∃ (i : Nat) (D : List Int), i ≤ n' ∧ s = .int .i64 (i : Int) ∧ Dg D 0 0 0 (-(65535 * (i : Int))) (65535 * 65536) ∧ dv D = sumI p + 9223372036854775808 * j - sumI (m.take i) - 9223372036854775808 * i ∧ Blk wr w.heap.size 62 (i64s D).toArray ∧ Below w.heap.size w wr) (fun s _ => ((n' : Int) - intOf s).toNat)
      case atStart => exact ⟨0, D, by omega, rfl, hD2, by simp [sumI, hV], hB, hbel⟩
      case round =>
        clear hD2 hV hB hbel D
        obtain ⟨i, D, hi, rfl, hD, hV, hB, hbel⟩ := hrel
        by_cases hlt : i < n'
        · obtain ⟨x, hg⟩ : ∃ x, m[i]? = some x := ⟨m[i]'(by omega), List.getElem?_eq_getElem (by omega)⟩
          obtain ⟨b, o, rfl, hb, hc⟩ := hr'.plain (by omega) (by omega)
          have m1 : wr.cell? ⟨b, o + i, none⟩ = some (.int .i64 x) := by rw [hbel.cell (p := ⟨b, _, none⟩) hb]; exact hc _ _ (i64s_get m i _ hg)
          have hx := hm x (List.mem_of_getElem? hg)
          obtain ⟨U, hU, hUlt⟩ : ∃ U : Nat, Hid ((U : Int) = x + 9223372036854775808) ∧ U < 18446744073709551616 := ⟨(x + 9223372036854775808).toNat, show _ = _ by omega, by omega⟩
          have hbel1 := hbel
          have hB1 := hB
          go_wp2
          go_loopw [11, 12] (fun u s wi => ∃ (k : Nat) (E : List Int) (q : Nat), k ≤ 4 ∧ s = .int .i64 (k : Int) ∧ u = .int .u64 (q : Int) ∧ Hid (q = U / 65536 ^ k) ∧ Dg E k (-(65535 * (i + 1))) (65535 * 65536) (-(65535 * i)) (65535 * 65536) ∧ Hid (dv E = dv D + -1 * ((U % 65536 ^ k : Nat) : Int)) ∧ Blk wi w.heap.size 62 (i64s E).toArray ∧ Below w.heap.size w wi) (fun _ s _ => ((4 : Int) - intOf s).toNat)
          case atStart => exact ⟨0, D, U, by omega, rfl, by have := hU.out; congr 1; unfold IntKind.wrap; simp [IntKind.signed, IntKind.bits]; omega, show _ = _ by simp, ⟨hD.1, fun i x hx => by have := hD.2 i x hx; omega⟩, show _ = _ by simp [Nat.mod_one], hB1, hbel1⟩
          case round =>
            clear hB1 hbel1 hc hr' m1 hD
            obtain ⟨k, E, q, hk, rfl, rfl, hq, hE, hW, hB, hbel⟩ := hrel
            have f1 := hB.frozen
            have hq0 : (0 : Int) ≤ q := by omega
            by_cases hk4 : k < 4
            · obtain ⟨y, hy⟩ : ∃ y, E[k]? = some y := ⟨E[k]'(by rw [hE.1]; omega), List.getElem?_eq_getElem (by rw [hE.1]; omega)⟩
              have m1 : wr.cell? ⟨w.heap.size, k, none⟩ = some (.int .i64 y) := by rw [hB.cell]; simpa using i64s_get E k y hy
              have hy' := (hE.2 k y hy).2.2 (Nat.le_refl _)
              have hqU : q < 18446744073709551616 := by rw [hq.out]; exact Nat.lt_of_le_of_lt (Nat.div_le_self _ _) hUlt
              have hBk : Hid (Blk (wr.setCell ⟨w.heap.size, k, none⟩ (.int .i64 (y + -1 * ((q % 65536 : Nat) : Int)))) w.heap.size 62 (i64s (E.set k (y + -1 * ((q % 65536 : Nat) : Int)))).toArray) := by
                have := hB.set_ k (.int .i64 (y + -1 * ((q % 65536 : Nat) : Int)))
                rw [i64s_set] at this
                exact this
              go_wp2
              go_roundw
              case rel => exact ⟨k + 1, E.set k (y + -1 * ((q % 65536 : Nat) : Int)), q / 65536, by omega, by go_num, by go_num, show _ = _ by rw [hq.out, Nat.pow_succ, Nat.div_div_eq_div_mul], hE.step hk4 (by omega), show _ = _ by rw [hq.out]; exact dv_more E k U y hy (-1) _ hW.out, by rw [show y - (q : Int) % 65536 = y + -1 * ((q % 65536 : Nat) : Int) by omega]; exact hBk.out, hbel.setCell (Nat.le_refl _) _⟩
              case measure => simp [intOf]; omega
            · obtain rfl : k = 4 := by omega
              have hW' : Hid (dv E = sumI p + 9223372036854775808 * j - sumI (m.take (i + 1)) - 9223372036854775808 * ((i + 1 : Nat) : Int)) := by
                show _ = _
                have h1 := hW.out
                have h2 := hU.out
                rw [Nat.mod_eq_of_lt (show U < 65536 ^ 4 by omega), hV] at h1
                rw [List.take_add_one, hg, h1, h2]
                simp only [Option.toList, sumI_snoc]
                omega
              have hE' : Dg E 0 0 0 (-(65535 * ((i + 1 : Nat) : Int))) (65535 * 65536) := by have := hE.next (a' := 0) (b' := 0) (by omega) (by omega); simpa using this
              clear hW hq
              go_wp2
              go_roundw
              case rel => exact ⟨i + 1, E, by omega, by go_num, hE', hW'.out, hB, hbel⟩
              case measure => simp [intOf]; omega
        · obtain rfl : i = n' := by omega
          rw [List.take_of_length_le (by omega)] at hV
          clear hlt hr'
          have f1 := hB.frozen
          obtain ⟨y, hy⟩ : ∃ y, D[3]? = some y := ⟨D[3]'(by rw [hD.1]; omega), List.getElem?_eq_getElem (by rw [hD.1]; omega)⟩
          have m1 : wr.cell? ⟨w.heap.size, 3, none⟩ = some (.int .i64 y) := by rw [hB.cell]; simpa using i64s_get D 3 y hy
          have hy' := (hD.2 3 y hy).2.2 (by omega)
          have hV2 : Hid (dv (D.set 3 (y - 32768 * ((j : Int) - (i : Int) - 1))) = sumI p - sumI m + 9223372036854775808) := by
            show _ = _
            rw [dv_set _ _ _ _ hy, hV]
            omega
          have hDc : Dc (D.set 3 (y - 32768 * ((j : Int) - (i : Int) - 1))) 0 := by
            refine ⟨by rw [List.length_set]; exact hD.1, fun i' x hx => ?_⟩
            by_cases e : 3 = i'
            · subst e
              rw [List.getElem?_set_self (by rw [hD.1]; omega)] at hx
              obtain rfl := Option.some.inj hx
              omega
            · rw [List.getElem?_set_ne e] at hx
              have := hD.2 i' x hx
              omega
          have hBk : Hid (Blk (wr.setCell ⟨w.heap.size, 3, none⟩ (.int .i64 (y - 32768 * ((j : Int) - (i : Int) - 1)))) w.heap.size 62 (i64s (D.set 3 (y - 32768 * ((j : Int) - (i : Int) - 1)))).toArray) := by
            have := hB.set_ 3 (.int .i64 (y - 32768 * ((j : Int) - (i : Int) - 1)))
            rw [i64s_set] at this
            exact this
          go_wp2
          go_loopw [14] (fun s wr => ∃ (k : Nat) (D : List Int), k ≤ 7 ∧ s = .int .i64 (k : Int) ∧ Dc D k ∧ Hid (dv D = sumI p - sumI m + 9223372036854775808) ∧ Blk wr w.heap.size 62 (i64s D).toArray ∧ Below w.heap.size w wr) (fun s _ => ((7 : Int) - intOf s).toNat)
          case atStart => exact ⟨0, _, by omega, rfl, hDc, hV2, hBk.out, hbel.setCell (Nat.le_refl _) _⟩
          case round =>
            clear hDc hV2 hBk hB hbel hy m1 hD hV f1
            obtain ⟨k, E, hk, rfl, hE, hW, hB, hbel⟩ := hrel
            have f1 := hB.frozen
            by_cases hk7 : k < 7
            · obtain ⟨x, hx⟩ : ∃ x, E[k]? = some x := ⟨E[k]'(by rw [hE.1]; omega), List.getElem?_eq_getElem (by rw [hE.1]; omega)⟩
              obtain ⟨z, hz⟩ : ∃ z, E[k + 1]? = some z := ⟨E[k + 1]'(by rw [hE.1]; omega), List.getElem?_eq_getElem (by rw [hE.1]; omega)⟩
              have m1 : wr.cell? ⟨w.heap.size, k, none⟩ = some (.int .i64 x) := by rw [hB.cell]; simpa using i64s_get E k x hx
              have m2 : wr.cell? ⟨w.heap.size, k + 1, none⟩ = some (.int .i64 z) := by rw [hB.cell]; simpa using i64s_get E (k + 1) z hz
              have bx := (hE.2 k x hx).2.1 rfl
              have bz := (hE.2 (k + 1) z hz).2.2 (by omega)
              have hs := hE.step hk7 hx hz
              have hBk : Hid (Blk ((wr.setCell ⟨w.heap.size, k, none⟩ (.int .i64 (x - x / 65536 * 65536))).setCell ⟨w.heap.size, k + 1, none⟩ (.int .i64 (z + x / 65536))) w.heap.size 62 (i64s ((E.set k (x - x / 65536 * 65536)).set (k + 1) (z + x / 65536))).toArray) := by
                have := (hB.set_ k (.int .i64 (x - x / 65536 * 65536))).set_ (k + 1) (.int .i64 (z + x / 65536))
                rw [i64s_set, i64s_set] at this
                exact this
              go_wp2
              · rename_i hneg
                obtain ⟨e1, e2⟩ := carry_low x z hneg bx bz
                rw [e1, e2]
                clear e1 e2
                go_roundw
                case rel => exact ⟨k + 1, _, by omega, by go_num, hs.1, show _ = _ by rw [hs.2]; exact hW.out, hBk.out, (hbel.setCell (Nat.le_refl _) _).setCell (Nat.le_refl _) _⟩
                case measure => simp [intOf]; omega
              · rename_i hneg
                obtain ⟨e1, e2⟩ := carry_up x z hneg bx bz
                rw [e1, e2]
                clear e1 e2
                go_roundw
                case rel => exact ⟨k + 1, _, by omega, by go_num, hs.1, show _ = _ by rw [hs.2]; exact hW.out, hBk.out, (hbel.setCell (Nat.le_refl _) _).setCell (Nat.le_refl _) _⟩
                case measure => simp [intOf]; omega
            · obtain rfl : k = 7 := by omega
              clear hk7
              obtain ⟨d0, d1, d2, d3, d4, d5, d6, d7, rfl⟩ := len8 E hE.1
              have q0 := (hE.2 0 _ rfl).1 (by omega)
              have q1 := (hE.2 1 _ rfl).1 (by omega)
              have q2 := (hE.2 2 _ rfl).1 (by omega)
              have q3 := (hE.2 3 _ rfl).1 (by omega)
              have q4 := (hE.2 4 _ rfl).1 (by omega)
              have q5 := (hE.2 5 _ rfl).1 (by omega)
              have q6 := (hE.2 6 _ rfl).1 (by omega)
              have m0 : ∀ i, wr.cell? ⟨w.heap.size, i, none⟩ = (i64s [d0, d1, d2, d3, d4, d5, d6, d7]).toArray[i]? := hB.cell
              have m1 := m0 0
              have m2 := m0 1
              have m3 := m0 2
              have m4 := m0 3
              have m5 := m0 4
              have m6 := m0 5
              have m7 := m0 6
              have m8 := m0 7
              simp [i64s] at m1 m2 m3 m4 m5 m6 m7 m8
              clear m0 hE f1 hB
              have hW : Hid (d0 + 65536 * (d1 + 65536 * (d2 + 65536 * (d3 + 65536 * (d4 + 65536 * (d5 + 65536 * (d6 + 65536 * d7)))))) = sumI p - sumI m + 9223372036854775808) := by
                have := hW.out
                simp only [dv, Int.mul_zero, Int.add_zero] at this
                exact this
              by_cases hz : d4 = 0 ∧ d5 = 0 ∧ d6 = 0 ∧ d7 = 0
              · obtain ⟨rfl, rfl, rfl, rfl⟩ := hz
                have hS : totA p m = (sumI p - sumI m, true) := by
                  have := hW.out
                  unfold totA
                  rw [if_pos (by omega)]
                clear q4 q5 q6
                go_wp2
                go_loopw [16, 17] (fun u s wi => ∃ k : Nat, k ≤ 4 ∧ s = .int .i64 (3 - (k : Int)) ∧ u = .int .u64 (dv ([d0, d1, d2, d3].drop (4 - k))) ∧ wi = wr) (fun _ s _ => (intOf s + 1).toNat)
                case atStart => exact ⟨0, by omega, rfl, rfl, rfl⟩
                case round =>
                  obtain ⟨k, hk, rfl, rfl, rfl⟩ := hrel
                  rcases (show k = 0 ∨ k = 1 ∨ k = 2 ∨ k = 3 ∨ k = 4 by omega) with rfl | rfl | rfl | rfl | rfl
                  · simp only [dv, List.drop]
                    go_wp2
                    go_roundw
                    case rel => exact ⟨1, by omega, by go_num, by simp only [dv, List.drop]; go_num, by first | rfl | trivial⟩
                    case measure => simp [intOf]
                  · simp only [dv, List.drop]
                    go_wp2
                    go_roundw
                    case rel => exact ⟨2, by omega, by go_num, by simp only [dv, List.drop]; go_num, by first | rfl | trivial⟩
                    case measure => simp [intOf]
                  · simp only [dv, List.drop]
                    go_wp2
                    go_roundw
                    case rel => exact ⟨3, by omega, by go_num, by simp only [dv, List.drop]; go_num, by first | rfl | trivial⟩
                    case measure => simp [intOf]
                  · simp only [dv, List.drop]
                    go_wp2
                    go_roundw
                    case rel => exact ⟨4, by omega, by go_num, by simp only [Nat.sub_self, dv, List.drop]; go_num, by first | rfl | trivial⟩
                    case measure => simp [intOf]
                  · go_wp2
                    refine bodyPost_ret (v := _) (by simp [results, Try.results20, go_sem] <;> rfl) rfl ⟨?_, by (repeat' (first | with_reducible exact Below.refl _ _ | with_reducible refine Below.ext ?_ ?_ _ | with_reducible refine Below.alloc ?_ ?_ _ | with_reducible refine Below.setCell ?_ ?_ _ | with_reducible refine Below.drew ?_ | with_reducible assumption | (simp [World.size_ext]; done) | (simp [World.size_ext]; omega)))⟩
                    rw [hS]
                    have hW1 := hW.out
                    have e : wrap64 (IntKind.u64.wrap (dv [d0, d1, d2, d3] - 9223372036854775808)) = sumI p - sumI m := by
                      simp only [dv]
                      unfold wrap64 IntKind.wrap
                      simp only [IntKind.signed, IntKind.bits]
                      simp
                      omega
                    rw [e]
              · have hS : totA p m = (0, false) := by
                  have := hW.out
                  unfold totA
                  rw [if_neg (by omega)]
                have hc1 : Hid ((d4 != 0 || (d5 != 0 || (d6 != 0 || d7 != 0))) = true) := by show _ = _; simp; omega
                clear hW
                go_wp2
                all_goals first | (refine bodyPost_ret (v := _) (by simp [results, Try.results20, go_sem] <;> rfl) rfl ⟨?_, by (repeat' (first | with_reducible exact Below.refl _ _ | with_reducible refine Below.ext ?_ ?_ _ | with_reducible refine Below.alloc ?_ ?_ _ | with_reducible refine Below.setCell ?_ ?_ _ | with_reducible refine Below.drew ?_ | with_reducible assumption | (simp [World.size_ext]; done) | (simp [World.size_ext]; omega)))⟩; rw [hS]) | (exfalso; simp_all; done)
end Go.Proofs.Ytijegnhkkgdihaa
