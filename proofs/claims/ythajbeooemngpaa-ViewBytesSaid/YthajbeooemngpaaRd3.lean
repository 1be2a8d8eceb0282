import Derived.Test.YthajbeooemngpaaRd2
import Derived.Test.YthajbeooemngpaaWire2
/-! The wire's reader: numbers below 0, truths, counts, the error, the end. -/
namespace Go.Proofs.Ythajbeooemngpaa
open Go.RowKit
set_option linter.unusedVariables false
set_option linter.unusedSimpArgs false
/-- A number without a sign as one with. -/
def zag (n : Nat) : Int := if n % 2 = 0 then (n / 2 : Nat) else -((n / 2 : Nat) : Int) - 1
theorem zag_zig (a : Int) : zag (zig a) = a := by
  unfold zag zig
  split <;> split <;> omega
theorem zig_zag (n : Nat) : zig (zag n) = n := by
  unfold zag zig
  split <;> split <;> omega
theorem numP_lt {r : Rest} (h : ∀ x ∈ r.xs, x < 256) : (numP r).1 < 18446744073709551616 := by
  obtain ⟨xs, e⟩ := r
  by_cases h0 : e = 0
  · subst h0
    match xs, h with
    | [], h => rw [numP_short]; simp
    | x :: t, h =>
      have hx : x < 256 := h x (by simp)
      by_cases hl : x < 248
      · rw [numP_low t hl]; simp only; omega
      · by_cases hs : x - 247 ≤ t.length
        · rw [numP_long hl hs]
          split
          · simp
          · simp only
            exact num_lt64 (fun y hy => h y (by simp [List.mem_of_mem_take hy])) (by rw [List.length_take]; omega)
        · rw [numP_short2 hl (by omega)]; simp
  · rw [numP_err h0]; simp
def flagP (r : Rest) : Bool × Rest := (decide ((numP r).1 = 1), if 1 < (numP r).1 then failP 10 (numP r).2 else (numP r).2)
def countP (most : Int) (r : Rest) : Nat × Rest := if most.toNat < (numP r).1 ∨ (most < 0 ∧ (numP r).2.e = 0) then (0, failP 8 (numP r).2) else numP r
theorem xor_zag {n : Nat} (h : n < 18446744073709551616) : bits .xor .i64 ((n : Int) / 2) (wrap64 (-wrap64 (bits .and .u64 (n : Int) 1))) = zag n := by
  have h1 : bits .and .u64 (n : Int) 1 = ((n % 2 : Nat) : Int) := by
    show IntKind.u64.wrap ((BitVec.ofInt 64 (n : Int) &&& BitVec.ofInt 64 1).toNat : Int) = _
    rw [BitVec.ofInt_natCast, show BitVec.ofInt 64 1 = 1#64 by rfl, BitVec.toNat_and, BitVec.toNat_ofNat, Nat.mod_eq_of_lt h, show (1#64).toNat = 1 by rfl, Nat.and_one_is_mod]
    show ((n % 2 : Nat) : Int) % 18446744073709551616 = _
    omega
  rw [h1]
  unfold zag
  rcases Nat.mod_two_eq_zero_or_one n with h2 | h2
  · rw [if_pos h2, h2, show wrap64 (-wrap64 ((0 : Nat) : Int)) = 0 by unfold wrap64; omega]
    show IntKind.i64.wrap ((BitVec.ofInt 64 _ ^^^ BitVec.ofInt 64 0).toNat : Int) = _
    rw [show BitVec.ofInt 64 0 = 0#64 by rfl, BitVec.xor_zero, BitVec.toNat_ofInt]
    simp [IntKind.wrap, IntKind.signed, IntKind.bits]
    omega
  · rw [if_neg (by omega), h2, show wrap64 (-wrap64 ((1 : Nat) : Int)) = -1 by unfold wrap64; omega]
    show IntKind.i64.wrap ((BitVec.ofInt 64 _ ^^^ BitVec.ofInt 64 (-1)).toNat : Int) = _
    rw [show BitVec.ofInt 64 (-1) = BitVec.allOnes 64 by decide, BitVec.xor_allOnes, BitVec.toNat_not, BitVec.toNat_ofInt]
    simp [IntKind.wrap, IntKind.signed, IntKind.bits]
    omega
set_option maxRecDepth 100000 in
theorem rdint_any (g b : Nat) (xs : List Nat) (e : Int) (w : World) (h : Rdr w g b xs e) :
    Calls Try.prog 50 #[.pointer (some ⟨g, 0, none⟩)] w fun e' w' => e' = .returned (.int .i64 (zag (numP ⟨xs, e⟩).1)) ∧ Rdr w' g b (numP ⟨xs, e⟩).2.xs (numP ⟨xs, e⟩).2.e ∧ Only w w' g := by
  have hc := rdnum_any g b xs e w h
  have hlt := numP_lt (r := ⟨xs, e⟩) h.by_
  have hx := xor_zag hlt
  generalize numP ⟨xs, e⟩ = q at *
  obtain ⟨n, q⟩ := q
  simp only at *
  have hn : (n : Int) < 18446744073709551616 := by omega
  generalize zag n = z at *
  go_enter Try.func50, Try.ntmps50
  go_wp2_with (go_at_call 49; (with_reducible refine hc.mono ?_); rintro e w1 ⟨rfl, hr1, ho1⟩)
  go_ret
  exact ⟨by first | rfl | (rw [hx]) | skip, hr1, ho1⟩
set_option maxRecDepth 100000 in
theorem rdflag_any (g b : Nat) (xs : List Nat) (e : Int) (w : World) (h : Rdr w g b xs e) :
    Calls Try.prog 51 #[.pointer (some ⟨g, 0, none⟩)] w fun e' w' => e' = .returned (.bool (flagP ⟨xs, e⟩).1) ∧ Rdr w' g b (flagP ⟨xs, e⟩).2.xs (flagP ⟨xs, e⟩).2.e ∧ Only w w' g := by
  have hc := rdnum_any g b xs e w h
  have hlt := numP_lt (r := ⟨xs, e⟩) h.by_
  unfold flagP
  generalize numP ⟨xs, e⟩ = q at *
  obtain ⟨n, q⟩ := q
  simp only at *
  by_cases h1 : 1 < n
  · have e1 : decide (n = 1) = false := by simp; omega
    rw [if_pos h1, e1]
    have h1' : (1 : Int) < n := by omega
    have h2' : ((n : Int) == 1) = false := by simp; omega
    go_enter Try.func51, Try.ntmps51
    go_wp2_with (first | (go_at_call 49; (with_reducible refine hc.mono ?_); rintro e w1 ⟨rfl, hr1, ho1⟩) | (go_at_call 83; (with_reducible refine (fail_any _ _ _ _ 10 _ hr1).mono ?_); rintro e w2 ⟨rfl, hr2, ho2⟩))
    go_ret
    exact ⟨rfl, hr2, ho1.trans ho2⟩
  · rw [if_neg h1]
    have h1' : (n : Int) ≤ 1 := by omega
    by_cases h2 : n = 1
    · subst h2
      go_enter Try.func51, Try.ntmps51
      go_wp2_with (go_at_call 49; (with_reducible refine hc.mono ?_); rintro e w1 ⟨rfl, hr1, ho1⟩)
      go_ret
      exact ⟨rfl, hr1, ho1⟩
    · obtain rfl : n = 0 := by omega
      go_enter Try.func51, Try.ntmps51
      go_wp2_with (go_at_call 49; (with_reducible refine hc.mono ?_); rintro e w1 ⟨rfl, hr1, ho1⟩)
      go_ret
      exact ⟨rfl, hr1, ho1⟩
theorem rderr_any (g b : Nat) (xs : List Nat) (e : Int) (w : World) (h : Rdr w g b xs e) :
    Calls Try.prog 53 #[.pointer (some ⟨g, 0, none⟩)] w fun e' w' => e' = .returned (.int .i64 e) ∧ w = w' := by
  obtain ⟨⟨A, c, h1, h2, h3, h4⟩, hn⟩ := h
  have c1 := h1.cell
  go_enter Try.func53, Try.ntmps53
  go_wp2
  go_ret
  exact ⟨rfl, rfl⟩
def endP (r : Rest) : Rest := if r.e = 0 ∧ 0 < r.xs.length then failP 10 r else r
set_option maxRecDepth 100000 in
theorem rdend_any (g b : Nat) (xs : List Nat) (e : Int) (w : World) (h : Rdr w g b xs e) :
    Calls Try.prog 54 #[.pointer (some ⟨g, 0, none⟩)] w fun e' w' => e' = .returned (.int .i64 (endP ⟨xs, e⟩).e) ∧ Rdr w' g b (endP ⟨xs, e⟩).xs (endP ⟨xs, e⟩).e ∧ Only w w' g := by
  have hr := h
  obtain ⟨⟨A, c, h1, h2, h3, h4⟩, hn⟩ := h
  have c1 := h1.cell
  unfold endP
  simp only
  by_cases h0 : e = 0
  · subst h0
    by_cases hl : 0 < xs.length
    · rw [if_pos ⟨rfl, hl⟩]
      have hl' : (0 : Int) < xs.length := by omega
      go_enter Try.func54, Try.ntmps54
      go_wp2_with (first | (go_at_call 83; (with_reducible refine (fail_any _ _ _ _ 10 _ hr).mono ?_); rintro e w1 ⟨rfl, hr1, ho1⟩) | (go_at_call 53; (with_reducible refine (rderr_any _ _ _ _ _ hr1).mono ?_); rintro e w2 ⟨rfl, rfl⟩))
      go_ret
      exact ⟨rfl, hr1, ho1⟩
    · rw [if_neg (fun h => hl h.2)]
      have hl' : (xs.length : Int) ≤ 0 := by omega
      go_enter Try.func54, Try.ntmps54
      go_wp2_with (first | (go_at_call 53; (with_reducible refine (rderr_any _ _ _ _ _ hr).mono ?_); rintro e w2 ⟨rfl, rfl⟩))
      go_ret
      exact ⟨rfl, hr, Only.refl _ _⟩
  · rw [if_neg (fun h => h0 h.1)]
    have h0' : (e == 0) = false := by simpa using h0
    go_enter Try.func54, Try.ntmps54
    go_wp2_with (first | (go_at_call 53; (with_reducible refine (rderr_any _ _ _ _ _ hr).mono ?_); rintro e w2 ⟨rfl, rfl⟩))
    go_ret
    exact ⟨rfl, hr, Only.refl _ _⟩
end Go.Proofs.Ythajbeooemngpaa
