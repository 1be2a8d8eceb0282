import Derived.Test.YthajbeooemngpaaRd3
/-! The wire's reader: counts, texts, stamps, a new reader. -/
namespace Go.Proofs.Ythajbeooemngpaa
open Go.RowKit
set_option linter.unusedVariables false
set_option linter.unusedSimpArgs false
set_option maxRecDepth 100000 in
set_option maxHeartbeats 1000000 in
theorem rdcount_any (g b : Nat) (xs : List Nat) (e most : Int) (w : World) (h : Rdr w g b xs e) (hm : I64 most) :
    Calls Try.prog 60 #[.pointer (some ⟨g, 0, none⟩), .int .i64 most] w fun e' w' => e' = .returned (.int .i64 ((countP most ⟨xs, e⟩).1 : Nat)) ∧ Rdr w' g b (countP most ⟨xs, e⟩).2.xs (countP most ⟨xs, e⟩).2.e ∧ Only w w' g := by
  have hc := rdnum_any g b xs e w h
  have hlt := numP_lt (r := ⟨xs, e⟩) h.by_
  unfold countP
  unfold I64 at hm
  generalize numP ⟨xs, e⟩ = q at *
  obtain ⟨n, q, e1⟩ := q
  simp only at *
  have hfl := fun w1 (h1 : Rdr w1 g b q e1) => fail_any g b q e1 8 w1 h1
  have her := fun w1 (h1 : Rdr w1 g b q e1) => rderr_any g b q e1 w1 h1
  by_cases h0 : most < 0
  · have hmx : most.toNat = 0 := by omega
    rw [hmx]
    clear hmx
    by_cases h1 : 0 < n
    · rw [if_pos (.inl h1)]
      have h1' : (0 : Int) < n := by omega
      go_enter Try.func60, Try.ntmps60
      go_wp2_with (first | (go_at_call 49; (with_reducible refine hc.mono ?_); rintro e w1 ⟨rfl, hr1, ho1⟩) | (go_at_call 83; (with_reducible refine (hfl _ hr1).mono ?_); rintro e w2 ⟨rfl, hr2, ho2⟩))
      go_ret
      exact ⟨rfl, hr2, ho1.trans ho2⟩
    · obtain rfl : n = 0 := by omega
      by_cases h2 : e1 = 0
      · rw [if_pos (.inr ⟨h0, h2⟩)]
        subst h2
        go_enter Try.func60, Try.ntmps60
        go_wp2_with (first | (go_at_call 49; (with_reducible refine hc.mono ?_); rintro e w1 ⟨rfl, hr1, ho1⟩) | (go_at_call 83; (with_reducible refine (hfl _ hr1).mono ?_); rintro e w2 ⟨rfl, hr2, ho2⟩) | (go_at_call 53; (with_reducible refine (her _ hr1).mono ?_); rintro e w3 ⟨rfl, rfl⟩))
        go_ret
        exact ⟨rfl, hr2, ho1.trans ho2⟩
      · rw [if_neg (fun h => by rcases h with h | h <;> omega)]
        have h2' : (e1 == 0) = false := by simpa using h2
        go_enter Try.func60, Try.ntmps60
        go_wp2_with (first | (go_at_call 49; (with_reducible refine hc.mono ?_); rintro e w1 ⟨rfl, hr1, ho1⟩) | (go_at_call 53; (with_reducible refine (her _ hr1).mono ?_); rintro e w3 ⟨rfl, rfl⟩))
        go_ret
        exact ⟨rfl, hr1, ho1⟩
  · obtain ⟨M, rfl⟩ : ∃ M : Nat, most = M := ⟨most.toNat, by omega⟩
    rw [Int.toNat_natCast]
    clear h0
    by_cases h1 : M < n
    · rw [if_pos (.inl h1)]
      have h1' : (M : Int) < n := by omega
      go_enter Try.func60, Try.ntmps60
      go_wp2_with (first | (go_at_call 49; (with_reducible refine hc.mono ?_); rintro e w1 ⟨rfl, hr1, ho1⟩) | (go_at_call 83; (with_reducible refine (hfl _ hr1).mono ?_); rintro e w2 ⟨rfl, hr2, ho2⟩))
      go_ret
      exact ⟨rfl, hr2, ho1.trans ho2⟩
    · rw [if_neg (fun h => by rcases h with h | h <;> omega)]
      have h1' : ¬(M : Int) < n := by omega
      have hn63 : (n : Int) ≤ 9223372036854775807 := by omega
      go_enter Try.func60, Try.ntmps60
      go_wp2_with (first | (go_at_call 49; (with_reducible refine hc.mono ?_); rintro e w1 ⟨rfl, hr1, ho1⟩) | (go_at_call 83; (with_reducible refine (hfl _ hr1).mono ?_); rintro e w2 ⟨rfl, hr2, ho2⟩))
      go_ret
      exact ⟨rfl, hr1, ho1⟩
end Go.Proofs.Ythajbeooemngpaa
