import Derived.Test.YtamnononemallaaDoorGT
/-! Window by window: the document's walk. -/
namespace Go.Proofs.YtamnononemallaaDoor
open Go.RowKit
set_option linter.unusedVariables false
set_option linter.unusedSimpArgs false
def manyN (fr to step : Int) : Nat := ((to - fr) / step + if (to - fr) % step = 0 then 0 else 1).toNat
theorem many_facts {fr to step : Int} (hs : 0 < step) (h : fr ≤ to) : (manyN fr to step : Int) = (to - fr) / step + (if (to - fr) % step = 0 then 0 else 1) ∧ to - fr ≤ (manyN fr to step : Int) * step ∧ (manyN fr to step = 0 ∨ ((manyN fr to step : Int) - 1) * step < to - fr) := by
  have q0 : 0 ≤ (to - fr) / step := Int.ediv_nonneg (by omega) (by omega)
  have hM : (manyN fr to step : Int) = (to - fr) / step + (if (to - fr) % step = 0 then 0 else 1) := by
    unfold manyN
    split <;> omega
  refine ⟨hM, ?_⟩
  have h1 := Int.mul_ediv_add_emod (to - fr) step
  have h2 := Int.emod_nonneg (to - fr) (show step ≠ 0 by omega)
  have h3 := Int.emod_lt_of_pos (to - fr) hs
  rw [Int.mul_comm] at h1
  generalize (to - fr) / step = q at *
  generalize (to - fr) % step = m at *
  rw [hM]
  by_cases hm : m = 0
  · rw [if_pos hm, Int.add_zero, Int.sub_mul]
    constructor
    · omega
    · right
      omega
  · rw [if_neg hm, Int.add_sub_cancel, Int.add_mul]
    constructor
    · omega
    · right
      omega
theorem many_prev {fr to step : Int} (hs : 0 < step) (h : 0 < manyN fr to step) : ((manyN fr to step : Int) - 1) * step < to - fr := by
  have h0 : fr ≤ to := by
    rcases Int.lt_or_le to fr with h1 | h1
    · exfalso
      have : (to - fr) / step < 0 := Int.ediv_lt_of_lt_mul hs (by omega)
      unfold manyN at h
      split at h <;> omega
    · exact h1
  rcases (many_facts hs h0).2.2 with h1 | h1
  · omega
  · exact h1
theorem many_iff {fr to step : Int} (hs : 0 < step) (h : fr ≤ to) : manyW fr to step ↔ 1024 < manyN fr to step := by
  obtain ⟨_, h1, h2⟩ := many_facts hs h
  unfold manyW
  constructor
  · rintro ⟨h3, h4⟩
    have h5 := (Int.le_ediv_iff_mul_le hs).1 h4
    rcases Nat.lt_or_ge 1024 (manyN fr to step) with h6 | h6
    · exact h6
    · exfalso
      have h7 : (manyN fr to step : Int) ≤ 1024 := by omega
      have := Int.mul_le_mul_of_nonneg_right h7 (show (0 : Int) ≤ step by omega)
      omega
  · intro h3
    have h7 : (1024 : Int) ≤ (manyN fr to step : Int) - 1 := by omega
    have h8 := Int.mul_le_mul_of_nonneg_right h7 (show (0 : Int) ≤ step by omega)
    have h9 : ((manyN fr to step : Int) - 1) * step < to - fr := by rcases h2 with h2 | h2 <;> omega
    exact ⟨by omega, (Int.le_ediv_iff_mul_le hs).2 (by omega)⟩
theorem sel_snoc {l : List (Int × Int)} {i : Nat} {p : Int × Int} (hp : l[i]? = some p) {fr to step : Int} {k : Nat} : selW (l.take (i + 1)) fr to step k = if fr ≤ p.1 ∧ p.1 < to ∧ (p.1 - fr) / step = k then selW (l.take i) fr to step k ++ [p] else selW (l.take i) fr to step k := by
  unfold selW
  rw [List.take_add_one, hp, List.filter_append]
  simp only [Option.toList, List.filter_cons, List.filter_nil, Bool.and_eq_true, decide_eq_true_eq]
  by_cases h : (fr ≤ p.1 ∧ p.1 < to) ∧ (p.1 - fr) / step = k
  · rw [if_pos h, if_pos ⟨h.1.1, h.1.2, h.2⟩]
  · rw [if_neg h, if_neg (fun h' => h ⟨⟨h'.1, h'.2.1⟩, h'.2.2⟩), List.append_nil]
open Classical in
noncomputable def rwinsA (op : Int) (l : List (Int × Int)) (fr to step : Int) : List (Int × Int) × Int :=
  if badW op l.length fr to step then ([], 1) else if manyW fr to step then ([], 8) else refP op fr step (selW l fr to step) (manyN fr to step) 0 []
theorem wins_same (op : Int) {l : List (Int × Int)} (h : Rise l) (fr to step : Int) : winsA op l fr to step = rwinsA op l fr to step := by
  unfold winsA rwinsA
  by_cases hb : badW op l.length fr to step
  · rw [if_pos hb, if_pos hb]
  · rw [if_neg hb, if_neg hb]
    by_cases hm : manyW fr to step
    · rw [if_pos hm, if_pos hm]
    · rw [if_neg hm, if_neg hm]
      unfold badW at hb
      have hs : 0 < step := by omega
      have h0 : fr ≤ to := by omega
      obtain ⟨_, h1, h2⟩ := many_facts hs h0
      have h3 : manyN fr to step ≤ 1024 := by
        rw [many_iff hs h0] at hm
        omega
      have := win_ref op h hs (manyN fr to step) h1 h2 1024 (manyN fr to step) 0 0 [] (by omega) h3 (fun p hp => by simp at hp)
      simpa using this
end Go.Proofs.YtamnononemallaaDoor
