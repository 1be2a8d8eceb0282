import Derived.Test.YtijegnhkkgdihaaTally15
import Derived.Test.YtijegnhkkgdihaaTally9
/-! What windows' counts come to. -/
namespace Go.Proofs.Ytijegnhkkgdihaa
open Go.RowKit
set_option linter.unusedVariables false
set_option linter.unusedSimpArgs false
def belowK (l : List (Int × Int)) (fr to step : Int) (k : Nat) : List (Int × Int) := l.filter fun p => decide (fr ≤ p.1) && decide (p.1 < to) && decide ((p.1 - fr) / step < k)
theorem belowK_succ (fr to step : Int) (k : Nat) : ∀ l : List (Int × Int), (belowK l fr to step (k + 1)).length = (belowK l fr to step k).length + (selW l fr to step k).length
  | [] => rfl
  | p :: l => by
    have ih := belowK_succ fr to step k l
    unfold belowK selW at *
    simp only [List.filter_cons, Bool.and_eq_true, decide_eq_true_eq]
    by_cases h : fr ≤ p.1 ∧ p.1 < to
    · by_cases h1 : (p.1 - fr) / step < k
      · rw [if_pos ⟨h, by omega⟩, if_pos ⟨h, h1⟩, if_neg (fun h' => by have := h'.2; omega)]
        simp only [List.length_cons]
        omega
      · by_cases h2 : (p.1 - fr) / step = k
        · rw [if_pos ⟨h, by omega⟩, if_neg (fun h' => h1 h'.2), if_pos ⟨h, h2⟩]
          simp only [List.length_cons]
          omega
        · rw [if_neg (fun h' => by have := h'.2; omega), if_neg (fun h' => h1 h'.2), if_neg (fun h' => h2 h'.2)]
          exact ih
    · rw [if_neg (fun h' => h h'.1), if_neg (fun h' => h h'.1), if_neg (fun h' => h h'.1)]
      exact ih
theorem belowK_zero {fr to step : Int} (hs : 0 < step) (l : List (Int × Int)) : belowK l fr to step 0 = [] := by
  unfold belowK
  rw [List.filter_eq_nil_iff]
  intro p hp h
  simp only [Bool.and_eq_true, decide_eq_true_eq] at h
  have := Int.ediv_nonneg (show 0 ≤ p.1 - fr by omega) (show 0 ≤ step by omega)
  omega
theorem belowK_all {fr to step : Int} (hs : 0 < step) {M : Nat} (hM : to - fr ≤ M * step) (l : List (Int × Int)) : belowK l fr to step M = within fr to l := by
  unfold belowK within
  congr 1
  funext p
  rw [Bool.eq_iff_iff]
  simp only [Bool.and_eq_true, decide_eq_true_eq]
  constructor
  · exact fun h => h.1
  · exact fun h => ⟨h, Int.ediv_lt_of_lt_mul hs (by omega)⟩
def sumC : List (Int × Int) → Int
  | [] => 0
  | c :: cs => c.2 + sumC cs
theorem sumC_snoc : ∀ (l : List (Int × Int)) (p : Int × Int), sumC (l ++ [p]) = sumC l + p.2
  | [], p => by simp [sumC]
  | q :: l, p => by simp [sumC, sumC_snoc l p]; omega
structure GoodC (fr to step : Int) (l : List (Int × Int)) (k : Nat) (cs : List (Int × Int)) : Prop where
  each : ∀ c ∈ cs, (1 ≤ c.2 ∧ c.2 ≤ l.length) ∧ fr ≤ c.1 ∧ c.1 < to ∧ (c.1 - fr) % step = 0 ∧ c.1 < fr + k * step
  rise : cs.Pairwise fun c d => c.1 < d.1
  sum : sumC cs = (belowK l fr to step k).length
theorem covers_good {l : List (Int × Int)} {fr to step : Int} (hl : l.length ≤ 65536) (hs : 0 < step) (M : Nat) (hM2 : M = 0 ∨ ((M : Int) - 1) * step < to - fr) :
    ∀ (r k : Nat) (out : List (Int × Int)), k + r = M → GoodC fr to step l k out → (refP 2 fr step (selW l fr to step) r k out).2 = 0 ∧ GoodC fr to step l M (refP 2 fr step (selW l fr to step) r k out).1
  | 0, k, out, h, hg => by
    obtain rfl : k = M := by omega
    exact ⟨rfl, hg⟩
  | r + 1, k, out, h, hg => by
    have hk1 : ((k + 1 : Nat) : Int) * step = k * step + step := by rw [Int.natCast_add, Int.add_mul]; simp
    have hk0 : 0 ≤ (k : Int) * step := Int.mul_nonneg (by omega) (by omega)
    have hkt : (k : Int) * step < to - fr := by
      have h5 : (k : Int) ≤ (M : Int) - 1 := by omega
      have := Int.mul_le_mul_of_nonneg_right h5 (show (0 : Int) ≤ step by omega)
      rcases hM2 with h6 | h6 <;> omega
    have hle : (selW l fr to step k).length ≤ l.length := List.length_filter_le _ _
    simp only [refP]
    by_cases hz : selW l fr to step k = []
    · rw [if_pos hz]
      refine covers_good hl hs M hM2 r (k + 1) out (by omega) ⟨fun c hc => ?_, hg.rise, ?_⟩
      · have := hg.each c hc
        omega
      · rw [hg.sum, belowK_succ, hz]
        simp
    · rw [if_neg hz, fold2 _ (by omega)]
      rw [if_neg (by simp)]
      have hpos : 0 < (selW l fr to step k).length := List.length_pos_iff.2 hz
      refine covers_good hl hs M hM2 r (k + 1) _ (by omega) ⟨fun c hc => ?_, ?_, ?_⟩
      · rcases List.mem_append.1 hc with hc | hc
        · have := hg.each c hc
          omega
        · obtain rfl := List.mem_singleton.1 hc
          refine ⟨by simp only; omega, by simp only; omega, by simp only; omega, ?_, by simp only; omega⟩
          simp only
          rw [show fr + (k : Int) * step - fr = k * step by omega, Int.mul_emod_left]
      · rw [List.pairwise_append]
        refine ⟨hg.rise, List.pairwise_singleton _ _, fun c hc d hd => ?_⟩
        obtain rfl := List.mem_singleton.1 hd
        exact (hg.each c hc).2.2.2.2
      · rw [sumC_snoc, hg.sum, belowK_succ]
        simp
/-- .. of counts, for samples whose times don't fall. -/
theorem covers_law {l : List (Int × Int)} (h : Rise l) (hl : l.length ≤ 300) (fr to step : Int) : ((winsA 2 l fr to step).2 ≠ 0 ∧ (winsA 2 l fr to step).1 = []) ∨
    ((winsA 2 l fr to step).2 = 0 ∧ (0 < step ∧ 0 ≤ fr ∧ fr ≤ to ∧ to ≤ 4611686018427387904) ∧ (∀ c ∈ (winsA 2 l fr to step).1, (1 ≤ c.2 ∧ c.2 ≤ l.length) ∧ fr ≤ c.1 ∧ c.1 < to ∧ (c.1 - fr) % step = 0) ∧ ((winsA 2 l fr to step).1.Pairwise fun c d => c.1 < d.1) ∧ sumC (winsA 2 l fr to step).1 = (within fr to l).length) := by
  rw [wins_same 2 h]
  unfold rwinsA
  by_cases hb : badW 2 l.length fr to step
  · rw [if_pos hb]
    left
    simp
  · rw [if_neg hb]
    by_cases hm : manyW fr to step
    · rw [if_pos hm]
      left
      simp
    · rw [if_neg hm]
      right
      unfold badW at hb
      have hs : 0 < step := by omega
      obtain ⟨_, h1, h2⟩ := many_facts hs (show fr ≤ to by omega)
      obtain ⟨g1, g2⟩ := covers_good (l := l) (by omega) hs (manyN fr to step) h2 (manyN fr to step) 0 [] (by omega) ⟨(fun c hc => by cases hc), List.Pairwise.nil, by rw [belowK_zero hs]; rfl⟩
      refine ⟨g1, by omega, fun c hc => ?_, g2.rise, ?_⟩
      · have := g2.each c hc
        exact ⟨this.1, this.2.1, this.2.2.1, this.2.2.2.1⟩
      · rw [g2.sum, belowK_all hs h1]
end Go.Proofs.Ytijegnhkkgdihaa
