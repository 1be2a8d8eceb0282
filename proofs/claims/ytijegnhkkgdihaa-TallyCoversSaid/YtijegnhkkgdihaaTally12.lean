import Derived.Test.YtijegnhkkgdihaaTally10
/-! Window by window: the plain law. -/
namespace Go.Proofs.Ytijegnhkkgdihaa
open Go.RowKit
set_option linter.unusedVariables false
set_option linter.unusedSimpArgs false
def Rise (l : List (Int × Int)) : Prop := l.Pairwise fun p q => p.1 ≤ q.1
def within (s e : Int) (l : List (Int × Int)) : List (Int × Int) := l.filter fun p => decide (s ≤ p.1) && decide (p.1 < e)
theorem within_none {s e : Int} {l : List (Int × Int)} (h : ∀ p ∈ l, ¬(s ≤ p.1 ∧ p.1 < e)) : within s e l = [] := by
  unfold within
  rw [List.filter_eq_nil_iff]
  intro p hp
  have := h p hp
  simp only [Bool.and_eq_true, decide_eq_true_eq]
  exact this
theorem within_all {s e : Int} {l : List (Int × Int)} (h : ∀ p ∈ l, s ≤ p.1 ∧ p.1 < e) : within s e l = l := by
  unfold within
  rw [List.filter_eq_self]
  intro p hp
  simpa using h p hp
theorem takeWhile_lt {t : Int} : ∀ {l : List (Int × Int)}, ∀ p ∈ l.takeWhile (fun p => decide (p.1 < t)), p.1 < t
  | [], p, hp => by cases hp
  | q :: l, p, hp => by
    rw [List.takeWhile_cons] at hp
    split at hp
    · rename_i hq
      rcases List.mem_cons.1 hp with rfl | hp
      · simpa using hq
      · exact takeWhile_lt p hp
    · cases hp
theorem dropWhile_ge {t : Int} : ∀ {l : List (Int × Int)}, Rise l → ∀ p ∈ l.dropWhile (fun p => decide (p.1 < t)), t ≤ p.1
  | [], _, p, hp => by cases hp
  | q :: l, h, p, hp => by
    rw [List.dropWhile_cons] at hp
    split at hp
    · exact dropWhile_ge (List.Pairwise.of_cons h) p hp
    · rename_i hq
      have hq' : t ≤ q.1 := by simpa using hq
      rcases List.mem_cons.1 hp with rfl | hp
      · exact hq'
      · have := List.rel_of_pairwise_cons h hp
        omega
theorem drop_adv (l : List (Int × Int)) (t : Int) (a : Nat) : l.drop (adv l t a) = (l.drop a).dropWhile fun p => decide (p.1 < t) := by
  unfold adv
  rw [← List.drop_drop]
  conv => lhs; rw [← List.takeWhile_append_dropWhile (p := fun p : Int × Int => decide (p.1 < t)) (l := l.drop a)]
  rw [List.takeWhile_append_dropWhile, ]
  generalize l.drop a = D
  induction D with
  | nil => rfl
  | cons x D ih =>
    rw [List.takeWhile_cons, List.dropWhile_cons]
    split
    · simpa using ih
    · rfl
theorem take_adv (l : List (Int × Int)) (t : Int) (a : Nat) : l.take (adv l t a) = l.take a ++ (l.drop a).takeWhile fun p => decide (p.1 < t) := by
  unfold adv
  rw [List.take_add]
  congr 1
  generalize l.drop a = D
  induction D with
  | nil => rfl
  | cons x D ih =>
    rw [List.takeWhile_cons]
    split
    · simpa using ih
    · rfl
/-- What lies between two places that were found is what lies between the two times. -/
theorem cut_within {l : List (Int × Int)} (h : Rise l) {s e : Int} {a : Nat} (ha : ∀ p ∈ l.take a, p.1 < s) (hse : s ≤ e) :
    cut l (adv l s a) (adv l e (adv l s a)) = within s e l ∧ ∀ p ∈ l.take (adv l e (adv l s a)), p.1 < e := by
  have hd1 := drop_adv l s a
  have ht1 := take_adv l s a
  have hr1 : Rise (l.drop a) := List.Pairwise.sublist (List.drop_sublist _ _) h
  have hge := dropWhile_ge (t := s) hr1
  rw [← hd1] at hge
  have hlt1 : ∀ p ∈ l.take (adv l s a), p.1 < s := fun p hp => by
    rw [ht1] at hp
    rcases List.mem_append.1 hp with hp | hp
    · exact ha p hp
    · exact takeWhile_lt p hp
  generalize adv l s a = a1 at *
  have hd2 := drop_adv l e a1
  have ht2 := take_adv l e a1
  have hr2 : Rise (l.drop a1) := List.Pairwise.sublist (List.drop_sublist _ _) h
  have hge2 := dropWhile_ge (t := e) hr2
  have hcut : cut l a1 (adv l e a1) = (l.drop a1).takeWhile fun p => decide (p.1 < e) := by
    unfold cut adv
    rw [Nat.add_sub_cancel_left]
    generalize l.drop a1 = D
    induction D with
    | nil => rfl
    | cons x D ih =>
      rw [List.takeWhile_cons]
      split
      · simpa using ih
      · rfl
  constructor
  · rw [hcut]
    conv => rhs; rw [← List.take_append_drop a1 l, ← List.takeWhile_append_dropWhile (p := fun p : Int × Int => decide (p.1 < e)) (l := l.drop a1)]
    unfold within
    rw [List.filter_append, List.filter_append]
    have e1 : within s e (l.take a1) = [] := within_none fun p hp hh => by have := hlt1 p hp; omega
    have e2 : within s e ((l.drop a1).dropWhile fun p => decide (p.1 < e)) = [] := within_none fun p hp hh => by have := hge2 p hp; omega
    have e3 : within s e ((l.drop a1).takeWhile fun p => decide (p.1 < e)) = (l.drop a1).takeWhile fun p => decide (p.1 < e) := within_all fun p hp => ⟨hge p (List.takeWhile_sublist _ |>.subset hp), takeWhile_lt p hp⟩
    unfold within at e1 e2 e3
    rw [e1, e2, e3]
    simp
  · intro p hp
    rw [ht2] at hp
    rcases List.mem_append.1 hp with hp | hp
    · have := hlt1 p hp
      omega
    · exact takeWhile_lt p hp
/-- The document's windows: from the k-th on. -/
def refP (op fr step : Int) (sel : Nat → List (Int × Int)) : Nat → Nat → List (Int × Int) → List (Int × Int) × Int
  | 0, _, out => (out, 0)
  | r + 1, k, out => if sel k = [] then refP op fr step sel r (k + 1) out else if (foldA op (sel k)).2.2 ≠ 0 then ([], (foldA op (sel k)).2.2) else refP op fr step sel r (k + 1) (out ++ [(fr + k * step, (foldA op (sel k)).1)])
def selW (l : List (Int × Int)) (fr to step : Int) (k : Nat) : List (Int × Int) := l.filter fun p => decide (fr ≤ p.1) && decide (p.1 < to) && decide ((p.1 - fr) / step = k)
theorem sel_within {l : List (Int × Int)} {fr to step : Int} (hs : 0 < step) (k : Nat) {e : Int} (he : e = if step < to - (fr + k * step) then fr + k * step + step else to) : selW l fr to step k = within (fr + k * step) e l := by
  unfold selW within
  congr 1
  funext p
  have hk : 0 ≤ (k : Int) * step := Int.mul_nonneg (by omega) (by omega)
  have e1 : (p.1 - fr) / step = k ↔ (k : Int) * step ≤ p.1 - fr ∧ p.1 - fr < k * step + step := by
    constructor
    · intro h
      have h1 := Int.mul_ediv_add_emod (p.1 - fr) step
      have h2 := Int.emod_nonneg (p.1 - fr) (show step ≠ 0 by omega)
      have h3 := Int.emod_lt_of_pos (p.1 - fr) hs
      rw [h, Int.mul_comm] at h1
      omega
    · rintro ⟨h1, h2⟩
      refine Int.le_antisymm ?_ ?_
      · have : (p.1 - fr) / step < k + 1 := Int.ediv_lt_of_lt_mul hs (by rw [Int.add_mul]; omega)
        omega
      · exact (Int.le_ediv_iff_mul_le hs).2 h1
  rw [Bool.eq_iff_iff]
  simp only [Bool.and_eq_true, decide_eq_true_eq, e1]
  generalize (k : Int) * step = K at *
  subst he
  split <;> omega
/-- For samples whose times don't fall the two are one. -/
theorem win_ref (op : Int) {l : List (Int × Int)} (h : Rise l) {fr to step : Int} (hs : 0 < step) (M : Nat) (hM1 : to - fr ≤ M * step) (hM2 : M = 0 ∨ ((M : Int) - 1) * step < to - fr) :
    ∀ (f r k a : Nat) (out : List (Int × Int)), k + r = M → r ≤ f → (∀ p ∈ l.take a, p.1 < fr + k * step) → winP op l to step f (fr + k * step) a out = refP op fr step (selW l fr to step) r k out := by
  intro f
  induction f with
  | zero =>
    intro r k a out hkr hrf ha
    obtain rfl : r = 0 := by omega
    rfl
  | succ f ih =>
    intro r k a out hkr hrf ha
    have hprev : ((M : Int) - 1) * step = M * step - step := by rw [Int.sub_mul]; omega
    by_cases hlt : fr + k * step < to
    · obtain ⟨r, rfl⟩ : ∃ r', r = r' + 1 := ⟨r - 1, by
        rcases Nat.eq_zero_or_pos r with h0 | h0
        · subst h0
          obtain rfl : k = M := by omega
          omega
        · omega⟩
      obtain ⟨e, he⟩ : ∃ e, e = if step < to - (fr + k * step) then fr + k * step + step else to := ⟨_, rfl⟩
      have hse : fr + k * step ≤ e := by subst he; split <;> omega
      obtain ⟨hc1, hc2⟩ := cut_within h ha hse
      rw [winP_step hlt he rfl rfl, hc1]
      rw [← sel_within hs k he] at hc1 ⊢
      have hz : adv l (fr + k * step) a = adv l e (adv l (fr + k * step) a) ↔ selW l fr to step k = [] := by
        rw [← hc1]
        constructor
        · intro hh
          unfold cut
          rw [← hh]
          simp
        · intro hh
          have h1 := congrArg List.length hh
          unfold cut at h1
          have h2 : adv l e (adv l (fr + k * step) a) = adv l (fr + k * step) a + ((l.drop (adv l (fr + k * step) a)).takeWhile fun p => decide (p.1 < e)).length := rfl
          have h3 := (List.takeWhile_sublist (fun p : Int × Int => decide (p.1 < e)) (l := l.drop (adv l (fr + k * step) a))).length_le
          rw [List.length_take, List.length_drop, List.length_nil] at h1
          rw [List.length_drop] at h3
          clear hc1 hc2 hse hlt he
          omega
      have hk1 : ((k + 1 : Nat) : Int) * step = k * step + step := by rw [Int.natCast_add, Int.add_mul]; simp
      have hlast : e = to → r = 0 := fun hh => by
        subst he
        split at hh
        · omega
        · rcases Nat.eq_zero_or_pos r with h0 | h0
          · exact h0
          · exfalso
            have h5 : ((k + 1 : Nat) : Int) ≤ (M : Int) - 1 := by omega
            have := Int.mul_le_mul_of_nonneg_right h5 (show (0 : Int) ≤ step by omega)
            rcases hM2 with h6 | h6 <;> omega
      have hnext : ¬e = to → e = fr + ((k + 1 : Nat) : Int) * step := fun hh => by
        subst he
        split at hh
        · rename_i hc
          rw [if_pos hc]
          omega
        · exact absurd rfl hh
      simp only [refP]
      by_cases hsel : selW l fr to step k = []
      · rw [if_pos (hz.2 hsel), if_pos hsel]
        by_cases het : e = to
        · rw [if_pos het, hlast het]
          rfl
        · rw [if_neg het, show fr + k * step + step = fr + ((k + 1 : Nat) : Int) * step by omega]
          exact ih r (k + 1) _ out (by omega) (by omega) (by rw [← hnext het]; exact hc2)
      · rw [if_neg (fun hh => hsel (hz.1 hh)), if_neg hsel]
        by_cases herr : (foldA op (selW l fr to step k)).2.2 ≠ 0
        · rw [if_pos herr, if_pos herr]
        · rw [if_neg herr, if_neg herr]
          by_cases het : e = to
          · rw [if_pos het, hlast het]
            rfl
          · rw [if_neg het, show fr + k * step + step = fr + ((k + 1 : Nat) : Int) * step by omega]
            exact ih r (k + 1) _ _ (by omega) (by omega) (by rw [← hnext het]; exact hc2)
    · rw [winP_end hlt]
      have : r = 0 := by
        rcases Nat.eq_zero_or_pos r with h0 | h0
        · exact h0
        · exfalso
          have h5 : (k : Int) ≤ (M : Int) - 1 := by omega
          have := Int.mul_le_mul_of_nonneg_right h5 (show (0 : Int) ≤ step by omega)
          rcases hM2 with h6 | h6 <;> omega
      subst this
      rfl
end Go.Proofs.Ytijegnhkkgdihaa
