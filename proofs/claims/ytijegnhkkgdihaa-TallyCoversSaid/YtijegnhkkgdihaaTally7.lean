import Derived.Test.YtijegnhkkgdihaaTally6
/-! The order of samples. -/
namespace Go.Proofs.Ytijegnhkkgdihaa
open Go.RowKit
set_option linter.unusedVariables false
set_option linter.unusedSimpArgs false
theorem to_none (A : Option Addr) (c : Nat) (w : World) :
    Calls Try.prog 10 #[.slice A 0 c] w fun e w' => e = .returned (.slice none 0 0) ∧ Below w.heap.size w w' := by
  go_enter Try.func10, Try.ntmps10
  go_wp2
  go_loopw [3, 8] (fun v s wr => v = .slice none 0 0 ∧ s = .int .i64 0 ∧ wr = w) (fun _ s _ => 0)
  case atStart => exact ⟨rfl, rfl, rfl⟩
  case round =>
    obtain ⟨rfl, rfl, rfl⟩ := hrel
    go_wp2
    go_ret
    exact ⟨rfl, Below.refl _ _⟩
theorem sumL_perm {l m : List (Int × Int)} (h : l.Perm m) : sumL l = sumL m := by
  induction h with
  | nil => rfl
  | cons x _ ih => simp [sumL, ih]
  | swap x y l => simp only [sumL]; omega
  | trans _ _ h1 h2 => exact h1.trans h2
theorem best3 : ∀ (l : List (Int × Int)) (b : Int), (bestL 3 b l = b ∨ ∃ p ∈ l, bestL 3 b l = p.2) ∧ bestL 3 b l ≤ b ∧ ∀ p ∈ l, bestL 3 b l ≤ p.2
  | [], b => ⟨.inl rfl, Int.le_refl _, fun p hp => by cases hp⟩
  | q :: l, b => by
    simp only [bestL]
    by_cases h : q.2 < b
    · rw [if_pos (by simp; omega)]
      obtain ⟨h1, h2, h3⟩ := best3 l q.2
      refine ⟨.inr ?_, by omega, fun p hp => ?_⟩
      · rcases h1 with h1 | ⟨p, hp, h1⟩
        · exact ⟨q, by simp, h1⟩
        · exact ⟨p, by simp [hp], h1⟩
      · rcases List.mem_cons.1 hp with rfl | hp
        · exact h2
        · exact h3 p hp
    · rw [if_neg (by omega)]
      obtain ⟨h1, h2, h3⟩ := best3 l b
      refine ⟨?_, h2, fun p hp => ?_⟩
      · rcases h1 with h1 | ⟨p, hp, h1⟩
        · exact .inl h1
        · exact .inr ⟨p, by simp [hp], h1⟩
      · rcases List.mem_cons.1 hp with rfl | hp
        · omega
        · exact h3 p hp
theorem best4 : ∀ (l : List (Int × Int)) (b : Int), (bestL 4 b l = b ∨ ∃ p ∈ l, bestL 4 b l = p.2) ∧ b ≤ bestL 4 b l ∧ ∀ p ∈ l, p.2 ≤ bestL 4 b l
  | [], b => ⟨.inl rfl, Int.le_refl _, fun p hp => by cases hp⟩
  | q :: l, b => by
    simp only [bestL]
    by_cases h : b < q.2
    · rw [if_pos (by simp; omega)]
      obtain ⟨h1, h2, h3⟩ := best4 l q.2
      refine ⟨.inr ?_, by omega, fun p hp => ?_⟩
      · rcases h1 with h1 | ⟨p, hp, h1⟩
        · exact ⟨q, by simp, h1⟩
        · exact ⟨p, by simp [hp], h1⟩
      · rcases List.mem_cons.1 hp with rfl | hp
        · exact h2
        · exact h3 p hp
    · rw [if_neg (by omega)]
      obtain ⟨h1, h2, h3⟩ := best4 l b
      refine ⟨?_, h2, fun p hp => ?_⟩
      · rcases h1 with h1 | ⟨p, hp, h1⟩
        · exact .inl h1
        · exact .inr ⟨p, by simp [hp], h1⟩
      · rcases List.mem_cons.1 hp with rfl | hp
        · omega
        · exact h3 p hp
/-- The least, the greatest number of samples: one of them, and all others are on its one side. -/
def LeastOf (m : Int) (l : List (Int × Int)) : Prop := (∃ p ∈ l, m = p.2) ∧ ∀ p ∈ l, m ≤ p.2
def GreatestOf (m : Int) (l : List (Int × Int)) : Prop := (∃ p ∈ l, m = p.2) ∧ ∀ p ∈ l, p.2 ≤ m
theorem head_mem {l : List (Int × Int)} (h : l ≠ []) : l.headD (0, 0) ∈ l := by
  cases l with
  | nil => exact absurd rfl h
  | cons a r => simp
theorem least_best {l : List (Int × Int)} (h : l ≠ []) : LeastOf (bestL 3 (l.headD (0, 0)).2 l) l := by
  obtain ⟨h1, h2, h3⟩ := best3 l (l.headD (0, 0)).2
  refine ⟨?_, h3⟩
  rcases h1 with h1 | h1
  · exact ⟨_, head_mem h, h1⟩
  · exact h1
theorem greatest_best {l : List (Int × Int)} (h : l ≠ []) : GreatestOf (bestL 4 (l.headD (0, 0)).2 l) l := by
  obtain ⟨h1, h2, h3⟩ := best4 l (l.headD (0, 0)).2
  refine ⟨?_, h3⟩
  rcases h1 with h1 | h1
  · exact ⟨_, head_mem h, h1⟩
  · exact h1
theorem LeastOf.one {m m' : Int} {l : List (Int × Int)} (h : LeastOf m l) (h' : LeastOf m' l) : m = m' := by
  obtain ⟨⟨p, hp, rfl⟩, h1⟩ := h
  obtain ⟨⟨q, hq, rfl⟩, h2⟩ := h'
  have := h1 q hq
  have := h2 p hp
  omega
theorem GreatestOf.one {m m' : Int} {l : List (Int × Int)} (h : GreatestOf m l) (h' : GreatestOf m' l) : m = m' := by
  obtain ⟨⟨p, hp, rfl⟩, h1⟩ := h
  obtain ⟨⟨q, hq, rfl⟩, h2⟩ := h'
  have := h1 q hq
  have := h2 p hp
  omega
theorem foldA_perm {l m : List (Int × Int)} (h : l.Perm m) (op : Int) (ho : op ≤ 4) : foldA op l = foldA op m := by
  have hl := h.length_eq
  unfold foldA
  rw [hl]
  by_cases h1 : op < 1 ∨ 5 < op ∨ 65536 < m.length
  · rw [if_pos h1, if_pos h1]
  rw [if_neg h1, if_neg h1]
  by_cases h2 : op = 2
  · rw [if_pos h2, if_pos h2]
  rw [if_neg h2, if_neg h2]
  by_cases h3 : m = []
  · rw [if_pos h3, if_pos (by subst h3; exact List.length_eq_zero_iff.1 hl)]
  have h4 : l ≠ [] := by rintro rfl; exact h3 (List.length_eq_zero_iff.1 hl.symm)
  rw [if_neg h3, if_neg h4]
  by_cases h5 : op = 3 ∨ op = 4
  · rw [if_pos h5, if_pos h5]
    rcases h5 with rfl | rfl
    · have a := least_best h4
      have b := least_best h3
      have : LeastOf (bestL 3 (l.headD (0, 0)).2 l) m := ⟨by obtain ⟨p, hp, e⟩ := a.1; exact ⟨p, h.mem_iff.1 hp, e⟩, fun p hp => a.2 p (h.mem_iff.2 hp)⟩
      rw [this.one b]
    · have a := greatest_best h4
      have b := greatest_best h3
      have : GreatestOf (bestL 4 (l.headD (0, 0)).2 l) m := ⟨by obtain ⟨p, hp, e⟩ := a.1; exact ⟨p, h.mem_iff.1 hp, e⟩, fun p hp => a.2 p (h.mem_iff.2 hp)⟩
      rw [this.one b]
  · rw [if_neg h5, if_neg h5]
    have : foldT op l = foldT op m := by unfold foldT; rw [if_neg (by omega), if_neg (by omega), sumL_perm h]
    rw [this]
theorem smps_set (l : List (Int × Int)) : ∀ (i : Nat) (p : Int × Int), i < l.length → ((smps l).set (i * 2) (.int .i64 p.1)).set (i * 2 + 1) (.int .i64 p.2) = smps (l.set i p) := by
  induction l with
  | nil => intro i p h; simp at h
  | cons q l ih =>
    intro i p h
    have e : smps (q :: l) = .int .i64 q.1 :: .int .i64 q.2 :: smps l := rfl
    cases i with
    | zero => rfl
    | succ i =>
      rw [e, show (i + 1) * 2 = i * 2 + 1 + 1 by omega]
      simp only [List.set_cons_succ]
      rw [ih i p (by simpa using h)]
      rfl
/-- A row that the call owns, one of its cells written anew. -/
theorem own_set {w : World} {base g n cap i size : Nat} {e : TypeId} {xs : List Value} (h : w.ownsRow base e size (.slice (some ⟨g, 0, none⟩) n cap) n xs) (u : Value) (hi : i < n * size) :
    (w.setCell ⟨g, i, none⟩ u).ownsRow base e size (.slice (some ⟨g, 0, none⟩) n cap) n (xs.set i u) := by
  refine ⟨by rw [List.length_set]; exact h.1, .inr ?_⟩
  rcases h.2 with ⟨h1, _⟩ | ⟨g', cap', cur, h1, h2, h3, h4, h5, h6, h7⟩
  · cases h1
  · injection h1 with e1 e2 e3
    injection e1 with e1
    injection e1 with e1
    subst e1 e3
    refine ⟨g, cap, cur.setIfInBounds i u, rfl, h2, ?_, h4, h5, by simpa using h6, ?_⟩
    · exact Blk.set_ (show Blk w g e cur from h3) i u
    · rw [Array.toList_setIfInBounds, List.take_set, h7]
theorem own_cells {w : World} {base g n cap size : Nat} {e : TypeId} {xs : List Value} (h : w.ownsRow base e size (.slice (some ⟨g, 0, none⟩) n cap) n xs) : (∀ i u, xs[i]? = some u → w.cell? ⟨g, i, none⟩ = some u) ∧ (∀ i, w.frozen? ⟨g, i, none⟩ = false) ∧ base ≤ g ∧ g < w.heap.size := by
  rcases h.2 with ⟨h1, _⟩ | ⟨g', cap', cur, h1, h2, h3, h4, h5, h6, h7⟩
  · cases h1
  · injection h1 with e1 e2 e3
    injection e1 with e1
    injection e1 with e1
    subst e1 e3
    refine ⟨fun i u hu => ?_, blk_frozen h3, h2, blk_lt h3⟩
    rw [blk_cell h3]
    rw [← h7, List.getElem?_take] at hu
    split at hu
    · simpa using hu
    · cases hu
theorem own_ext {w : World} {base n size : Nat} {e : TypeId} {v : Value} {xs : List Value} (h : w.ownsRow base e size v n xs) (X : Ext) : (w.ext X).ownsRow base e size v n xs := by
  refine ⟨h.1, ?_⟩
  rcases h.2 with h1 | ⟨g', cap', cur, h1, h2, h3, h4⟩
  · exact .inl h1
  · exact .inr ⟨g', cap', cur, h1, h2, (World.heap_ext (blk_lt h3)).trans h3, h4⟩
theorem own_pair {w : World} {base g n cap i : Nat} {e : TypeId} {l : List (Int × Int)} (h : w.ownsRow base e 2 (.slice (some ⟨g, 0, none⟩) n cap) n (smps l)) (p : Int × Int) (hi : i < n) :
    ((w.setCell ⟨g, i * 2, none⟩ (.int .i64 p.1)).setCell ⟨g, i * 2 + 1, none⟩ (.int .i64 p.2)).ownsRow base e 2 (.slice (some ⟨g, 0, none⟩) n cap) n (smps (l.set i p)) := by
  have := own_set (own_set h (.int .i64 p.1) (show i * 2 < n * 2 by omega)) (.int .i64 p.2) (show i * 2 + 1 < n * 2 by omega)
  rwa [smps_set l i p (by have := h.1; rw [smps_length] at this; omega)] at this
end Go.Proofs.Ytijegnhkkgdihaa
