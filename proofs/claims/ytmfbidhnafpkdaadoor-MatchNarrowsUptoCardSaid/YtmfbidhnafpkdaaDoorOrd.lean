import Derived.Test.YtmfbidhnafpkdaaDoorPar
import Derived.Sort.Walk0
/-! The order of texts, of labels, of lists of labels. -/
namespace Go.Proofs.YtmfbidhnafpkdaaDoor
open Go.RowKit
set_option linter.unusedVariables false
set_option linter.unusedSimpArgs false
structure Cmp {α : Type} (c : α → α → Int) : Prop where
  zero : ∀ x y, c x y = 0 ↔ x = y
  swap : ∀ x y, c y x = - c x y
  trans : ∀ x y z, c x y ≤ 0 → c y z ≤ 0 → c x z ≤ 0
section
variable {α : Type} {c : α → α → Int}
theorem Cmp.refl (h : Cmp c) (x : α) : c x x = 0 := (h.zero x x).2 rfl
theorem Cmp.lt_le (h : Cmp c) {x y z : α} (h1 : c x y < 0) (h2 : c y z ≤ 0) : c x z < 0 := by
  have h3 := h.trans x y z (by omega) h2
  rcases Int.lt_or_eq_of_le h3 with h4 | h4
  · exact h4
  · have e := (h.zero x z).1 h4
    subst e
    have := h.swap x y
    omega
theorem Cmp.le_lt (h : Cmp c) {x y z : α} (h1 : c x y ≤ 0) (h2 : c y z < 0) : c x z < 0 := by
  have h3 := h.trans x y z h1 (by omega)
  rcases Int.lt_or_eq_of_le h3 with h4 | h4
  · exact h4
  · have e := (h.zero x z).1 h4
    subst e
    have := h.swap x y
    omega
end
theorem cb_zero : ∀ a b : List UInt8, Lib.compareBytes a b = 0 ↔ a = b
  | [], [] => by simp [Lib.compareBytes]
  | [], _ :: _ => by simp [Lib.compareBytes]
  | _ :: _, [] => by simp [Lib.compareBytes]
  | x :: a, y :: b => by
    have ih := cb_zero a b
    unfold Lib.compareBytes
    simp only [UInt8.lt_iff_toNat_lt]
    split
    · rename_i h
      constructor
      · intro h'; omega
      · intro e; cases e; omega
    · split
      · rename_i h
        constructor
        · intro h'; omega
        · intro e; cases e; omega
      · rename_i h1 h2
        have e : x = y := UInt8.toNat_inj.1 (by omega)
        subst e
        rw [ih]
        simp
theorem cb_swap : ∀ a b : List UInt8, Lib.compareBytes b a = - Lib.compareBytes a b
  | [], [] => by simp [Lib.compareBytes]
  | [], _ :: _ => by simp [Lib.compareBytes]
  | _ :: _, [] => by simp [Lib.compareBytes]
  | x :: a, y :: b => by
    have ih := cb_swap a b
    unfold Lib.compareBytes
    simp only [UInt8.lt_iff_toNat_lt]
    (repeat' split) <;> omega
theorem cb_trans : ∀ a b d : List UInt8, Lib.compareBytes a b ≤ 0 → Lib.compareBytes b d ≤ 0 → Lib.compareBytes a d ≤ 0
  | [], _, [] => by simp [Lib.compareBytes]
  | [], _, _ :: _ => by simp [Lib.compareBytes]
  | _ :: _, [], _ => by simp [Lib.compareBytes]
  | _ :: _, _ :: _, [] => by simp [Lib.compareBytes]
  | x :: a, y :: b, z :: d => by
    have ih := cb_trans a b d
    unfold Lib.compareBytes
    simp only [UInt8.lt_iff_toNat_lt]
    (repeat' split) <;> intros <;> first | omega | (exact ih (by assumption) (by assumption))
theorem cb_vals : ∀ a b : List UInt8, Lib.compareBytes a b = -1 ∨ Lib.compareBytes a b = 0 ∨ Lib.compareBytes a b = 1
  | [], [] => by simp [Lib.compareBytes]
  | [], _ :: _ => by simp [Lib.compareBytes]
  | _ :: _, [] => by simp [Lib.compareBytes]
  | x :: a, y :: b => by
    have ih := cb_vals a b
    unfold Lib.compareBytes
    (repeat' split) <;> simp [*]
theorem cb_less : ∀ a b : List UInt8, Op.bytesLess a b = decide (Lib.compareBytes a b = -1)
  | [], [] => by simp [Lib.compareBytes, Op.bytesLess]
  | [], _ :: _ => by simp [Lib.compareBytes, Op.bytesLess]
  | _ :: _, [] => by simp [Lib.compareBytes, Op.bytesLess]
  | x :: a, y :: b => by
    have ih := cb_less a b
    unfold Lib.compareBytes Op.bytesLess
    rw [ih]
    rw [Bool.eq_iff_iff]
    simp only [UInt8.lt_iff_toNat_lt, Bool.or_eq_true, Bool.and_eq_true, decide_eq_true_eq, beq_iff_eq]
    have e : x = y ↔ x.toNat = y.toNat := UInt8.toNat_inj.symm
    (repeat' split) <;> simp [e] <;> omega
theorem cmpB_cmp : Cmp cmpB where
  zero x y := by
    unfold cmpB
    rw [cb_zero]
    exact ⟨fun h => ByteArray.ext (Array.toList_inj.1 h), fun h => by rw [h]⟩
  swap x y := cb_swap _ _
  trans x y z := cb_trans _ _ _
theorem cmpB_vals (a b : ByteArray) : cmpB a b = -1 ∨ cmpB a b = 0 ∨ cmpB a b = 1 := cb_vals _ _
theorem cmpB_less (a b : ByteArray) : Op.bytesLess a.toList b.toList = decide (cmpB a b = -1) := by
  rw [ByteArray.toList_eq, ByteArray.toList_eq]
  exact cb_less _ _
theorem cmpB_eq (a b : ByteArray) : (a.toList == b.toList) = decide (cmpB a b = 0) := by
  rw [ByteArray.toList_eq, ByteArray.toList_eq, Bool.eq_iff_iff]
  unfold cmpB
  simp [cb_zero]
theorem cmpP_cmp : Cmp cmpP where
  zero x y := by
    obtain ⟨a, b⟩ := x
    obtain ⟨c, d⟩ := y
    unfold cmpP
    split
    · rename_i h
      rw [cmpB_cmp.zero] at h ⊢
      simp at h ⊢
      simp [h]
    · rename_i h
      have h' := h
      rw [cmpB_cmp.zero] at h
      simp at h ⊢
      simp [h, h']
  swap x y := by
    unfold cmpP
    have h1 := cmpB_cmp.swap x.a y.a
    have h2 := cmpB_cmp.swap x.b y.b
    (repeat' split) <;> omega
  trans x y z := by
    unfold cmpP
    intro h1 h2
    by_cases e1 : cmpB x.a y.a = 0
    · rw [if_pos e1] at h1
      rw [(cmpB_cmp.zero _ _).1 e1]
      split at h2
      · rename_i e2
        rw [if_pos e2]
        exact cmpB_cmp.trans _ _ _ h1 h2
      · rename_i e2
        rw [if_neg e2]
        exact h2
    · rw [if_neg e1] at h1
      have h1' : cmpB x.a y.a < 0 := by omega
      have h2' : cmpB y.a z.a ≤ 0 := by
        split at h2
        · omega
        · exact h2
      have := cmpB_cmp.lt_le h1' h2'
      rw [if_neg (by omega)]
      omega
theorem cmpL_zero : ∀ l m : List Par, cmpL l m = 0 ↔ l = m
  | [], [] => by simp [cmpL]
  | [], _ :: _ => by simp [cmpL]
  | _ :: _, [] => by simp [cmpL]
  | x :: l, y :: m => by
    have ih := cmpL_zero l m
    have h := cmpP_cmp.zero x y
    unfold cmpL
    split
    · rename_i e
      rw [ih, h.1 e]
      simp
    · rename_i e
      rw [h] at e ⊢
      simp [e]
theorem cmpL_swap : ∀ l m : List Par, cmpL m l = - cmpL l m
  | [], [] => by simp [cmpL]
  | [], _ :: _ => by simp [cmpL]
  | _ :: _, [] => by simp [cmpL]
  | x :: l, y :: m => by
    have ih := cmpL_swap l m
    have h := cmpP_cmp.swap x y
    unfold cmpL
    (repeat' split) <;> omega
theorem cmpL_trans : ∀ l m k : List Par, cmpL l m ≤ 0 → cmpL m k ≤ 0 → cmpL l k ≤ 0
  | [], _, [] => by simp [cmpL]
  | [], _, _ :: _ => by simp [cmpL]
  | _ :: _, [], _ => by simp [cmpL]
  | _ :: _, _ :: _, [] => by simp [cmpL]
  | x :: l, y :: m, z :: k => by
    have ih := cmpL_trans l m k
    unfold cmpL
    intro h1 h2
    by_cases e1 : cmpP x y = 0
    · rw [if_pos e1] at h1
      rw [(cmpP_cmp.zero _ _).1 e1]
      split at h2
      · rename_i e2
        rw [if_pos e2]
        exact ih h1 h2
      · rename_i e2
        rw [if_neg e2]
        exact h2
    · rw [if_neg e1] at h1
      have h1' : cmpP x y < 0 := by omega
      have h2' : cmpP y z ≤ 0 := by
        split at h2
        · omega
        · exact h2
      have := cmpP_cmp.lt_le h1' h2'
      rw [if_neg (by omega)]
      omega
theorem cmpL_cmp : Cmp cmpL := ⟨cmpL_zero, cmpL_swap, cmpL_trans⟩
theorem cmpP_vals (x y : Par) : cmpP x y = -1 ∨ cmpP x y = 0 ∨ cmpP x y = 1 := by
  unfold cmpP
  have h1 := cmpB_vals x.a y.a
  have h2 := cmpB_vals x.b y.b
  split <;> omega
theorem cmpL_vals : ∀ l m : List Par, cmpL l m = -1 ∨ cmpL l m = 0 ∨ cmpL l m = 1
  | [], [] => by simp [cmpL]
  | [], _ :: _ => by simp [cmpL]
  | _ :: _, [] => by simp [cmpL]
  | x :: l, y :: m => by
    have ih := cmpL_vals l m
    have h := cmpP_vals x y
    unfold cmpL
    split <;> omega
end Go.Proofs.YtmfbidhnafpkdaaDoor
