import Derived.Test.YtacnfcolkllagaaDoorTx9
/-! A stamp's text read back. -/
namespace Go.Proofs.YtacnfcolkllagaaDoor
open Go.RowKit
set_option linter.unusedVariables false
set_option linter.unusedSimpArgs false
theorem txt_size (a : Int) (b c : Nat) (h0 : -9223372036854775808 ≤ a) (h1 : a ≤ 9223372036854775807) (hb : b < 4294967296) (hc : c < 4294967296) : (txt a b c).size < 4294967281 := by
  have s1 := itoaB h0 h1
  have s2 := decB (u := b) (by omega)
  have s3 := decB (u := c) (by omega)
  unfold txt
  simp only [ByteArray.size_append]
  have e : (⟨#[46]⟩ : ByteArray).size = 1 := rfl
  omega
theorem dotL_digits : ∀ l : List UInt8, l.all isD = true → dotL l = [l]
  | [], _ => rfl
  | x :: l, h => by
    simp only [List.all_cons, Bool.and_eq_true] at h
    have hx : x ≠ 46 := fun e => by
      have := isD_le h.1
      rw [e] at this
      exact absurd this.1 (by decide)
    rw [dotL, if_neg hx, dotL_digits l h.2]
theorem dotL_cat (l m : List UInt8) (h : l.all isD = true) : dotL (l ++ 46 :: m) = l :: dotL m := by
  induction l with
  | nil => simp [dotL]
  | cons x l ih =>
    simp only [List.all_cons, Bool.and_eq_true] at h
    have hx : x ≠ 46 := fun e => by
      have := isD_le h.1
      rw [e] at this
      exact absurd this.1 (by decide)
    rw [List.cons_append, dotL, if_neg hx, ih h.2]
theorem nd_le : ∀ (k u : Nat), u < 10 ^ (k + 1) → Lib.nDigits u ≤ k + 1
  | 0, u, h => by rw [Lib.nDigits_small (by simpa using h)]; exact Nat.le_refl _
  | k + 1, u, h => by
    by_cases h9 : u < 10
    · rw [Lib.nDigits_small h9]; omega
    · rw [Lib.nDigits_big h9]
      have := nd_le k (u / 10) (by rw [Nat.pow_succ] at h; omega)
      omega
theorem numR_dec {u m : Nat} (h : u ≤ m) (hm : m ≤ 4611686018427387904) : numR (Lib.decDigits u) m = some u := by
  obtain ⟨hd, hv, hne, hz⟩ := dec_is u
  have hl : (Lib.decDigits u).length ≤ 19 := by
    rw [Lib.decDigits_length]
    have e19 : (10 : Nat) ^ 19 = 10000000000000000000 := by decide
    exact nd_le 18 u (by rw [e19]; omega)
  unfold numR
  have h1 : ¬ (Lib.decDigits u).length < 1 := by have := List.length_pos_iff.2 hne; omega
  rw [if_neg (by
    rintro (h' | h' | h')
    · omega
    · omega
    · have h0 := hz h'.1
      subst h0
      rw [Lib.decDigits, dif_pos (by omega)] at h'
      simp at h'), hv, if_pos hd, if_pos h]
theorem back9 (a b c : Nat) (ha : a ≤ 4611686018427387904) (hb : b ≤ 4294967295) (hc : c ≤ 4294967295) : stO (dotL (txt (a : Int) b c).data.toList) = some ⟨a, b, c⟩ := by
  have e : (txt (a : Int) b c).data.toList = Lib.decDigits a ++ 46 :: (Lib.decDigits b ++ 46 :: Lib.decDigits c) := by
    unfold txt
    rw [Lib.itoa_nonneg]
    simp [ByteArray.data_append]
  rw [e, dotL_cat _ _ (dec_is a).1, dotL_cat _ _ (dec_is b).1, dotL_digits _ (dec_is c).1]
  unfold stO
  dsimp only
  rw [numR_dec ha (by omega), numR_dec hb (by omega), numR_dec hc (by omega)]
end Go.Proofs.YtacnfcolkllagaaDoor
