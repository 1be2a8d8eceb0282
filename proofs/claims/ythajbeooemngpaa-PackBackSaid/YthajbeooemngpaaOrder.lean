import Derived.Test.YthajbeooemngpaaItem2
import Derived.Test.YthajbeooemngpaaNum
import Derived.Sort.Walk0
/-! The order of numbers' bytes; what is laid of one number. -/
namespace Go.Proofs.Ythajbeooemngpaa
open Go.RowKit
set_option linter.unusedVariables false
set_option linter.unusedSimpArgs false
theorem less_num : ∀ l m : List Nat, l.length = m.length → (∀ x ∈ l, x < 256) → (∀ x ∈ m, x < 256) → Op.bytesLess (l.map UInt8.ofNat) (m.map UInt8.ofNat) = decide (num l < num m)
  | [], [], _, _, _ => by simp [Op.bytesLess]
  | x :: l, y :: m, h, hl, hm => by
    have ih := less_num l m (by simpa using h) (fun z hz => hl z (by simp [hz])) (fun z hz => hm z (by simp [hz]))
    have h1 := num_lt l (fun z hz => hl z (by simp [hz]))
    have h2 := num_lt m (fun z hz => hm z (by simp [hz]))
    have hlen : l.length = m.length := by simpa using h
    rw [← hlen] at h2
    have hx := hl x (by simp)
    have hy := hm y (by simp)
    simp only [List.map_cons, Op.bytesLess, ih, num_cons, ← hlen]
    generalize 256 ^ l.length = K at *
    have e1 : (UInt8.ofNat x < UInt8.ofNat y) ↔ x < y := by
      rw [UInt8.lt_iff_toNat_lt]; simp [Nat.mod_eq_of_lt hx, Nat.mod_eq_of_lt hy]
    have e2 : (UInt8.ofNat x = UInt8.ofNat y) ↔ x = y := by
      rw [← UInt8.toNat_inj]; simp [Nat.mod_eq_of_lt hx, Nat.mod_eq_of_lt hy]
    rcases Nat.lt_trichotomy x y with hxy | hxy | hxy
    · have : x * K + num l < y * K + num m := by
        have := Nat.mul_le_mul_right K (show x + 1 ≤ y by omega)
        rw [Nat.add_mul] at this
        omega
      simp [e1, hxy, this]
    · subst hxy; simp
    · have : ¬ x * K + num l < y * K + num m := by
        have := Nat.mul_le_mul_right K (show y + 1 ≤ x by omega)
        rw [Nat.add_mul] at this
        omega
      simp [e1, e2, this, show ¬ x < y by omega, show ¬ x = y by omega]
theorem longN_ge {n : Nat} (h : 0 < n) : 256 ^ (longN n - 1) ≤ n := by
  induction n using Nat.strongRecOn with
  | ind n ih =>
    rw [longN_pos h, Nat.add_sub_cancel]
    by_cases h0 : n / 256 = 0
    · rw [h0, longN_zero]
      simp
      omega
    · have h1 := ih (n / 256) (by omega) (by omega)
      have h2 := longN_pos (n := n / 256) (by omega)
      rw [h2, Nat.pow_succ]
      rw [h2, Nat.add_sub_cancel] at h1
      omega
theorem less_head {x y : Nat} {l m : List Nat} (hx : x < 256) (hy : y < 256) (h : x < y) : Op.bytesLess ((x :: l).map UInt8.ofNat) ((y :: m).map UInt8.ofNat) = true := by
  have e1 : UInt8.ofNat x < UInt8.ofNat y := by rw [UInt8.lt_iff_toNat_lt]; simp [Nat.mod_eq_of_lt hx, Nat.mod_eq_of_lt hy, h]
  simp [Op.bytesLess, e1]
theorem less_head' {x y : Nat} {l m : List Nat} (hx : x < 256) (hy : y < 256) (h : y < x) : Op.bytesLess ((x :: l).map UInt8.ofNat) ((y :: m).map UInt8.ofNat) = false := by
  have e1 : ¬UInt8.ofNat x < UInt8.ofNat y := by rw [UInt8.lt_iff_toNat_lt]; simp [Nat.mod_eq_of_lt hx, Nat.mod_eq_of_lt hy]; omega
  have e2 : ¬UInt8.ofNat x = UInt8.ofNat y := by rw [← UInt8.toNat_inj]; simp [Nat.mod_eq_of_lt hx, Nat.mod_eq_of_lt hy]; omega
  simp [Op.bytesLess, e1, e2]
theorem numB_less {a b : Nat} (ha : a < 18446744073709551616) (hb : b < 18446744073709551616) : Op.bytesLess ((numB a).map UInt8.ofNat) ((numB b).map UInt8.ofNat) = decide (a < b) := by
  have la := longN_le 8 a (by omega)
  have lb := longN_le 8 b (by omega)
  by_cases h1 : a < 248
  · have e1 : numB a = [a] := by unfold numB; rw [if_pos h1]
    by_cases h2 : b < 248
    · have e2 : numB b = [b] := by unfold numB; rw [if_pos h2]
      rw [e1, e2, less_num [a] [b] rfl (fun x hx => by obtain rfl := List.mem_singleton.1 hx; omega) (fun x hx => by obtain rfl := List.mem_singleton.1 hx; omega)]
      simp [num]
    · have e2 : numB b = (247 + longN b) :: be (longN b) b := by unfold numB; rw [if_neg h2]
      have := longN_pos (n := b) (by omega)
      rw [e1, e2, less_head (by omega) (by omega) (by omega)]
      simp
      omega
  · have e1 : numB a = (247 + longN a) :: be (longN a) a := by unfold numB; rw [if_neg h1]
    have pa := longN_pos (n := a) (by omega)
    by_cases h2 : b < 248
    · have e2 : numB b = [b] := by unfold numB; rw [if_pos h2]
      rw [e1, e2, less_head' (by omega) (by omega) (by omega)]
      simp
      omega
    · have e2 : numB b = (247 + longN b) :: be (longN b) b := by unfold numB; rw [if_neg h2]
      have pb := longN_pos (n := b) (by omega)
      have ga := longN_ge (n := a) (by omega)
      have gb := longN_ge (n := b) (by omega)
      have ua := lt_longN a
      have ub := lt_longN b
      rcases Nat.lt_trichotomy (longN a) (longN b) with h | h | h
      · have : 256 ^ longN a ≤ 256 ^ (longN b - 1) := Nat.pow_le_pow_right (by omega) (by omega)
        rw [e1, e2, less_head (by omega) (by omega) (by omega)]
        simp
        omega
      · have hk : ∀ x ∈ (247 + longN a) :: be (longN a) a, x < 256 := e1 ▸ numB_lt a ha
        have hk' : ∀ x ∈ (247 + longN b) :: be (longN b) b, x < 256 := e2 ▸ numB_lt b hb
        rw [e1, e2, less_num ((247 + longN a) :: be (longN a) a) ((247 + longN b) :: be (longN b) b) (by simp [be_length, h]) hk hk']
        simp only [num_cons, num_be, be_length]
        rw [Nat.mod_eq_of_lt ua, Nat.mod_eq_of_lt ub, h]
        congr 1
        apply propext
        omega
      · have : 256 ^ longN b ≤ 256 ^ (longN a - 1) := Nat.pow_le_pow_right (by omega) (by omega)
        rw [e1, e2, less_head' (by omega) (by omega) (by omega)]
        simp
        omega
theorem numB_inj {a b : Nat} (ha : a < 18446744073709551616) (hb : b < 18446744073709551616) (h : numB a = numB b) : a = b := by
  have h1 := numB_less ha hb
  have h2 := numB_less hb ha
  rw [h] at h1 h2
  have h3 := numB_less hb hb
  rw [h3] at h1 h2
  simp at h1 h2
  omega
theorem less_str {a b : Nat} (ha : a < 18446744073709551616) (hb : b < 18446744073709551616) : Op.bytesLess (strOf (numB a)).toList (strOf (numB b)).toList = decide (a < b) := by
  rw [strOf_toList, strOf_toList, numB_less ha hb]
theorem eq_str {a b : Nat} (ha : a < 18446744073709551616) (hb : b < 18446744073709551616) : ((strOf (numB a)).toList == (strOf (numB b)).toList) = decide (a = b) := by
  by_cases h : a = b
  · subst h
    simp
  · have : ¬(strOf (numB a)).toList = (strOf (numB b)).toList := fun e => h (numB_inj ha hb (strOf_inj (numB_lt a ha) (numB_lt b hb) e))
    simp [this, h]
theorem wlaid_one (a : Int) (w : World) (ha : U64 a) (A : Option Addr) (c : Nat) (hr : Reads w w.heap.size 9 A 1 (itms [⟨0, a, 0, false, ByteArray.empty, 0, 0, 0, 0⟩])) :
    Calls Try.prog 22 #[.slice A 1 c] w fun e w' => ∃ u v, e = .returned (.tuple #[u, v]) ∧ Row w' w.heap.size u (numB a.toNat) ∧ Row w' w.heap.size v (numB a.toNat) ∧ Below w.heap.size w w' := by
  have hU := ha
  unfold U64 at hU
  have hk := numB_le a.toNat (by omega)
  have e : itemsB [⟨0, a, 0, false, ByteArray.empty, 0, 0, 0, 0⟩] = numB a.toNat := by simp [itemsB, itemB]
  have h := laid_any A 1 c [⟨0, a, 0, false, ByteArray.empty, 0, 0, 0, 0⟩] w hr (fun x hx => by
    obtain rfl := List.mem_singleton.1 hx
    unfold It.ok I64 U32
    exact ⟨by simp, ha, by simp, by simp, by simp, by simp, by simp⟩) (by rw [e]; omega) (by omega)
  rw [e] at h
  exact h
end Go.Proofs.Ythajbeooemngpaa
