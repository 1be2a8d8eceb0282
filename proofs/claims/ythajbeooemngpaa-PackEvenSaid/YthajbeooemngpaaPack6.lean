import Derived.Test.YthajbeooemngpaaPack5
/-! Samples at even steps. -/
namespace Go.Proofs.Ythajbeooemngpaa
open Go.RowKit
set_option linter.unusedVariables false
set_option linter.unusedSimpArgs false
theorem smps_take : ∀ (l : List (Int × Int)) (m : Nat), smps (l.take m) = (smps l).take (m * 2)
  | [], m => by simp [smps]
  | p :: l, 0 => by simp [smps]
  | p :: l, m + 1 => by
    have e : smps (p :: l) = .int .i64 p.1 :: .int .i64 p.2 :: smps l := rfl
    rw [e, show (m + 1) * 2 = m * 2 + 1 + 1 by omega, List.take_succ_cons, List.take_succ_cons, List.take_succ_cons, ← smps_take l m]
    rfl
theorem smps_drop : ∀ (l : List (Int × Int)) (m : Nat), smps (l.drop m) = (smps l).drop (m * 2)
  | [], m => by simp [smps]
  | p :: l, 0 => by simp [smps]
  | p :: l, m + 1 => by
    have e : smps (p :: l) = .int .i64 p.1 :: .int .i64 p.2 :: smps l := rfl
    rw [e, show (m + 1) * 2 = m * 2 + 1 + 1 by omega, List.drop_succ_cons, List.drop_succ_cons, List.drop_succ_cons, ← smps_drop l m]
theorem Reads_take {w : World} {B n m : Nat} {A : Option Addr} {l : List (Int × Int)} (h : Reads w B 2 A n (smps l)) (hm : m ≤ n) : Reads w B 2 A m (smps (l.take m)) := by
  refine ⟨?_, fun hn => ?_⟩
  · have := h.1
    rw [smps_length] at this ⊢
    rw [List.length_take]
    omega
  · obtain ⟨ad, e, hb, hc⟩ := h.2 (by omega)
    refine ⟨ad, e, hb, fun j u hu => hc j u ?_⟩
    rw [smps_take, List.getElem?_take] at hu
    split at hu
    · exact hu
    · cases hu
/-- n samples from a start on at one step, with one number. -/
def ev (S T num : Int) (n : Nat) : List (Int × Int) := (List.range n).map fun (i : Nat) => (S + (i : Int) * T, num)
theorem ev_length (S T num : Int) (n : Nat) : (ev S T num n).length = n := by simp [ev]
theorem ev_get {S T num : Int} {n i : Nat} (h : i < n) : (ev S T num n)[i]? = some (S + (i : Int) * T, num) := by simp [ev, h]
theorem ev_succ (S T num : Int) (n : Nat) : ev S T num (n + 1) = ev S T num n ++ [(S + (n : Int) * T, num)] := by simp [ev, List.range_succ]
theorem ev_take (S T num : Int) {n k : Nat} (h : k ≤ n) : (ev S T num n).take k = ev S T num k := by
  apply List.ext_getElem?
  intro i
  rw [List.getElem?_take]
  split
  · rw [ev_get (by omega), ev_get (by omega)]
  · rw [List.getElem?_eq_none]
    rw [ev_length]
    omega
theorem mul_bd {i T : Int} {a : Int} (h0 : 0 ≤ i) (h1 : i ≤ 256) (h2 : 0 ≤ T) (h3 : T ≤ a) : 0 ≤ i * T ∧ i * T ≤ 256 * a := by
  have e1 : 0 ≤ i * T := Int.mul_nonneg h0 h2
  have e2 : i * T ≤ 256 * T := Int.mul_le_mul_of_nonneg_right h1 h2
  omega
theorem ev_fine {S T num : Int} {n : Nat} (hS : 0 ≤ S ∧ S ≤ 1000000) (hT : 1 ≤ T ∧ T ≤ 1000000) (hn : n ≤ 256) : fineP (ev S T num n) = true := by
  unfold fineP
  rw [ev_length]
  have h1 : decide (n ≤ 65536) = true := by simp; omega
  rw [h1, Bool.true_and]
  refine goodP_of fun i hi => ?_
  rw [ev_length] at hi
  have hm := mul_bd (i := (i : Int)) (by omega) (by omega) (by omega) hT.2
  cases i with
  | zero =>
    rw [okP_zero (ev_get hi)]
    simp
    omega
  | succ m =>
    rw [okP_succ (ev_get hi) (ev_get (by omega))]
    have e : ((m + 1 : Nat) : Int) * T = (m : Int) * T + T := by rw [Int.natCast_add, Int.add_mul]; simp
    have hm' := mul_bd (i := (m : Int)) (by omega) (by omega) (by omega) hT.2
    rw [e] at hm ⊢
    simp
    omega
theorem ev_i64 {S T num : Int} {n : Nat} (hS : 0 ≤ S ∧ S ≤ 1000000) (hT : 1 ≤ T ∧ T ≤ 1000000) (hn : n ≤ 256) (hnum : I64 num) : I64s (ev S T num n) := by
  intro p hp
  obtain ⟨i, hi, rfl⟩ := List.mem_map.1 hp
  have := mul_bd (i := (i : Int)) (by omega) (by have := List.mem_range.1 hi; omega) (by omega) hT.2
  exact ⟨by simp only; omega, hnum⟩
theorem ev_tm {S T num : Int} {n i : Nat} (h : i < n) : tm (ev S T num n) i = S + (i : Int) * T := tm_get (ev_get h)
theorem ev_nm {S T num : Int} {n i : Nat} (h : i < n) : nm (ev S T num n) i = num := nm_get (ev_get h)
theorem ev_dd {S T num : Int} {n i : Nat} (h : i + 2 < n) : dd (ev S T num n) (i + 2) = 0 := by
  unfold dd
  simp only [pg, pt]
  rw [ev_tm h, ev_tm (by omega), ev_tm (by omega)]
  have e : ((i + 2 : Nat) : Int) * T = (i : Int) * T + 2 * T := by rw [Int.natCast_add, Int.add_mul]; rfl
  have e' : ((i + 1 : Nat) : Int) * T = (i : Int) * T + T := by rw [Int.natCast_add, Int.add_mul]; simp
  rw [e, e']
  omega
theorem ev_dn {S T num : Int} {n i : Nat} (h : i + 1 < n) : dn (ev S T num n) (i + 1) = 0 := by
  unfold dn
  simp only [pn]
  rw [ev_nm h, ev_nm (by omega)]
  rw [show num - num = 0 by omega]
  unfold wrap64
  omega
theorem numB_zero : (numB (zig 0)).length = 1 := by rfl
theorem ev_more {S T num : Int} {n : Nat} : ∀ k, k + 2 ≤ n → (packB (ev S T num n) (k + 2)).length = (packB (ev S T num n) 2).length + 2 * k
  | 0, _ => rfl
  | k + 1, h => by
    have := ev_more (S := S) (T := T) (num := num) (n := n) k (by omega)
    rw [show k + 1 + 2 = (k + 2) + 1 by omega]
    simp only [packB, List.length_append] at this ⊢
    rw [ev_dd (by omega), ev_dn (i := k + 1) (by omega), numB_zero]
    omega
theorem ev_first {S T num : Int} {n m : Nat} (hn : 2 ≤ n) (hm : 2 ≤ m) : (packB (ev S T num n) 2).length + (numB m).length = (packB (ev S T num m) 2).length + (numB n).length := by
  simp only [packB, List.length_append, ev_length]
  have e0 : dd (ev S T num n) 0 = dd (ev S T num m) 0 := by unfold dd; rw [ev_tm (by omega), ev_tm (by omega)]; rfl
  have e1 : dd (ev S T num n) 1 = dd (ev S T num m) 1 := by unfold dd; simp only [pg, pt]; rw [ev_tm (by omega), ev_tm (by omega), ev_tm (by omega), ev_tm (by omega)]
  have e2 : dn (ev S T num n) 0 = dn (ev S T num m) 0 := by unfold dn; rw [ev_nm (by omega), ev_nm (by omega)]; rfl
  have e3 : dn (ev S T num n) 1 = dn (ev S T num m) 1 := by rw [ev_dn (i := 0) (by omega), ev_dn (i := 0) (by omega)]
  rw [e0, e1, e2, e3]
  omega
theorem numB_len {n : Nat} (h : n < 256) : (numB n).length = 1 + if 248 ≤ n then 1 else 0 := by
  rw [numB_length]
  by_cases h' : n < 248
  · rw [if_pos h', if_neg (by omega)]
  · rw [if_neg h', if_pos (by omega)]
    have h1 := longN_le 1 n (by omega)
    have h2 := longN_pos (n := n) (by omega)
    omega
theorem ev_even {S T num : Int} {n : Nat} (h2 : 2 ≤ n) (hn : n < 256) : ((packB (ev S T num n) n).length : Int) = (packB (ev S T num 2) 2).length + 2 * ((n : Int) - 2) + (if (248 : Int) ≤ n then 1 else 0) := by
  obtain ⟨k, rfl⟩ : ∃ k, n = k + 2 := ⟨n - 2, by omega⟩
  have e1 := ev_more (S := S) (T := T) (num := num) (n := k + 2) k (by omega)
  have e2 := ev_first (S := S) (T := T) (num := num) (n := k + 2) (m := 2) h2 (by omega)
  rw [numB_len hn, numB_len (by omega)] at e2
  rw [e1]
  simp only [show ¬(248 ≤ 2) by omega, if_false] at e2
  split at e2
  · rw [if_pos (by omega)]
    omega
  · rw [if_neg (by omega)]
    omega
theorem extra_any (n : Int) (w : World) : Calls Try.prog 21 #[.int .i64 n] w fun e w' => e = .returned (.int .i64 (if 248 ≤ n then 1 else 0)) ∧ Below w.heap.size w w' := by
  by_cases h : 248 ≤ n
  · rw [if_pos h]
    go_enter Try.func21, Try.ntmps21
    go_wp2
    refine bodyPost_ret (v := .int .i64 1) (by simp [results, Try.results21, go_sem] <;> rfl) rfl ⟨?_, by (repeat' (first | with_reducible exact Below.refl _ _ | with_reducible refine Below.ext ?_ ?_ _ | with_reducible refine Below.alloc ?_ ?_ _ | with_reducible refine Below.setCell ?_ ?_ _ | with_reducible refine Below.drew ?_ | with_reducible assumption | (simp [World.size_ext]; done) | (simp [World.size_ext]; omega)))⟩
    rfl
  · rw [if_neg h]
    go_enter Try.func21, Try.ntmps21
    go_wp2
    refine bodyPost_ret (v := .int .i64 0) (by simp [results, Try.results21, go_sem] <;> rfl) rfl ⟨?_, by (repeat' (first | with_reducible exact Below.refl _ _ | with_reducible refine Below.ext ?_ ?_ _ | with_reducible refine Below.alloc ?_ ?_ _ | with_reducible refine Below.setCell ?_ ?_ _ | with_reducible refine Below.drew ?_ | with_reducible assumption | (simp [World.size_ext]; done) | (simp [World.size_ext]; omega)))⟩
    rfl
end Go.Proofs.Ythajbeooemngpaa
