import Derived.Test.YthajbeooemngpaaBe
/-! The number whose digits to the base 256 a list is. -/
namespace Go.Proofs.Ythajbeooemngpaa
open Go.RowKit
set_option linter.unusedVariables false
set_option linter.unusedSimpArgs false
def num (l : List Nat) : Nat := l.foldl (fun n x => n * 256 + x) 0
theorem num_acc : ∀ (l : List Nat) (a : Nat), l.foldl (fun n x => n * 256 + x) a = a * 256 ^ l.length + num l
  | [], a => by simp [num]
  | x :: l, a => by
    unfold num
    simp only [List.foldl_cons, List.length_cons]
    rw [num_acc l (a * 256 + x), num_acc l (0 * 256 + x), Nat.pow_succ, Nat.add_mul, Nat.zero_mul, Nat.zero_add, Nat.mul_assoc, Nat.mul_comm 256, Nat.add_assoc]
theorem num_cons (x : Nat) (l : List Nat) : num (x :: l) = x * 256 ^ l.length + num l := by
  show l.foldl _ (0 * 256 + x) = _
  rw [num_acc, Nat.zero_mul, Nat.zero_add]
theorem num_snoc (l : List Nat) (x : Nat) : num (l ++ [x]) = num l * 256 + x := by simp [num]
theorem num_append (l m : List Nat) : num (l ++ m) = num l * 256 ^ m.length + num m := by
  unfold num
  rw [List.foldl_append, num_acc]
  rfl
theorem num_lt : ∀ l : List Nat, (∀ x ∈ l, x < 256) → num l < 256 ^ l.length
  | [], _ => by simp [num]
  | x :: l, h => by
    have h1 := num_lt l (fun y hy => h y (by simp [hy]))
    have h2 := h x (by simp)
    rw [num_cons, List.length_cons, Nat.pow_succ]
    have := Nat.mul_le_mul_right (256 ^ l.length) (show x + 1 ≤ 256 by omega)
    rw [Nat.add_mul, Nat.one_mul] at this
    rw [Nat.mul_comm _ 256]
    omega
theorem num_be : ∀ k n, num (be k n) = n % 256 ^ k
  | 0, n => by simp [be, num, Nat.mod_one]
  | k + 1, n => by
    simp only [be]
    rw [num_snoc, num_be k, Nat.pow_succ', Nat.mod_mul]
    omega

def seg (l : List Nat) (k i : Nat) : List Nat := ((l.take i).drop (4 * k)).take 4
end Go.Proofs.Ythajbeooemngpaa
