import Derived.Test.YtamnononemallaaDoorRows
import Derived.Test.YtamnononemallaaDoorGA
import Derived.WalkSpells
import Derived.WalkLawsBesides
import Derived.Deep.SlicePairs
import Derived.SizedLaws
/-! Several texts in one. -/
set_option linter.unusedVariables false
set_option linter.unusedSimpArgs false
/-! Samples; the programs' answers on them. -/
namespace Go.Proofs.YtamnononemallaaDoor
open Go.RowKit
def smps (l : List (Int × Int)) : List Value := l.flatMap fun p => [.int .i64 p.1, .int .i64 p.2]
theorem smps_length (l : List (Int × Int)) : (smps l).length = l.length * 2 := by
  induction l with
  | nil => rfl
  | cons p l ih => simp only [smps, List.flatMap_cons, List.length_append, List.length_cons, List.length_nil] at *; omega
theorem smps_append (l m : List (Int × Int)) : smps (l ++ m) = smps l ++ smps m := by simp [smps]
theorem smps_get : ∀ (l : List (Int × Int)) (i : Nat) (p : Int × Int), l[i]? = some p → (smps l)[i * 2]? = some (.int .i64 p.1) ∧ (smps l)[i * 2 + 1]? = some (.int .i64 p.2)
  | q :: l, 0, p, h => by
    simp only [List.getElem?_cons_zero, Option.some.injEq] at h
    subst h
    exact ⟨rfl, rfl⟩
  | q :: l, i + 1, p, h => by
    have := smps_get l i p (by simpa using h)
    have e : smps (q :: l) = .int .i64 q.1 :: .int .i64 q.2 :: smps l := rfl
    rw [e, show (i + 1) * 2 = i * 2 + 1 + 1 by omega]
    exact this
theorem and_mask (n : Int) : bits .and .i64 n 4294967295 = n % 4294967296 := by
  show IntKind.i64.wrap ((BitVec.ofInt 64 n &&& BitVec.ofInt 64 4294967295).toNat : Int) = _
  rw [BitVec.toNat_and, BitVec.toNat_ofInt, show (BitVec.ofInt 64 4294967295).toNat = 2 ^ 32 - 1 from by decide, Nat.and_two_pow_sub_one_eq_mod]
  have : (((n % ((2 ^ 64 : Nat) : Int)).toNat % 2 ^ 32 : Nat) : Int) = n % 4294967296 := by omega
  rw [this]
  exact IntWalk.i64_in _ (by omega)
theorem or_i64 (h l : Int) (hh : -2147483648 ≤ h ∧ h < 2147483648) (hl : 0 ≤ l ∧ l < 4294967296) : bits .or .i64 (h * 4294967296) l = h * 4294967296 + l := by
  show IntKind.i64.wrap ((BitVec.ofInt 64 (h * 4294967296) ||| BitVec.ofInt 64 l).toNat : Int) = _
  rw [BitVec.toNat_or, BitVec.toNat_ofInt, BitVec.toNat_ofInt]
  have e1 : ((h * 4294967296) % ((2 ^ 64 : Nat) : Int)).toNat = (h % 4294967296).toNat <<< 32 := by rw [Nat.shiftLeft_eq]; omega
  have e2 : (l % ((2 ^ 64 : Nat) : Int)).toNat = l.toNat := by omega
  rw [e1, e2, ← Nat.shiftLeft_add_eq_or_of_lt (show l.toNat < 2 ^ 32 by omega), Nat.shiftLeft_eq]
  unfold IntKind.wrap
  simp [IntKind.signed, IntKind.bits]
  omega
end Go.Proofs.YtamnononemallaaDoor
/-! What is told of samples: the program. -/
namespace Go.Proofs.YtamnononemallaaDoor
open Go.RowKit
def sumL : List (Int × Int) → Int
  | [] => 0
  | p :: l => p.2 + sumL l
def bestL (op : Int) : Int → List (Int × Int) → Int
  | b, [] => b
  | b, p :: l => bestL op (if (op = 3 ∧ p.2 < b) ∨ (op = 4 ∧ b < p.2) then p.2 else b) l
theorem sumL_append : ∀ l m : List (Int × Int), sumL (l ++ m) = sumL l + sumL m
  | [], m => by simp [sumL]
  | p :: l, m => by simp [sumL, sumL_append l m]; omega
theorem sumL_snoc (l : List (Int × Int)) (p : Int × Int) : sumL (l ++ [p]) = sumL l + p.2 := by simp [sumL_append, sumL]
theorem bestL_snoc (op : Int) : ∀ (b : Int) (l : List (Int × Int)) (p : Int × Int), bestL op b (l ++ [p]) = if (op = 3 ∧ p.2 < bestL op b l) ∨ (op = 4 ∧ bestL op b l < p.2) then p.2 else bestL op b l
  | b, [], p => rfl
  | b, q :: l, p => by simp only [List.cons_append, bestL]; exact bestL_snoc op _ l p
def I64s (l : List (Int × Int)) : Prop := ∀ p ∈ l, (-9223372036854775808 ≤ p.1 ∧ p.1 ≤ 9223372036854775807) ∧ -9223372036854775808 ≤ p.2 ∧ p.2 ≤ 9223372036854775807
theorem sumL_bd : ∀ l : List (Int × Int), I64s l → -(l.length * 9223372036854775808 : Int) ≤ sumL l ∧ sumL l ≤ l.length * 9223372036854775808
  | [], _ => by simp [sumL]
  | p :: l, h => by
    have := sumL_bd l (fun q hq => h q (by simp [hq]))
    have hp := (h p (by simp)).2
    simp only [sumL, List.length_cons]
    omega
theorem bestL_bd (op : Int) : ∀ (b : Int) (l : List (Int × Int)), (-9223372036854775808 ≤ b ∧ b ≤ 9223372036854775807) → I64s l → -9223372036854775808 ≤ bestL op b l ∧ bestL op b l ≤ 9223372036854775807
  | b, [], hb, _ => hb
  | b, p :: l, hb, h => bestL_bd op _ l (by have := (h p (by simp)).2; split <;> assumption) (fun q hq => h q (by simp [hq]))
def foldT (op : Int) (l : List (Int × Int)) : Int := if op = 5 then (l.getLastD (0, 0)).2 - (l.headD (0, 0)).2 else sumL l
def foldA (op : Int) (l : List (Int × Int)) : Int × Bool × Int :=
  if op < 1 ∨ 5 < op ∨ 65536 < l.length then (0, false, 1) else if op = 2 then (l.length, true, 0) else if l = [] then (0, false, 0)
  else if op = 3 ∨ op = 4 then (bestL op (l.headD (0, 0)).2 l, true, 0) else if -9223372036854775808 ≤ foldT op l ∧ foldT op l ≤ 9223372036854775807 then (foldT op l, true, 0) else (0, false, 20)
/-- A struct of two numbers in memory. -/
def Two (w : World) (g : Nat) (x y : Int) : Prop := w.cell? ⟨g, 0, none⟩ = some (.int .i64 x) ∧ w.cell? ⟨g, 1, none⟩ = some (.int .i64 y)

end Go.Proofs.YtamnononemallaaDoor

/-! The document's sum of numbers, digit by digit. -/
namespace Go.Proofs.YtamnononemallaaDoor
open Go.RowKit
def i64s (l : List Int) : List Value := l.map fun x => .int .i64 x
theorem i64s_length (l : List Int) : (i64s l).length = l.length := by simp [i64s]
theorem i64s_append (l m : List Int) : i64s (l ++ m) = i64s l ++ i64s m := by simp [i64s]
theorem i64s_get (l : List Int) (i : Nat) (x : Int) (h : l[i]? = some x) : (i64s l)[i]? = some (.int .i64 x) := by simp [i64s, h]
theorem i64s_set (l : List Int) (i : Nat) (x : Int) : (i64s l).toArray.setIfInBounds i (.int .i64 x) = (i64s (l.set i x)).toArray := by simp [i64s, List.map_set]
def dv : List Int → Int
  | [] => 0
  | d :: D => d + 65536 * dv D
theorem dv_set : ∀ (D : List Int) (k : Nat) (x y : Int), D[k]? = some x → dv (D.set k y) = dv D + (y - x) * 65536 ^ k
  | d :: D, 0, x, y, h => by
    simp only [List.getElem?_cons_zero, Option.some.injEq] at h
    subst h
    simp [dv]
    omega
  | d :: D, k + 1, x, y, h => by
    have := dv_set D k x y (by simpa using h)
    simp only [List.set_cons_succ, dv, this, Int.pow_succ]
    rw [Int.mul_add, ← Int.add_assoc, Int.mul_comm (65536 ^ k) 65536, Int.mul_left_comm]
def sumI : List Int → Int
  | [] => 0
  | p :: l => p + sumI l
theorem sumI_append : ∀ l m : List Int, sumI (l ++ m) = sumI l + sumI m
  | [], m => by simp [sumI]
  | p :: l, m => by simp [sumI, sumI_append l m]; omega
theorem sumI_snoc (l : List Int) (p : Int) : sumI (l ++ [p]) = sumI l + p := by simp [sumI_append, sumI]
def In64 (l : List Int) : Prop := ∀ p ∈ l, -9223372036854775808 ≤ p ∧ p ≤ 9223372036854775807
/-- Digits while they are gathered: those ahead of a place lie in one span, the others in another. -/
def Dg (D : List Int) (k : Nat) (a b A B : Int) : Prop := D.length = 8 ∧ ∀ i x, D[i]? = some x → (4 ≤ i → x = 0) ∧ (i < k → a ≤ x ∧ x ≤ b) ∧ (k ≤ i → A ≤ x ∧ x ≤ B)
theorem Dg.step {D : List Int} {k : Nat} {a b A B y : Int} (h : Dg D k a b A B) (hk : k < 4) (hy : a ≤ y ∧ y ≤ b) : Dg (D.set k y) (k + 1) a b A B := by
  refine ⟨by rw [List.length_set]; exact h.1, fun i x hx => ?_⟩
  by_cases e : k = i
  · subst e
    rw [List.getElem?_set_self (by rw [h.1]; omega)] at hx
    obtain rfl := Option.some.inj hx
    exact ⟨by omega, by omega, by omega⟩
  · rw [List.getElem?_set_ne e] at hx
    have := h.2 i x hx
    exact ⟨this.1, fun hi => this.2.1 (by omega), fun hi => this.2.2 (by omega)⟩
theorem Dg.next {D : List Int} {a b A B a' b' : Int} (h : Dg D 4 a b A B) (ha : a ≤ 0) (hb : 0 ≤ b) : Dg D 0 a' b' a b :=
  ⟨h.1, fun i x hx => ⟨(h.2 i x hx).1, by omega, fun _ => by
    by_cases hi : 4 ≤ i
    · have := (h.2 i x hx).1 hi
      omega
    · exact (h.2 i x hx).2.1 (by omega)⟩⟩
/-- Digits while they are carried. -/
def Dc (D : List Int) (k : Nat) : Prop := D.length = 8 ∧ ∀ i x, D[i]? = some x → (i < k → 0 ≤ x ∧ x < 65536) ∧ (i = k → -68719476736 ≤ x ∧ x ≤ 68719476736) ∧ (k < i → -17179869184 ≤ x ∧ x ≤ 17179869184)
theorem Dc.step {D : List Int} {k : Nat} {x y : Int} (h : Dc D k) (hk : k < 7) (hx : D[k]? = some x) (hy : D[k + 1]? = some y) :
    Dc ((D.set k (x - x / 65536 * 65536)).set (k + 1) (y + x / 65536)) (k + 1) ∧ dv ((D.set k (x - x / 65536 * 65536)).set (k + 1) (y + x / 65536)) = dv D := by
  have bx := (h.2 k x hx).2.1 rfl
  have by_ := (h.2 (k + 1) y hy).2.2 (by omega)
  constructor
  · refine ⟨by rw [List.length_set, List.length_set]; exact h.1, fun i z hz => ?_⟩
    by_cases e : k + 1 = i
    · subst e
      rw [List.getElem?_set_self (by rw [List.length_set, h.1]; omega)] at hz
      obtain rfl := Option.some.inj hz
      exact ⟨by omega, by omega, by omega⟩
    · rw [List.getElem?_set_ne e] at hz
      by_cases e' : k = i
      · subst e'
        rw [List.getElem?_set_self (by rw [h.1]; omega)] at hz
        obtain rfl := Option.some.inj hz
        exact ⟨by omega, by omega, by omega⟩
      · rw [List.getElem?_set_ne e'] at hz
        have := h.2 i z hz
        exact ⟨fun hi => this.1 (by omega), by omega, fun hi => this.2.2 (by omega)⟩
  · rw [dv_set _ (k + 1) y _ (by rw [List.getElem?_set_ne (by omega)]; exact hy), dv_set _ k x _ hx, Int.pow_succ]
    have e1 : (x - x / 65536 * 65536 - x) * (65536 : Int) ^ k = -(x / 65536 * (65536 ^ k * 65536)) := by
      rw [show x - x / 65536 * 65536 - x = -(x / 65536 * 65536) by omega, Int.neg_mul, Int.mul_assoc, Int.mul_comm (65536 ^ k) 65536]
    have e2 : (y + x / 65536 - y) * ((65536 : Int) ^ k * 65536) = x / 65536 * (65536 ^ k * 65536) := by rw [show y + x / 65536 - y = x / 65536 by omega]
    rw [e1, e2]
    omega
theorem len8 {α : Type} : ∀ (D : List α), D.length = 8 → ∃ a b c d e f g h, D = [a, b, c, d, e, f, g, h]
  | [a, b, c, d, e, f, g, h], _ => ⟨a, b, c, d, e, f, g, h, rfl⟩
theorem quo_low (x : Int) (h : x.tmod 65536 < 0) : x.tdiv 65536 - 1 = x / 65536 := by
  by_cases hx : 0 ≤ x
  · rw [Int.tmod_eq_emod_of_nonneg hx] at h
    omega
  · obtain ⟨m, rfl⟩ : ∃ m, x = -m := ⟨-x, by omega⟩
    rw [Int.neg_tmod, Int.tmod_eq_emod_of_nonneg (by omega)] at h
    rw [Int.neg_tdiv, Int.tdiv_eq_ediv_of_nonneg (by omega)]
    omega
theorem quo_up (x : Int) (h : ¬x.tmod 65536 < 0) : x.tdiv 65536 = x / 65536 := by
  by_cases hx : 0 ≤ x
  · exact Int.tdiv_eq_ediv_of_nonneg hx
  · obtain ⟨m, rfl⟩ : ∃ m, x = -m := ⟨-x, by omega⟩
    rw [Int.neg_tmod, Int.tmod_eq_emod_of_nonneg (by omega)] at h
    rw [Int.neg_tdiv, Int.tdiv_eq_ediv_of_nonneg (by omega)]
    omega
theorem Dg.zero : Dg [0, 0, 0, 0, 0, 0, 0, 0] 0 0 0 0 (65535 * ((0 : Nat) : Int)) := ⟨rfl, fun i x hx => by
  have : x ∈ [(0 : Int), 0, 0, 0, 0, 0, 0, 0] := List.mem_of_getElem? hx
  simp at this
  subst this
  simp⟩
theorem mod_up (U k : Nat) : U % 65536 ^ (k + 1) = U % 65536 ^ k + U / 65536 ^ k % 65536 * 65536 ^ k := by
  rw [Nat.pow_succ, Nat.mod_mul, Nat.mul_comm (65536 ^ k)]
theorem dv_more (E : List Int) (k U : Nat) (x : Int) (hx : E[k]? = some x) (t : Int) (W : Int) (h : dv E = W + t * ((U % 65536 ^ k : Nat) : Int)) :
    dv (E.set k (x + t * ((U / 65536 ^ k % 65536 : Nat) : Int))) = W + t * ((U % 65536 ^ (k + 1) : Nat) : Int) := by
  rw [dv_set _ _ _ _ hx, h, mod_up, Int.natCast_add, Int.natCast_mul, Int.natCast_pow, Int.mul_add]
  rw [show x + t * ((U / 65536 ^ k % 65536 : Nat) : Int) - x = t * ((U / 65536 ^ k % 65536 : Nat) : Int) by omega, Int.mul_assoc]
  rw [show (((65536 : Nat) : Int)) = 65536 from rfl]
  omega
theorem carry_low (x z : Int) (h : x.tmod 65536 < 0) (hx : -68719476736 ≤ x ∧ x ≤ 68719476736) (hz : -17179869184 ≤ z ∧ z ≤ 17179869184) :
    wrap64 (x - wrap64 (wrap64 (x.tdiv 65536 - 1) * 65536)) = x - x / 65536 * 65536 ∧ wrap64 (z + wrap64 (x.tdiv 65536 - 1)) = z + x / 65536 := by
  rw [quo_low x h]
  unfold wrap64
  omega
theorem carry_up (x z : Int) (h : 0 ≤ x.tmod 65536) (hx : -68719476736 ≤ x ∧ x ≤ 68719476736) (hz : -17179869184 ≤ z ∧ z ≤ 17179869184) :
    wrap64 (x - wrap64 (x.tdiv 65536 * 65536)) = x - x / 65536 * 65536 ∧ wrap64 (z + x.tdiv 65536) = z + x / 65536 := by
  rw [quo_up x (by omega)]
  unfold wrap64
  omega
def totA (p m : List Int) : Int × Bool := if -9223372036854775808 ≤ sumI p - sumI m ∧ sumI p - sumI m ≤ 9223372036854775807 then (sumI p - sumI m, true) else (0, false)
end Go.Proofs.YtamnononemallaaDoor

/-! The document's answer of a fold. -/
namespace Go.Proofs.YtamnononemallaaDoor
open Go.RowKit
theorem infoI : (Tryd.prog.info? 2).map (fun i => (i.zero, i.size, i.bytes)) = some (some (.int .i64 0), 1, 8) := by kernel_rfl
theorem sumI_nums : ∀ l : List (Int × Int), sumI (l.map (·.2)) = sumL l
  | [] => rfl
  | p :: l => by simp [sumI, sumL, sumI_nums l]
theorem I64s.nums {l : List (Int × Int)} (h : I64s l) : In64 (l.map (·.2)) := fun p hp => by
  obtain ⟨q, hq, rfl⟩ := List.mem_map.1 hp
  exact (h q hq).2
theorem bestL_same (op : Int) (p : Int × Int) (l : List (Int × Int)) : bestL op p.2 (p :: l) = bestL op p.2 l := by
  simp only [bestL]
  rw [if_neg (by omega)]
theorem own_slice {base : Nat} {e : TypeId} {size n : Nat} {w : World} {v : Value} {xs : List Value} (h : w.ownsRow base e size v n xs) : ∃ A cap, v = .slice A n cap ∧ n ≤ cap := by
  rcases h.2 with ⟨rfl, rfl⟩ | ⟨g, cap, cur, rfl, -, -, hn, -⟩
  · exact ⟨none, 0, rfl, Nat.le_refl _⟩
  · exact ⟨_, _, rfl, hn⟩
theorem one_reads {w : World} {g : Nat} {t : TypeId} {u : Value} (h : Blk w g t #[u]) : Reads w w.heap.size 1 (some ⟨g, 0, none⟩) 1 [u] :=
  Reads.of_own (h.own (b := 0) (size := 1) (n := 1) (cap := 1) (Nat.zero_le _) (Nat.le_refl _) (by unfold maxLen; omega) rfl rfl rfl)
def Held (P : Prop) : Prop := P
theorem Held.out {P : Prop} (h : Held P) : P := h
end Go.Proofs.YtamnononemallaaDoor

/-! The samples of an argument; the laws of folds. -/
namespace Go.Proofs.YtamnononemallaaDoor
open Go.RowKit
end Go.Proofs.YtamnononemallaaDoor

/-! The growth over parts. -/
namespace Go.Proofs.YtamnononemallaaDoor
open Go.RowKit
theorem smps_take : ∀ (l : List (Int × Int)) (m : Nat), smps (l.take m) = (smps l).take (m * 2)
  | [], m => by simp [smps]
  | p :: l, 0 => by simp [smps]
  | p :: l, m + 1 => by
    have e : smps (p :: l) = .int .i64 p.1 :: .int .i64 p.2 :: smps l := rfl
    rw [e, show (m + 1) * 2 = m * 2 + 1 + 1 by omega, List.take_succ_cons, List.take_succ_cons, List.take_succ_cons, ← smps_take l m]
    rfl
theorem smps_drop : ∀ (l : List (Int × Int)) (m : Nat), smps (l.drop m) = (smps l).drop (m * 2)
  | [], m => by simp [smps]
  | p :: l, 0 => by simp [smps]
  | p :: l, m + 1 => by
    have e : smps (p :: l) = .int .i64 p.1 :: .int .i64 p.2 :: smps l := rfl
    rw [e, show (m + 1) * 2 = m * 2 + 1 + 1 by omega, List.drop_succ_cons, List.drop_succ_cons, List.drop_succ_cons, ← smps_drop l m]
theorem Reads_take {w : World} {B n m : Nat} {A : Option Addr} {l : List (Int × Int)} (h : Reads w B 2 A n (smps l)) (hm : m ≤ n) : Reads w B 2 A m (smps (l.take m)) := by
  refine ⟨?_, fun hn => ?_⟩
  · have := h.1
    rw [smps_length] at this ⊢
    rw [List.length_take]
    omega
  · obtain ⟨ad, e, hb, hc⟩ := h.2 (by omega)
    refine ⟨ad, e, hb, fun j u hu => hc j u ?_⟩
    rw [smps_take, List.getElem?_take] at hu
    split at hu
    · exact hu
    · cases hu
theorem Reads_drop {w : World} {B n m b o : Nat} {l : List (Int × Int)} (h : Reads w B 2 (some ⟨b, o, none⟩) n (smps l)) (hm : m ≤ n) : Reads w B 2 (some ⟨b, o + m * 2, none⟩) (n - m) (smps (l.drop m)) := by
  refine ⟨?_, fun hn => ?_⟩
  · have := h.1
    rw [smps_length] at this ⊢
    rw [List.length_drop]
    omega
  · obtain ⟨ad, e, hb, hc⟩ := h.2 (by omega)
    obtain rfl := Option.some.inj e
    refine ⟨_, rfl, hb, fun j u hu => ?_⟩
    rw [smps_drop, List.getElem?_drop] at hu
    rw [add_plain, Nat.add_assoc, ← add_plain]
    exact hc _ u hu
theorem I64s.take {l : List (Int × Int)} (h : I64s l) (m : Nat) : I64s (l.take m) := fun p hp => h p (List.mem_of_mem_take hp)
theorem I64s.drop {l : List (Int × Int)} (h : I64s l) (m : Nat) : I64s (l.drop m) := fun p hp => h p (List.mem_of_mem_drop hp)
theorem fold5 (l : List (Int × Int)) (hn : l ≠ []) (hl : l.length ≤ 65536) : ∃ v p e, foldA 5 l = (v, p, e) ∧ ((e = 0 ∧ p = true ∧ v = (l.getLastD (0, 0)).2 - (l.headD (0, 0)).2 ∧ -9223372036854775808 ≤ v ∧ v ≤ 9223372036854775807) ∨ e = 20) := by
  unfold foldA
  rw [if_neg (by omega), if_neg (by omega), if_neg hn, if_neg (by omega)]
  have : foldT 5 l = (l.getLastD (0, 0)).2 - (l.headD (0, 0)).2 := by unfold foldT; rw [if_pos rfl]
  by_cases h : -9223372036854775808 ≤ foldT 5 l ∧ foldT 5 l ≤ 9223372036854775807
  · rw [if_pos h]
    exact ⟨_, _, _, rfl, .inl ⟨rfl, rfl, this, h⟩⟩
  · rw [if_neg h]
    exact ⟨_, _, _, rfl, .inr rfl⟩
theorem split_ends (l : List (Int × Int)) (k : Nat) (hk : k < l.length) : ((l.take (k + 1)).getLastD (0, 0)) = ((l.drop k).headD (0, 0)) ∧ (l.take (k + 1)).headD (0, 0) = l.headD (0, 0) ∧ (l.drop k).getLastD (0, 0) = l.getLastD (0, 0) := by
  refine ⟨?_, ?_, ?_⟩
  · rw [List.getLastD_eq_getLast?, List.getLast?_eq_getElem?, List.headD_eq_head?_getD, List.head?_drop, List.length_take, List.getElem?_take]
    rw [if_pos (by omega), show min (k + 1) l.length - 1 = k by omega]
  · cases l with
    | nil => simp at hk
    | cons a r => rfl
  · rw [List.getLastD_eq_getLast?, List.getLastD_eq_getLast?, List.getLast?_drop, if_neg (by omega)]
end Go.Proofs.YtamnononemallaaDoor

/-! The order of samples. -/
namespace Go.Proofs.YtamnononemallaaDoor
open Go.RowKit
theorem sumL_perm {l m : List (Int × Int)} (h : l.Perm m) : sumL l = sumL m := by
  induction h with
  | nil => rfl
  | cons x _ ih => simp [sumL, ih]
  | swap x y l => simp only [sumL]; omega
  | trans _ _ h1 h2 => exact h1.trans h2
theorem best3 : ∀ (l : List (Int × Int)) (b : Int), (bestL 3 b l = b ∨ ∃ p ∈ l, bestL 3 b l = p.2) ∧ bestL 3 b l ≤ b ∧ ∀ p ∈ l, bestL 3 b l ≤ p.2
  | [], b => ⟨.inl rfl, Int.le_refl _, fun p hp => by cases hp⟩
  | q :: l, b => by
    simp only [bestL]
    by_cases h : q.2 < b
    · rw [if_pos (by simp; omega)]
      obtain ⟨h1, h2, h3⟩ := best3 l q.2
      refine ⟨.inr ?_, by omega, fun p hp => ?_⟩
      · rcases h1 with h1 | ⟨p, hp, h1⟩
        · exact ⟨q, by simp, h1⟩
        · exact ⟨p, by simp [hp], h1⟩
      · rcases List.mem_cons.1 hp with rfl | hp
        · exact h2
        · exact h3 p hp
    · rw [if_neg (by omega)]
      obtain ⟨h1, h2, h3⟩ := best3 l b
      refine ⟨?_, h2, fun p hp => ?_⟩
      · rcases h1 with h1 | ⟨p, hp, h1⟩
        · exact .inl h1
        · exact .inr ⟨p, by simp [hp], h1⟩
      · rcases List.mem_cons.1 hp with rfl | hp
        · omega
        · exact h3 p hp
theorem best4 : ∀ (l : List (Int × Int)) (b : Int), (bestL 4 b l = b ∨ ∃ p ∈ l, bestL 4 b l = p.2) ∧ b ≤ bestL 4 b l ∧ ∀ p ∈ l, p.2 ≤ bestL 4 b l
  | [], b => ⟨.inl rfl, Int.le_refl _, fun p hp => by cases hp⟩
  | q :: l, b => by
    simp only [bestL]
    by_cases h : b < q.2
    · rw [if_pos (by simp; omega)]
      obtain ⟨h1, h2, h3⟩ := best4 l q.2
      refine ⟨.inr ?_, by omega, fun p hp => ?_⟩
      · rcases h1 with h1 | ⟨p, hp, h1⟩
        · exact ⟨q, by simp, h1⟩
        · exact ⟨p, by simp [hp], h1⟩
      · rcases List.mem_cons.1 hp with rfl | hp
        · exact h2
        · exact h3 p hp
    · rw [if_neg (by omega)]
      obtain ⟨h1, h2, h3⟩ := best4 l b
      refine ⟨?_, h2, fun p hp => ?_⟩
      · rcases h1 with h1 | ⟨p, hp, h1⟩
        · exact .inl h1
        · exact .inr ⟨p, by simp [hp], h1⟩
      · rcases List.mem_cons.1 hp with rfl | hp
        · omega
        · exact h3 p hp
/-- The least, the greatest number of samples: one of them, and all others are on its one side. -/
def LeastOf (m : Int) (l : List (Int × Int)) : Prop := (∃ p ∈ l, m = p.2) ∧ ∀ p ∈ l, m ≤ p.2
def GreatestOf (m : Int) (l : List (Int × Int)) : Prop := (∃ p ∈ l, m = p.2) ∧ ∀ p ∈ l, p.2 ≤ m
theorem head_mem {l : List (Int × Int)} (h : l ≠ []) : l.headD (0, 0) ∈ l := by
  cases l with
  | nil => exact absurd rfl h
  | cons a r => simp
theorem least_best {l : List (Int × Int)} (h : l ≠ []) : LeastOf (bestL 3 (l.headD (0, 0)).2 l) l := by
  obtain ⟨h1, h2, h3⟩ := best3 l (l.headD (0, 0)).2
  refine ⟨?_, h3⟩
  rcases h1 with h1 | h1
  · exact ⟨_, head_mem h, h1⟩
  · exact h1
theorem greatest_best {l : List (Int × Int)} (h : l ≠ []) : GreatestOf (bestL 4 (l.headD (0, 0)).2 l) l := by
  obtain ⟨h1, h2, h3⟩ := best4 l (l.headD (0, 0)).2
  refine ⟨?_, h3⟩
  rcases h1 with h1 | h1
  · exact ⟨_, head_mem h, h1⟩
  · exact h1
theorem LeastOf.one {m m' : Int} {l : List (Int × Int)} (h : LeastOf m l) (h' : LeastOf m' l) : m = m' := by
  obtain ⟨⟨p, hp, rfl⟩, h1⟩ := h
  obtain ⟨⟨q, hq, rfl⟩, h2⟩ := h'
  have := h1 q hq
  have := h2 p hp
  omega
theorem GreatestOf.one {m m' : Int} {l : List (Int × Int)} (h : GreatestOf m l) (h' : GreatestOf m' l) : m = m' := by
  obtain ⟨⟨p, hp, rfl⟩, h1⟩ := h
  obtain ⟨⟨q, hq, rfl⟩, h2⟩ := h'
  have := h1 q hq
  have := h2 p hp
  omega
theorem foldA_perm {l m : List (Int × Int)} (h : l.Perm m) (op : Int) (ho : op ≤ 4) : foldA op l = foldA op m := by
  have hl := h.length_eq
  unfold foldA
  rw [hl]
  by_cases h1 : op < 1 ∨ 5 < op ∨ 65536 < m.length
  · rw [if_pos h1, if_pos h1]
  rw [if_neg h1, if_neg h1]
  by_cases h2 : op = 2
  · rw [if_pos h2, if_pos h2]
  rw [if_neg h2, if_neg h2]
  by_cases h3 : m = []
  · rw [if_pos h3, if_pos (by subst h3; exact List.length_eq_zero_iff.1 hl)]
  have h4 : l ≠ [] := by rintro rfl; exact h3 (List.length_eq_zero_iff.1 hl.symm)
  rw [if_neg h3, if_neg h4]
  by_cases h5 : op = 3 ∨ op = 4
  · rw [if_pos h5, if_pos h5]
    rcases h5 with rfl | rfl
    · have a := least_best h4
      have b := least_best h3
      have : LeastOf (bestL 3 (l.headD (0, 0)).2 l) m := ⟨by obtain ⟨p, hp, e⟩ := a.1; exact ⟨p, h.mem_iff.1 hp, e⟩, fun p hp => a.2 p (h.mem_iff.2 hp)⟩
      rw [this.one b]
    · have a := greatest_best h4
      have b := greatest_best h3
      have : GreatestOf (bestL 4 (l.headD (0, 0)).2 l) m := ⟨by obtain ⟨p, hp, e⟩ := a.1; exact ⟨p, h.mem_iff.1 hp, e⟩, fun p hp => a.2 p (h.mem_iff.2 hp)⟩
      rw [this.one b]
  · rw [if_neg h5, if_neg h5]
    have : foldT op l = foldT op m := by unfold foldT; rw [if_neg (by omega), if_neg (by omega), sumL_perm h]
    rw [this]
theorem smps_set (l : List (Int × Int)) : ∀ (i : Nat) (p : Int × Int), i < l.length → ((smps l).set (i * 2) (.int .i64 p.1)).set (i * 2 + 1) (.int .i64 p.2) = smps (l.set i p) := by
  induction l with
  | nil => intro i p h; simp at h
  | cons q l ih =>
    intro i p h
    have e : smps (q :: l) = .int .i64 q.1 :: .int .i64 q.2 :: smps l := rfl
    cases i with
    | zero => rfl
    | succ i =>
      rw [e, show (i + 1) * 2 = i * 2 + 1 + 1 by omega]
      simp only [List.set_cons_succ]
      rw [ih i p (by simpa using h)]
      rfl
/-- A row that the call owns, one of its cells written anew. -/
theorem own_set {w : World} {base g n cap i size : Nat} {e : TypeId} {xs : List Value} (h : w.ownsRow base e size (.slice (some ⟨g, 0, none⟩) n cap) n xs) (u : Value) (hi : i < n * size) :
    (w.setCell ⟨g, i, none⟩ u).ownsRow base e size (.slice (some ⟨g, 0, none⟩) n cap) n (xs.set i u) := by
  refine ⟨by rw [List.length_set]; exact h.1, .inr ?_⟩
  rcases h.2 with ⟨h1, _⟩ | ⟨g', cap', cur, h1, h2, h3, h4, h5, h6, h7⟩
  · cases h1
  · injection h1 with e1 e2 e3
    injection e1 with e1
    injection e1 with e1
    subst e1 e3
    refine ⟨g, cap, cur.setIfInBounds i u, rfl, h2, ?_, h4, h5, by simpa using h6, ?_⟩
    · exact Blk.set_ (show Blk w g e cur from h3) i u
    · rw [Array.toList_setIfInBounds, List.take_set, h7]
theorem own_cells {w : World} {base g n cap size : Nat} {e : TypeId} {xs : List Value} (h : w.ownsRow base e size (.slice (some ⟨g, 0, none⟩) n cap) n xs) : (∀ i u, xs[i]? = some u → w.cell? ⟨g, i, none⟩ = some u) ∧ (∀ i, w.frozen? ⟨g, i, none⟩ = false) ∧ base ≤ g ∧ g < w.heap.size := by
  rcases h.2 with ⟨h1, _⟩ | ⟨g', cap', cur, h1, h2, h3, h4, h5, h6, h7⟩
  · cases h1
  · injection h1 with e1 e2 e3
    injection e1 with e1
    injection e1 with e1
    subst e1 e3
    refine ⟨fun i u hu => ?_, blk_frozen h3, h2, blk_lt h3⟩
    rw [blk_cell h3]
    rw [← h7, List.getElem?_take] at hu
    split at hu
    · simpa using hu
    · cases hu
theorem own_ext {w : World} {base n size : Nat} {e : TypeId} {v : Value} {xs : List Value} (h : w.ownsRow base e size v n xs) (X : Ext) : (w.ext X).ownsRow base e size v n xs := by
  refine ⟨h.1, ?_⟩
  rcases h.2 with h1 | ⟨g', cap', cur, h1, h2, h3, h4⟩
  · exact .inl h1
  · exact .inr ⟨g', cap', cur, h1, h2, (World.heap_ext (blk_lt h3)).trans h3, h4⟩
theorem own_pair {w : World} {base g n cap i : Nat} {e : TypeId} {l : List (Int × Int)} (h : w.ownsRow base e 2 (.slice (some ⟨g, 0, none⟩) n cap) n (smps l)) (p : Int × Int) (hi : i < n) :
    ((w.setCell ⟨g, i * 2, none⟩ (.int .i64 p.1)).setCell ⟨g, i * 2 + 1, none⟩ (.int .i64 p.2)).ownsRow base e 2 (.slice (some ⟨g, 0, none⟩) n cap) n (smps (l.set i p)) := by
  have := own_set (own_set h (.int .i64 p.1) (show i * 2 < n * 2 by omega)) (.int .i64 p.2) (show i * 2 + 1 < n * 2 by omega)
  rwa [smps_set l i p (by have := h.1; rw [smps_length] at this; omega)] at this
end Go.Proofs.YtamnononemallaaDoor

/-! Window by window: the program. -/
namespace Go.Proofs.YtamnononemallaaDoor
open Go.RowKit
/-- From a place on, the samples ahead of a time are passed. -/
def adv (l : List (Int × Int)) (t : Int) (a : Nat) : Nat := a + ((l.drop a).takeWhile fun p => decide (p.1 < t)).length
theorem adv_step {l : List (Int × Int)} {t : Int} {a : Nat} {p : Int × Int} (hp : l[a]? = some p) (h : p.1 < t) : adv l t (a + 1) = adv l t a := by
  unfold adv
  have hd : l.drop a = p :: l.drop (a + 1) := by
    obtain ⟨ha, rfl⟩ := List.getElem?_eq_some_iff.1 hp
    exact List.drop_eq_getElem_cons ha
  rw [hd, List.takeWhile_cons, if_pos (by simpa using h)]
  simp only [List.length_cons]
  omega
theorem adv_stop {l : List (Int × Int)} {t : Int} {a : Nat} {p : Int × Int} (hp : l[a]? = some p) (h : ¬p.1 < t) : adv l t a = a := by
  unfold adv
  have hd : l.drop a = p :: l.drop (a + 1) := by
    obtain ⟨ha, rfl⟩ := List.getElem?_eq_some_iff.1 hp
    exact List.drop_eq_getElem_cons ha
  rw [hd, List.takeWhile_cons, if_neg (by simpa using h)]
  rfl
theorem adv_end {l : List (Int × Int)} {t : Int} {a : Nat} (h : l.length ≤ a) : adv l t a = a := by
  unfold adv
  rw [List.drop_of_length_le h]
  rfl
theorem adv_le {l : List (Int × Int)} {t : Int} {a : Nat} (h : a ≤ l.length) : adv l t a ≤ l.length := by
  unfold adv
  have := (List.takeWhile_sublist (fun p : Int × Int => decide (p.1 < t)) (l := l.drop a)).length_le
  rw [List.length_drop] at this
  omega
theorem le_adv {l : List (Int × Int)} {t : Int} {a : Nat} : a ≤ adv l t a := Nat.le_add_right _ _
def cut (l : List (Int × Int)) (a b : Nat) : List (Int × Int) := (l.drop a).take (b - a)
def winP (op : Int) (l : List (Int × Int)) (to step : Int) : Nat → Int → Nat → List (Int × Int) → List (Int × Int) × Int
  | 0, _, _, out => (out, 0)
  | f + 1, s, a, out =>
    if s < to then
      let e := if step < to - s then s + step else to
      let a1 := adv l s a
      let a2 := adv l e a1
      if a1 = a2 then if e = to then (out, 0) else winP op l to step f (s + step) a2 out
      else if (foldA op (cut l a1 a2)).2.2 ≠ 0 then ([], (foldA op (cut l a1 a2)).2.2)
      else if e = to then (out ++ [(s, (foldA op (cut l a1 a2)).1)], 0) else winP op l to step f (s + step) a2 (out ++ [(s, (foldA op (cut l a1 a2)).1)])
    else (out, 0)
def badW (op : Int) (n : Nat) (from_ to step : Int) : Prop := op < 1 ∨ 5 < op ∨ from_ < 0 ∨ to < from_ ∨ 4611686018427387904 < to ∨ step < 1 ∨ 65536 < n
def manyW (from_ to step : Int) : Prop := from_ < to ∧ 1024 ≤ (to - from_ - 1) / step
open Classical in
noncomputable def winsA (op : Int) (l : List (Int × Int)) (from_ to step : Int) : List (Int × Int) × Int :=
  if badW op l.length from_ to step then ([], 1) else if manyW from_ to step then ([], 8) else winP op l to step 1024 from_ 0 []
theorem foldA_bd (op : Int) (l : List (Int × Int)) (hl : I64s l) : -9223372036854775808 ≤ (foldA op l).1 ∧ (foldA op l).1 ≤ 9223372036854775807 := by
  unfold foldA
  split
  · simp
  · rename_i h
    split
    · simp; omega
    · split
      · simp
      · rename_i h3
        have hh : -9223372036854775808 ≤ (l.headD (0, 0)).2 ∧ (l.headD (0, 0)).2 ≤ 9223372036854775807 := (hl _ (head_mem h3)).2
        split
        · exact bestL_bd _ _ _ hh hl
        · split
          · assumption
          · simp
theorem many_step {to s step : Int} {f : Nat} (h : to - s ≤ (f + 1 : Nat) * step) : to - (s + step) ≤ f * step := by
  have : ((f + 1 : Nat) : Int) * step = f * step + step := by rw [Int.natCast_add, Int.add_mul]; simp
  omega
theorem many_start {from_ to step : Int} (hs : 0 < step) (h : ¬manyW from_ to step) : to - from_ ≤ (1024 : Nat) * step := by
  unfold manyW at h
  by_cases h0 : from_ < to
  · have h1 : (to - from_ - 1) / step < 1024 := by omega
    have h2 := Int.lt_mul_of_ediv_lt hs h1
    omega
  · have : (0 : Int) ≤ 1024 * step := Int.mul_nonneg (by omega) (by omega)
    omega
theorem winP_step {op : Int} {l : List (Int × Int)} {to step s e : Int} {f a a1 a2 : Nat} {out : List (Int × Int)} (h : s < to) (he : e = if step < to - s then s + step else to) (h1 : a1 = adv l s a) (h2 : a2 = adv l e a1) :
    winP op l to step (f + 1) s a out = if a1 = a2 then if e = to then (out, 0) else winP op l to step f (s + step) a2 out
      else if (foldA op (cut l a1 a2)).2.2 ≠ 0 then ([], (foldA op (cut l a1 a2)).2.2)
      else if e = to then (out ++ [(s, (foldA op (cut l a1 a2)).1)], 0) else winP op l to step f (s + step) a2 (out ++ [(s, (foldA op (cut l a1 a2)).1)]) := by
  subst he h1 h2
  simp only [winP, if_pos h]
theorem winP_end {op : Int} {l : List (Int × Int)} {to step s : Int} {f a : Nat} {out : List (Int × Int)} (h : ¬s < to) : winP op l to step f s a out = (out, 0) := by
  cases f with
  | zero => rfl
  | succ f => simp only [winP, if_neg h]
theorem own_keep {w w' : World} {base n size : Nat} {e : TypeId} {v : Value} {xs : List Value} (h : w.ownsRow base e size v n xs) (hb : Below w.heap.size w w') : w'.ownsRow base e size v n xs := by
  refine ⟨h.1, ?_⟩
  rcases h.2 with h1 | ⟨g', cap', cur, h1, h2, h3, h4⟩
  · exact .inl h1
  · exact .inr ⟨g', cap', cur, h1, h2, (hb.block g' (blk_lt h3)).trans h3, h4⟩
theorem cut_length (l : List (Int × Int)) {a b : Nat} (h : b ≤ l.length) : (cut l a b).length = b - a := by
  unfold cut
  rw [List.length_take, List.length_drop]
  omega
theorem I64s.cut {l : List (Int × Int)} (h : I64s l) (a b : Nat) : I64s (cut l a b) := fun p hp => h p (List.mem_of_mem_drop (List.mem_of_mem_take hp))
theorem smps_snoc (l : List (Int × Int)) (p : Int × Int) : smps (l ++ [p]) = smps l ++ [.int .i64 p.1, .int .i64 p.2] := by rw [smps_append]; rfl
end Go.Proofs.YtamnononemallaaDoor

/-! Window by window: the plain law. -/
namespace Go.Proofs.YtamnononemallaaDoor
open Go.RowKit
def Rise (l : List (Int × Int)) : Prop := l.Pairwise fun p q => p.1 ≤ q.1
def within (s e : Int) (l : List (Int × Int)) : List (Int × Int) := l.filter fun p => decide (s ≤ p.1) && decide (p.1 < e)
theorem within_none {s e : Int} {l : List (Int × Int)} (h : ∀ p ∈ l, ¬(s ≤ p.1 ∧ p.1 < e)) : within s e l = [] := by
  unfold within
  rw [List.filter_eq_nil_iff]
  intro p hp
  have := h p hp
  simp only [Bool.and_eq_true, decide_eq_true_eq]
  exact this
theorem within_all {s e : Int} {l : List (Int × Int)} (h : ∀ p ∈ l, s ≤ p.1 ∧ p.1 < e) : within s e l = l := by
  unfold within
  rw [List.filter_eq_self]
  intro p hp
  simpa using h p hp
theorem takeWhile_lt {t : Int} : ∀ {l : List (Int × Int)}, ∀ p ∈ l.takeWhile (fun p => decide (p.1 < t)), p.1 < t
  | [], p, hp => by cases hp
  | q :: l, p, hp => by
    rw [List.takeWhile_cons] at hp
    split at hp
    · rename_i hq
      rcases List.mem_cons.1 hp with rfl | hp
      · simpa using hq
      · exact takeWhile_lt p hp
    · cases hp
theorem dropWhile_ge {t : Int} : ∀ {l : List (Int × Int)}, Rise l → ∀ p ∈ l.dropWhile (fun p => decide (p.1 < t)), t ≤ p.1
  | [], _, p, hp => by cases hp
  | q :: l, h, p, hp => by
    rw [List.dropWhile_cons] at hp
    split at hp
    · exact dropWhile_ge (List.Pairwise.of_cons h) p hp
    · rename_i hq
      have hq' : t ≤ q.1 := by simpa using hq
      rcases List.mem_cons.1 hp with rfl | hp
      · exact hq'
      · have := List.rel_of_pairwise_cons h hp
        omega
theorem drop_adv (l : List (Int × Int)) (t : Int) (a : Nat) : l.drop (adv l t a) = (l.drop a).dropWhile fun p => decide (p.1 < t) := by
  unfold adv
  rw [← List.drop_drop]
  conv => lhs; rw [← List.takeWhile_append_dropWhile (p := fun p : Int × Int => decide (p.1 < t)) (l := l.drop a)]
  rw [List.takeWhile_append_dropWhile, ]
  generalize l.drop a = D
  induction D with
  | nil => rfl
  | cons x D ih =>
    rw [List.takeWhile_cons, List.dropWhile_cons]
    split
    · simpa using ih
    · rfl
theorem take_adv (l : List (Int × Int)) (t : Int) (a : Nat) : l.take (adv l t a) = l.take a ++ (l.drop a).takeWhile fun p => decide (p.1 < t) := by
  unfold adv
  rw [List.take_add]
  congr 1
  generalize l.drop a = D
  induction D with
  | nil => rfl
  | cons x D ih =>
    rw [List.takeWhile_cons]
    split
    · simpa using ih
    · rfl
/-- What lies between two places that were found is what lies between the two times. -/
theorem cut_within {l : List (Int × Int)} (h : Rise l) {s e : Int} {a : Nat} (ha : ∀ p ∈ l.take a, p.1 < s) (hse : s ≤ e) :
    cut l (adv l s a) (adv l e (adv l s a)) = within s e l ∧ ∀ p ∈ l.take (adv l e (adv l s a)), p.1 < e := by
  have hd1 := drop_adv l s a
  have ht1 := take_adv l s a
  have hr1 : Rise (l.drop a) := List.Pairwise.sublist (List.drop_sublist _ _) h
  have hge := dropWhile_ge (t := s) hr1
  rw [← hd1] at hge
  have hlt1 : ∀ p ∈ l.take (adv l s a), p.1 < s := fun p hp => by
    rw [ht1] at hp
    rcases List.mem_append.1 hp with hp | hp
    · exact ha p hp
    · exact takeWhile_lt p hp
  generalize adv l s a = a1 at *
  have hd2 := drop_adv l e a1
  have ht2 := take_adv l e a1
  have hr2 : Rise (l.drop a1) := List.Pairwise.sublist (List.drop_sublist _ _) h
  have hge2 := dropWhile_ge (t := e) hr2
  have hcut : cut l a1 (adv l e a1) = (l.drop a1).takeWhile fun p => decide (p.1 < e) := by
    unfold cut adv
    rw [Nat.add_sub_cancel_left]
    generalize l.drop a1 = D
    induction D with
    | nil => rfl
    | cons x D ih =>
      rw [List.takeWhile_cons]
      split
      · simpa using ih
      · rfl
  constructor
  · rw [hcut]
    conv => rhs; rw [← List.take_append_drop a1 l, ← List.takeWhile_append_dropWhile (p := fun p : Int × Int => decide (p.1 < e)) (l := l.drop a1)]
    unfold within
    rw [List.filter_append, List.filter_append]
    have e1 : within s e (l.take a1) = [] := within_none fun p hp hh => by have := hlt1 p hp; omega
    have e2 : within s e ((l.drop a1).dropWhile fun p => decide (p.1 < e)) = [] := within_none fun p hp hh => by have := hge2 p hp; omega
    have e3 : within s e ((l.drop a1).takeWhile fun p => decide (p.1 < e)) = (l.drop a1).takeWhile fun p => decide (p.1 < e) := within_all fun p hp => ⟨hge p (List.takeWhile_sublist _ |>.subset hp), takeWhile_lt p hp⟩
    unfold within at e1 e2 e3
    rw [e1, e2, e3]
    simp
  · intro p hp
    rw [ht2] at hp
    rcases List.mem_append.1 hp with hp | hp
    · have := hlt1 p hp
      omega
    · exact takeWhile_lt p hp
/-- The document's windows: from the k-th on. -/
def refP (op fr step : Int) (sel : Nat → List (Int × Int)) : Nat → Nat → List (Int × Int) → List (Int × Int) × Int
  | 0, _, out => (out, 0)
  | r + 1, k, out => if sel k = [] then refP op fr step sel r (k + 1) out else if (foldA op (sel k)).2.2 ≠ 0 then ([], (foldA op (sel k)).2.2) else refP op fr step sel r (k + 1) (out ++ [(fr + k * step, (foldA op (sel k)).1)])
def selW (l : List (Int × Int)) (fr to step : Int) (k : Nat) : List (Int × Int) := l.filter fun p => decide (fr ≤ p.1) && decide (p.1 < to) && decide ((p.1 - fr) / step = k)
theorem sel_within {l : List (Int × Int)} {fr to step : Int} (hs : 0 < step) (k : Nat) {e : Int} (he : e = if step < to - (fr + k * step) then fr + k * step + step else to) : selW l fr to step k = within (fr + k * step) e l := by
  unfold selW within
  congr 1
  funext p
  have hk : 0 ≤ (k : Int) * step := Int.mul_nonneg (by omega) (by omega)
  have e1 : (p.1 - fr) / step = k ↔ (k : Int) * step ≤ p.1 - fr ∧ p.1 - fr < k * step + step := by
    constructor
    · intro h
      have h1 := Int.mul_ediv_add_emod (p.1 - fr) step
      have h2 := Int.emod_nonneg (p.1 - fr) (show step ≠ 0 by omega)
      have h3 := Int.emod_lt_of_pos (p.1 - fr) hs
      rw [h, Int.mul_comm] at h1
      omega
    · rintro ⟨h1, h2⟩
      refine Int.le_antisymm ?_ ?_
      · have : (p.1 - fr) / step < k + 1 := Int.ediv_lt_of_lt_mul hs (by rw [Int.add_mul]; omega)
        omega
      · exact (Int.le_ediv_iff_mul_le hs).2 h1
  rw [Bool.eq_iff_iff]
  simp only [Bool.and_eq_true, decide_eq_true_eq, e1]
  generalize (k : Int) * step = K at *
  subst he
  split <;> omega
/-- For samples whose times don't fall the two are one. -/
theorem win_ref (op : Int) {l : List (Int × Int)} (h : Rise l) {fr to step : Int} (hs : 0 < step) (M : Nat) (hM1 : to - fr ≤ M * step) (hM2 : M = 0 ∨ ((M : Int) - 1) * step < to - fr) :
    ∀ (f r k a : Nat) (out : List (Int × Int)), k + r = M → r ≤ f → (∀ p ∈ l.take a, p.1 < fr + k * step) → winP op l to step f (fr + k * step) a out = refP op fr step (selW l fr to step) r k out := by
  intro f
  induction f with
  | zero =>
    intro r k a out hkr hrf ha
    obtain rfl : r = 0 := by omega
    rfl
  | succ f ih =>
    intro r k a out hkr hrf ha
    have hprev : ((M : Int) - 1) * step = M * step - step := by rw [Int.sub_mul]; omega
    by_cases hlt : fr + k * step < to
    · obtain ⟨r, rfl⟩ : ∃ r', r = r' + 1 := ⟨r - 1, by
        rcases Nat.eq_zero_or_pos r with h0 | h0
        · subst h0
          obtain rfl : k = M := by omega
          omega
        · omega⟩
      obtain ⟨e, he⟩ : ∃ e, e = if step < to - (fr + k * step) then fr + k * step + step else to := ⟨_, rfl⟩
      have hse : fr + k * step ≤ e := by subst he; split <;> omega
      obtain ⟨hc1, hc2⟩ := cut_within h ha hse
      rw [winP_step hlt he rfl rfl, hc1]
      rw [← sel_within hs k he] at hc1 ⊢
      have hz : adv l (fr + k * step) a = adv l e (adv l (fr + k * step) a) ↔ selW l fr to step k = [] := by
        rw [← hc1]
        constructor
        · intro hh
          unfold cut
          rw [← hh]
          simp
        · intro hh
          have h1 := congrArg List.length hh
          unfold cut at h1
          have h2 : adv l e (adv l (fr + k * step) a) = adv l (fr + k * step) a + ((l.drop (adv l (fr + k * step) a)).takeWhile fun p => decide (p.1 < e)).length := rfl
          have h3 := (List.takeWhile_sublist (fun p : Int × Int => decide (p.1 < e)) (l := l.drop (adv l (fr + k * step) a))).length_le
          rw [List.length_take, List.length_drop, List.length_nil] at h1
          rw [List.length_drop] at h3
          clear hc1 hc2 hse hlt he
          omega
      have hk1 : ((k + 1 : Nat) : Int) * step = k * step + step := by rw [Int.natCast_add, Int.add_mul]; simp
      have hlast : e = to → r = 0 := fun hh => by
        subst he
        split at hh
        · omega
        · rcases Nat.eq_zero_or_pos r with h0 | h0
          · exact h0
          · exfalso
            have h5 : ((k + 1 : Nat) : Int) ≤ (M : Int) - 1 := by omega
            have := Int.mul_le_mul_of_nonneg_right h5 (show (0 : Int) ≤ step by omega)
            rcases hM2 with h6 | h6 <;> omega
      have hnext : ¬e = to → e = fr + ((k + 1 : Nat) : Int) * step := fun hh => by
        subst he
        split at hh
        · rename_i hc
          rw [if_pos hc]
          omega
        · exact absurd rfl hh
      simp only [refP]
      by_cases hsel : selW l fr to step k = []
      · rw [if_pos (hz.2 hsel), if_pos hsel]
        by_cases het : e = to
        · rw [if_pos het, hlast het]
          rfl
        · rw [if_neg het, show fr + k * step + step = fr + ((k + 1 : Nat) : Int) * step by omega]
          exact ih r (k + 1) _ out (by omega) (by omega) (by rw [← hnext het]; exact hc2)
      · rw [if_neg (fun hh => hsel (hz.1 hh)), if_neg hsel]
        by_cases herr : (foldA op (selW l fr to step k)).2.2 ≠ 0
        · rw [if_pos herr, if_pos herr]
        · rw [if_neg herr, if_neg herr]
          by_cases het : e = to
          · rw [if_pos het, hlast het]
            rfl
          · rw [if_neg het, show fr + k * step + step = fr + ((k + 1 : Nat) : Int) * step by omega]
            exact ih r (k + 1) _ _ (by omega) (by omega) (by rw [← hnext het]; exact hc2)
    · rw [winP_end hlt]
      have : r = 0 := by
        rcases Nat.eq_zero_or_pos r with h0 | h0
        · exact h0
        · exfalso
          have h5 : (k : Int) ≤ (M : Int) - 1 := by omega
          have := Int.mul_le_mul_of_nonneg_right h5 (show (0 : Int) ≤ step by omega)
          rcases hM2 with h6 | h6 <;> omega
      subst this
      rfl
end Go.Proofs.YtamnononemallaaDoor
