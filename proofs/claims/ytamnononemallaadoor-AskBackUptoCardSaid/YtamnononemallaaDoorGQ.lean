import Derived.Lib.ItoaNum
import Derived.Lib.ParseIntB
import Derived.Lib.Split
import Derived.Lib.SplitLaws
import Derived.Lib.CountLaws
import Derived.Lib.ItoaMem
import Derived.Test.YtamnononemallaaDoorGD
import Derived.Test.YtamnononemallaaDoorGC
import Derived.Test.YtamnononemallaaDoorTally13
import Derived.Lib.Join
import Derived.Lib.IndexLaws
/-! Several texts in one. -/
set_option linter.unusedVariables false
set_option linter.unusedSimpArgs false
/-! Numerals, and texts in parts, in plain words. -/
namespace Go.Proofs.YtamnononemallaaDoor
open Go
/-- The number that digits spell, behind one that was read already. -/
def valL : List UInt8 → Nat → Nat
  | [], n => n
  | x :: l, n => valL l (n * 10 + (x.toNat - 48))
def isD (x : UInt8) : Bool := decide (48 ≤ x.toNat) && decide (x.toNat ≤ 57)
theorem isD_le {x : UInt8} (h : isD x = true) : 48 ≤ x.toNat ∧ x.toNat ≤ 57 := by simpa [isD] using h
theorem valL_snoc : ∀ (l : List UInt8) (x : UInt8) (n : Nat), valL (l ++ [x]) n = valL l n * 10 + (x.toNat - 48)
  | [], _, _ => rfl
  | y :: l, x, n => by simp only [List.cons_append, valL]; exact valL_snoc l x _
theorem valL_lt : ∀ (l : List UInt8) (n : Nat), l.all isD = true → valL l n < (n + 1) * 10 ^ l.length
  | [], n, _ => by simp [valL]
  | x :: l, n, h => by
    simp only [List.all_cons, Bool.and_eq_true] at h
    have hx := isD_le h.1
    have := valL_lt l (n * 10 + (x.toNat - 48)) h.2
    simp only [valL, List.length_cons]
    refine Nat.lt_of_lt_of_le this ?_
    rw [Nat.pow_succ, Nat.mul_comm (10 ^ l.length) 10, ← Nat.mul_assoc]
    exact Nat.mul_le_mul_right _ (by omega)
theorem valL_ge : ∀ (l : List UInt8) (n : Nat), n * 10 ^ l.length ≤ valL l n
  | [], n => by simp [valL]
  | x :: l, n => by
    have := valL_ge l (n * 10 + (x.toNat - 48))
    simp only [valL, List.length_cons]
    refine Nat.le_trans ?_ this
    rw [Nat.pow_succ, Nat.mul_comm (10 ^ l.length) 10, ← Nat.mul_assoc]
    exact Nat.mul_le_mul_right _ (by omega)
theorem u8_of {x : UInt8} (h : isD x = true) : UInt8.ofNat (48 + (x.toNat - 48)) = x := by
  have := isD_le h
  apply UInt8.toNat_inj.1
  rw [UInt8.toNat_ofNat']
  have : x.toNat < 256 := x.toNat_lt
  omega
/-- A numeral with no 0 ahead is that of its number. -/
theorem dec_val (x : UInt8) : ∀ (n : Nat) (l : List UInt8), l.length = n → (x :: l).all isD = true → (x.toNat ≠ 48 ∨ l = []) → Lib.decDigits (valL (x :: l) 0) = x :: l
  | 0, l, hl, h, _ => by
    have : l = [] := List.eq_nil_of_length_eq_zero hl
    subst this
    simp only [List.all_cons, List.all_nil, Bool.and_true] at h
    have hx := isD_le h
    simp only [valL, Nat.zero_mul, Nat.zero_add]
    rw [Lib.decDigits, dif_pos (by omega), u8_of h]
  | n + 1, l, hl, h, h0 => by
    have hne : l ≠ [] := fun e => by rw [e] at hl; simp at hl
    obtain ⟨m, y, rfl⟩ : ∃ m y, l = m ++ [y] := ⟨l.dropLast, l.getLast hne, (List.dropLast_concat_getLast hne).symm⟩
    have hx48 : x.toNat ≠ 48 := h0.resolve_right hne
    have hml : m.length = n := by simpa using hl
    rw [← List.cons_append] at h ⊢
    rw [List.all_append, Bool.and_eq_true] at h
    have hy : isD y = true := by simpa using h.2
    have hyd := isD_le hy
    have ih := dec_val x n m hml h.1 (.inl hx48)
    have hxd : isD x = true := by have := h.1; simp only [List.all_cons, Bool.and_eq_true] at this; exact this.1
    have hpos : 1 ≤ valL (x :: m) 0 := by
      have := isD_le hxd
      have hg := valL_ge m (0 * 10 + (x.toNat - 48))
      simp only [valL]
      refine Nat.le_trans ?_ hg
      exact Nat.mul_pos (by omega) (Nat.pow_pos (by omega))
    rw [valL_snoc, Lib.decDigits, dif_neg (by omega), show (valL (x :: m) 0 * 10 + (y.toNat - 48)) / 10 = valL (x :: m) 0 from by omega, ih, show (valL (x :: m) 0 * 10 + (y.toNat - 48)) % 10 = y.toNat - 48 from by omega, u8_of hy]
theorem ofNat_isD {k : Nat} (h : k < 10) : isD (UInt8.ofNat (48 + k)) = true := by
  have : (UInt8.ofNat (48 + k)).toNat = 48 + k := by rw [UInt8.toNat_ofNat']; omega
  simp [isD, this]
  omega
theorem ofNat_val {k : Nat} (h : k < 10) : (UInt8.ofNat (48 + k)).toNat = 48 + k := by rw [UInt8.toNat_ofNat']; omega
/-- A number's numeral: digits, that spell it, with no 0 ahead. -/
theorem dec_is (u : Nat) : (Lib.decDigits u).all isD = true ∧ valL (Lib.decDigits u) 0 = u ∧ Lib.decDigits u ≠ [] ∧ ((Lib.decDigits u).head? = some 48 → u = 0) := by
  induction u using Nat.strongRecOn with
  | _ u ih =>
    rw [Lib.decDigits]
    by_cases h : u < 10
    · rw [dif_pos h]
      have hd := ofNat_isD h
      have hv := ofNat_val h
      generalize UInt8.ofNat (48 + u) = y at *
      refine ⟨by simp [hd], by simp only [valL]; omega, by simp, fun e => ?_⟩
      simp only [List.head?_cons, Option.some.injEq] at e
      rw [e] at hv
      have : (48 : UInt8).toNat = 48 := rfl
      omega
    · rw [dif_neg h]
      obtain ⟨h1, h2, h3, h4⟩ := ih (u / 10) (by omega)
      have hm : u % 10 < 10 := Nat.mod_lt _ (by omega)
      have hd' := ofNat_isD hm
      have hv' := ofNat_val hm
      generalize UInt8.ofNat (48 + u % 10) = y at *
      refine ⟨by rw [List.all_append, h1]; simp [hd'], by rw [valL_snoc, h2, hv']; omega, by simp, fun e => ?_⟩
      cases hd : Lib.decDigits (u / 10) with
      | nil => exact absurd hd h3
      | cons y m =>
        rw [hd] at e h4
        have := h4 (by simpa using e)
        omega
/-- What the document's Number says. -/
def numR (l : List UInt8) (most : Nat) : Option Nat :=
  if l.length < 1 ∨ 19 < l.length ∨ (l.head? = some 48 ∧ 1 < l.length) then none else if l.all isD = true then (if valL l 0 ≤ most then some (valL l 0) else none) else none
theorem parse_val : ∀ (l : List UInt8) (n : Nat), l.all isD = true → valL l n ≤ 18446744073709551615 → Lib.parseUintM 18446744073709551615 n l = .ok (valL l n)
  | [], n, _, _ => rfl
  | x :: l, n, h, hv => by
    simp only [List.all_cons, Bool.and_eq_true] at h
    have hx := isD_le h.1
    simp only [valL] at hv
    have hge := valL_ge l (n * 10 + (x.toNat - 48))
    have hp : n * 10 + (x.toNat - 48) ≤ 18446744073709551615 := by
      refine Nat.le_trans ?_ (Nat.le_trans hge hv)
      exact Nat.le_mul_of_pos_right _ (Nat.pow_pos (by omega))
    rw [Lib.parseUintM, if_pos hx, if_neg (by omega), if_neg (by omega), parse_val l _ h.2 hv]
    rfl
theorem parse_ok : ∀ (l : List UInt8) (n u : Nat), Lib.parseUintM 18446744073709551615 n l = .ok u → l.all isD = true ∧ u = valL l n
  | [], n, u, h => by
    simp only [Lib.parseUintM] at h
    injection h with h
    exact ⟨rfl, h.symm⟩
  | x :: l, n, u, h => by
    rw [Lib.parseUintM] at h
    split at h
    · rename_i hx
      split at h
      · cases h
      · split at h
        · cases h
        · obtain ⟨h1, h2⟩ := parse_ok l _ u h
          refine ⟨by simp [h1, isD, hx], h2⟩
    · cases h
/-- The program's answer on a part: the number, and whether it is one. -/
def partP (l : List UInt8) : Nat × Bool := match Lib.parseUintB 64 l with
  | .ok u => (u, decide (Lib.decDigits u = l))
  | .range => (18446744073709551615, false)
  | _ => (0, false)
theorem partP_eq (l : List UInt8) (most : Nat) (hm : most ≤ 4611686018427387904) : numR l most = if (partP l).2 = true ∧ (partP l).1 ≤ most then some (partP l).1 else none := by
  unfold partP Lib.parseUintB
  by_cases h0 : l = []
  · subst h0; rfl
  rw [if_neg h0]
  have e64 : 2 ^ 64 - 1 = 18446744073709551615 := by decide
  rw [e64]
  have hl1 : ¬ l.length < 1 := by
    intro h
    exact h0 (List.eq_nil_of_length_eq_zero (by omega))
  obtain ⟨x, m, rfl⟩ : ∃ x m, l = x :: m := by
    cases l with
    | nil => exact absurd rfl h0
    | cons x m => exact ⟨x, m, rfl⟩
  by_cases hall : (x :: m).all isD = true
  case neg =>
    have hn : numR (x :: m) most = none := by
      unfold numR
      rw [if_neg hall]
      split <;> rfl
    rw [hn]
    cases hp : Lib.parseUintM 18446744073709551615 0 (x :: m) with
    | ok u => exact absurd (parse_ok _ _ _ hp).1 hall
    | range => rfl
    | _ => rfl
  · have hlt := valL_lt (x :: m) 0 hall
    rw [Nat.zero_add, Nat.one_mul] at hlt
    by_cases hlead : x.toNat = 48 ∧ 1 < (x :: m).length
    · have hn : numR (x :: m) most = none := by
        unfold numR
        rw [if_pos (.inr (.inr ⟨by simp only [List.head?_cons]; congr 1; exact UInt8.toNat_inj.1 hlead.1, hlead.2⟩))]
      rw [hn]
      cases hp : Lib.parseUintM 18446744073709551615 0 (x :: m) with
      | ok u =>
        have hne : ¬ Lib.decDigits u = x :: m := fun e => by
          have h4 := (dec_is u).2.2.2
          rw [e] at h4
          have hu := h4 (by simp only [List.head?_cons]; congr 1; exact UInt8.toNat_inj.1 hlead.1)
          subst hu
          rw [Lib.decDigits, dif_pos (by omega)] at e
          have := congrArg List.length e
          have h2 := hlead.2
          rw [← this] at h2
          simp at h2
        dsimp only
        rw [if_neg (by rw [decide_eq_false hne]; simp)]
      | range => rfl
      | _ => rfl
    · have hcan : Lib.decDigits (valL (x :: m) 0) = x :: m := dec_val x _ m rfl hall (by
        by_cases hx : x.toNat = 48
        · right
          have : ¬ 1 < (x :: m).length := fun h => hlead ⟨hx, h⟩
          exact List.eq_nil_of_length_eq_zero (by rw [List.length_cons] at this; omega)
        · exact .inl hx)
      by_cases h19 : (x :: m).length ≤ 19
      · have hv : valL (x :: m) 0 ≤ 18446744073709551615 := by
          have : (10 : Nat) ^ (x :: m).length ≤ 10 ^ 19 := Nat.pow_le_pow_right (by omega) h19
          have e19 : (10 : Nat) ^ 19 = 10000000000000000000 := by decide
          rw [e19] at this
          exact Nat.le_trans (Nat.le_of_lt (Nat.lt_of_lt_of_le hlt this)) (by decide)
        rw [parse_val _ _ hall hv]
        have hn : numR (x :: m) most = if valL (x :: m) 0 ≤ most then some (valL (x :: m) 0) else none := by
          unfold numR
          rw [if_neg (by
            rintro (h | h | h)
            · exact hl1 h
            · omega
            · refine hlead ⟨?_, h.2⟩
              have := h.1
              simp only [List.head?_cons, Option.some.injEq] at this
              rw [this]; rfl), if_pos hall]
        rw [hn]
        dsimp only
        by_cases hle : valL (x :: m) 0 ≤ most
        · rw [if_pos hle, if_pos ⟨decide_eq_true hcan, hle⟩]
        · rw [if_neg hle, if_neg (fun h => hle h.2)]
      · have hn : numR (x :: m) most = none := by
          unfold numR
          rw [if_pos (.inr (.inl (by omega)))]
        rw [hn]
        cases hp : Lib.parseUintM 18446744073709551615 0 (x :: m) with
        | ok u =>
          obtain ⟨_, hu⟩ := parse_ok _ _ _ hp
          have hbig : most < u := by
            rw [hu]
            have hx1 : 1 ≤ x.toNat - 48 := by
              have hxd := isD_le (by simp only [List.all_cons, Bool.and_eq_true] at hall; exact hall.1)
              have : x.toNat ≠ 48 := fun e => hlead ⟨e, by omega⟩
              omega
            have hg := valL_ge m (0 * 10 + (x.toNat - 48))
            have hp18 : 10 ^ 19 ≤ 10 ^ m.length := Nat.pow_le_pow_right (by omega) (by simp at h19; omega)
            have e19 : (10 : Nat) ^ 19 = 10000000000000000000 := by decide
            have h1 : 10 ^ m.length ≤ (0 * 10 + (x.toNat - 48)) * 10 ^ m.length := Nat.le_mul_of_pos_left _ (by omega)
            simp only [valL]
            omega
          dsimp only
          rw [if_neg (fun h => by omega)]
        | range => rfl
        | _ => rfl
/-- The parts between dots. -/
def dotL : List UInt8 → List (List UInt8)
  | [] => [[]]
  | x :: l => if x = 46 then [] :: dotL l else match dotL l with
    | [] => [[x]]
    | p :: r => (x :: p) :: r
theorem index_dot (l : List UInt8) : Lib.index (46 :: l) [46] = 0 := by
  unfold Lib.index
  simp [List.isPrefixOf]
theorem index_other {x : UInt8} {l : List UInt8} (h : x ≠ 46) : Lib.index (x :: l) [46] = if Lib.index l [46] == -1 then -1 else Lib.index l [46] + 1 := by
  conv => lhs; unfold Lib.index
  rw [if_neg (by simp [List.isPrefixOf]; exact fun e => h e.symm)]
theorem splitK_dot : ∀ l : List UInt8, Lib.splitK [46] 0 (Lib.count l [46]) l = dotL l
  | [] => rfl
  | x :: l => by
    have ih := splitK_dot l
    by_cases hx : x = 46
    · subst hx
      rw [Lib.count_cons_eq, Nat.add_comm, Lib.splitK, index_dot]
      simp only [dotL]
      rw [if_neg (by decide), if_pos trivial, ← ih]
      simp
    · rw [Lib.count_cons_ne _ _ _ hx, dotL, if_neg hx, ← ih]
      cases hk : Lib.count l [46] with
      | zero => rfl
      | succ k =>
        rw [Lib.splitK, Lib.splitK, index_other hx]
        rcases Lib.index_spec l [46] with ⟨h1, _⟩ | ⟨i, h1, _⟩
        · rw [Lib.count_miss h1] at hk; cases hk
        · rw [h1]
          have e1 : ((i : Int) == -1) = false := by rw [beq_eq_false_iff_ne]; omega
          have e2 : ((i : Int) + 1 == -1) = false := by rw [beq_eq_false_iff_ne]; omega
          have e3 : ((i : Int) + 1).toNat = i + 1 := by omega
          simp only [e1, e2, e3, Bool.false_eq_true, if_false, Int.toNat_natCast]
          simp
theorem dotL_ne (l : List UInt8) : dotL l ≠ [] := by
  cases l with
  | nil => simp [dotL]
  | cons x l =>
    unfold dotL
    split
    · simp
    · split <;> simp
/-- One byte more: a dot opens a part, another byte goes to the last one. -/
theorem dotL_dot : ∀ l : List UInt8, dotL (l ++ [46]) = dotL l ++ [[]]
  | [] => rfl
  | x :: l => by
    have ih := dotL_dot l
    simp only [List.cons_append, dotL, ih]
    by_cases hx : x = 46
    · rw [if_pos hx, if_pos hx]; rfl
    · rw [if_neg hx, if_neg hx]
      cases hd : dotL l with
      | nil => exact absurd hd (dotL_ne l)
      | cons p r => rfl
theorem dotL_byte {y : UInt8} (hy : y ≠ 46) : ∀ l : List UInt8, dotL (l ++ [y]) = (dotL l).dropLast ++ [(dotL l).getLast (dotL_ne l) ++ [y]]
  | [] => by simp [dotL, hy]
  | x :: l => by
    have ih := dotL_byte hy l
    cases hd : dotL l with
    | nil => exact absurd hd (dotL_ne l)
    | cons p r =>
      simp only [hd] at ih
      by_cases hx : x = 46
      · simp only [List.cons_append, dotL, ih, if_pos hx, hd]
        simp
      · simp only [List.cons_append, dotL, ih, if_neg hx, hd]
        cases r with
        | nil => simp
        | cons q r => simp
end Go.Proofs.YtamnononemallaaDoor

/-! A query's numbers, in plain words. -/
namespace Go.Proofs.YtamnononemallaaDoor
open Go
theorem dec_len (n : Nat) (h : n ≤ 9223372036854775807) : (Lib.decDigits n).length ≤ 19 := by
  obtain ⟨h1, h2, h3, h4⟩ := dec_is n
  cases hd : Lib.decDigits n with
  | nil => simp
  | cons x m =>
    rw [hd] at h1 h2 h4
    have hx := isD_le (by simp only [List.all_cons, Bool.and_eq_true] at h1; exact h1.1)
    by_cases hz : x.toNat = 48
    · have e : x = 48 := UInt8.toNat_inj.1 hz
      have hn := h4 (by simp [e])
      subst hn
      rw [Lib.decDigits, dif_pos (by omega)] at hd
      obtain ⟨_, rfl⟩ := List.cons.inj hd
      simp
    · have hg := valL_ge m (0 * 10 + (x.toNat - 48))
      simp only [valL] at h2
      rw [h2] at hg
      have : 10 ^ m.length ≤ (0 * 10 + (x.toNat - 48)) * 10 ^ m.length := Nat.le_mul_of_pos_left _ (by omega)
      by_cases hl : 19 ≤ m.length
      · have hp : 10 ^ 19 ≤ 10 ^ m.length := Nat.pow_le_pow_right (by omega) hl
        have e19 : (10 : Nat) ^ 19 = 10000000000000000000 := by decide
        omega
      · simp only [List.length_cons]; omega
theorem numR_dec (n M : Nat) (hM : M ≤ 9223372036854775807) (h : n ≤ M) : numR (Lib.decDigits n) M = some n := by
  obtain ⟨h1, h2, h3, h4⟩ := dec_is n
  have hl := dec_len n (by omega)
  unfold numR
  rw [if_neg, if_pos h1, h2, if_pos h]
  rintro (h | h | h)
  · exact h3 (List.eq_nil_of_length_eq_zero (by omega))
  · omega
  · have hn := h4 h.1
    subst hn
    rw [Lib.decDigits, dif_pos (by omega)] at h
    simp at h
theorem numR_inv {l : List UInt8} {n M : Nat} (h : numR l M = some n) : l = Lib.decDigits n ∧ n ≤ M := by
  unfold numR at h
  split at h
  · cases h
  · rename_i hc
    split at h
    · rename_i hall
      split at h
      · rename_i hle
        injection h with h
        subst h
        refine ⟨?_, hle⟩
        cases l with
        | nil => exact absurd (.inl (by simp)) hc
        | cons x m =>
          exact (dec_val x _ m rfl hall (by
            by_cases hx : x.toNat = 48
            · right
              have : ¬ 1 < (x :: m).length := fun h => hc (.inr (.inr ⟨by simp only [List.head?_cons]; congr 1; exact UInt8.toNat_inj.1 hx, h⟩))
              exact List.eq_nil_of_length_eq_zero (by rw [List.length_cons] at this; omega)
            · exact .inl hx)).symm
      · cases h
    · cases h
/-- What a word is as a number: the program's answer. -/
def intP (l : List UInt8) : Int × Bool := match Lib.parseIntB 64 l with
  | .ok v => (v, decide (Lib.itoa v = l) && decide (0 ≤ v))
  | .range => (Lib.intSat 64 l, false)
  | _ => (0, false)
theorem intP_dec (n : Nat) (h : n ≤ 9223372036854775807) : Lib.parseIntB 64 (Lib.decDigits n) = .ok (n : Int) := by
  obtain ⟨h1, h2, h3, h4⟩ := dec_is n
  cases hd : Lib.decDigits n with
  | nil => exact absurd hd h3
  | cons x m =>
    rw [hd] at h1 h2
    have hx := isD_le (by simp only [List.all_cons, Bool.and_eq_true] at h1; exact h1.1)
    unfold Lib.parseIntB
    dsimp only
    rw [if_neg (by omega)]
    unfold Lib.parseUintB
    rw [if_neg (by simp), show 2 ^ 64 - 1 = 18446744073709551615 by decide, parse_val (x :: m) 0 h1 (by rw [h2]; omega), h2]
    dsimp only
    rw [if_neg (by omega), if_neg (by omega), if_neg (by omega)]
theorem parseInt_le {l : List UInt8} {v : Int} (h : Lib.parseIntB 64 l = .ok v) : -9223372036854775808 ≤ v ∧ v ≤ 9223372036854775807 := by
  unfold Lib.parseIntB at h
  cases l with
  | nil => cases h
  | cons c r =>
    dsimp only at h
    split at h
    · cases h
    · cases h
    · rename_i u _
      split at h
      · cases h
      · split at h
        · cases h
        · rename_i a b
          injection h with h
          have e63 : 2 ^ (64 - 1) = 9223372036854775808 := by decide
          rw [e63] at a b
          subst h
          split <;> omega
theorem intP_eq (l : List UInt8) : numR l 9223372036854775807 = if (intP l).2 = true then some (intP l).1.toNat else none := by
  by_cases hb : (intP l).2 = true
  · rw [if_pos hb]
    unfold intP at hb ⊢
    cases hp : Lib.parseIntB 64 l with
    | ok v =>
      rw [hp] at hb
      dsimp only at hb ⊢
      simp only [Bool.and_eq_true, decide_eq_true_eq] at hb
      have hv := parseInt_le hp
      have e : Lib.itoa v = Lib.decDigits v.toNat := by unfold Lib.itoa; rw [if_neg (by omega)]
      rw [e] at hb
      conv => lhs; rw [← hb.1]
      exact numR_dec _ _ (by omega) (by omega)
    | range => rw [hp] at hb; cases hb
    | _ => rw [hp] at hb; cases hb
  · rw [if_neg hb]
    cases hn : numR l 9223372036854775807 with
    | none => rfl
    | some n =>
      exfalso
      obtain ⟨rfl, hle⟩ := numR_inv hn
      refine hb ?_
      unfold intP
      rw [intP_dec n hle]
      dsimp only
      have e : Lib.itoa (n : Int) = Lib.decDigits n := by unfold Lib.itoa; rw [if_neg (by omega)]; rfl
      rw [e]
      simp
/-- The parts between blanks. -/
def blkL : List UInt8 → List (List UInt8)
  | [] => [[]]
  | x :: l => if x = 32 then [] :: blkL l else match blkL l with
    | [] => [[x]]
    | p :: r => (x :: p) :: r
theorem index_blk (l : List UInt8) : Lib.index (32 :: l) [32] = 0 := by
  unfold Lib.index
  simp [List.isPrefixOf]
theorem index_blk2 {x : UInt8} {l : List UInt8} (h : x ≠ 32) : Lib.index (x :: l) [32] = if Lib.index l [32] == -1 then -1 else Lib.index l [32] + 1 := by
  conv => lhs; unfold Lib.index
  rw [if_neg (by simp [List.isPrefixOf]; exact fun e => h e.symm)]
theorem splitK_blk : ∀ l : List UInt8, Lib.splitK [32] 0 (Lib.count l [32]) l = blkL l
  | [] => rfl
  | x :: l => by
    have ih := splitK_blk l
    by_cases hx : x = 32
    · subst hx
      rw [Lib.count_cons_eq, Nat.add_comm, Lib.splitK, index_blk]
      simp only [blkL]
      rw [if_neg (by decide), if_pos trivial, ← ih]
      simp
    · rw [Lib.count_cons_ne _ _ _ hx, blkL, if_neg hx, ← ih]
      cases hk : Lib.count l [32] with
      | zero => rfl
      | succ k =>
        rw [Lib.splitK, Lib.splitK, index_blk2 hx]
        rcases Lib.index_spec l [32] with ⟨h1, _⟩ | ⟨i, h1, _⟩
        · rw [Lib.count_miss h1] at hk; cases hk
        · rw [h1]
          have e1 : ((i : Int) == -1) = false := by rw [beq_eq_false_iff_ne]; omega
          have e2 : ((i : Int) + 1 == -1) = false := by rw [beq_eq_false_iff_ne]; omega
          have e3 : ((i : Int) + 1).toNat = i + 1 := by omega
          simp only [e1, e2, e3, Bool.false_eq_true, if_false, Int.toNat_natCast]
          simp
theorem blkL_ne (l : List UInt8) : blkL l ≠ [] := by
  cases l with
  | nil => simp [blkL]
  | cons x l =>
    unfold blkL
    split
    · simp
    · split <;> simp
/-- Parts, each with a blank ahead. -/
def jn : List (List UInt8) → List UInt8
  | [] => []
  | p :: r => 32 :: (p ++ jn r)
theorem jn_append : ∀ a b : List (List UInt8), jn (a ++ b) = jn a ++ jn b
  | [], _ => rfl
  | p :: a, b => by simp [jn, jn_append a b]
theorem blk_join : ∀ l : List UInt8, jn (blkL l) = 32 :: l
  | [] => rfl
  | x :: l => by
    have ih := blk_join l
    by_cases hx : x = 32
    · subst hx; simp only [blkL, if_true, jn, ih, List.nil_append]
    · rw [blkL, if_neg hx]
      cases hb : blkL l with
      | nil => exact absurd hb (blkL_ne l)
      | cons p r =>
        rw [hb] at ih
        simp only [jn, List.cons.injEq, true_and] at ih ⊢
        rw [List.cons_append, ih]
theorem blk_of : ∀ (ps : List (List UInt8)) (p : List UInt8), (∀ q ∈ p :: ps, ∀ x ∈ q, x ≠ 32) → blkL (p ++ jn ps) = p :: ps
  | [], [], _ => rfl
  | q :: ps, [], h => by
    simp only [jn, List.nil_append, blkL, if_true]
    rw [blk_of ps q (fun r hr => h r (List.mem_cons_of_mem _ hr))]
  | ps, x :: p, h => by
    have hx : x ≠ 32 := h (x :: p) (List.mem_cons_self ..) x (List.mem_cons_self ..)
    rw [List.cons_append, blkL, if_neg hx, blk_of ps p (fun r hr y hy => by
      rcases List.mem_cons.1 hr with rfl | hr
      · exact h (x :: r) (List.mem_cons_self ..) y (List.mem_cons_of_mem _ hy)
      · exact h r (List.mem_cons_of_mem _ hr) y hy)]
termination_by ps p => (ps.length, p.length)
def notesB : List UInt8 := [110, 111, 116, 101, 115]
/-- A blank and a number: it, and what stands behind. -/
def num1 : List UInt8 → Option (Nat × List UInt8)
  | [] => none
  | x :: r => if x = 32 then (numR (r.takeWhile isD) 9223372036854775807).map (fun n => (n, r.dropWhile isD)) else none
def numsD : Nat → List UInt8 → Option (List Nat × List UInt8)
  | 0, l => some ([], l)
  | k + 1, l => match num1 l with
    | none => none
    | some (n, r) => match numsD k r with
      | none => none
      | some (ns, r') => some (n :: ns, r')
def tailD (l : List UInt8) : Option Bool := if l = [] then some false else if l = 32 :: notesB then some true else none
def askD (k : Nat) (l : List UInt8) : Option (List Nat × Bool) := match numsD k l with
  | none => none
  | some (ns, r) => match tailD r with
    | none => none
    | some b => some (ns, b)
def formT (b : Bool) : List UInt8 := if b then 32 :: notesB else []
def formN : List Nat → List UInt8
  | [] => []
  | n :: ns => 32 :: (Lib.decDigits n ++ formN ns)
theorem num1_inv {l r : List UInt8} {n : Nat} (h : num1 l = some (n, r)) : l = 32 :: (Lib.decDigits n ++ r) ∧ n ≤ 9223372036854775807 := by
  cases l with
  | nil => cases h
  | cons x t =>
    rw [num1] at h
    by_cases hx : x = 32
    · rw [if_pos hx] at h
      subst hx
      cases hn : numR (t.takeWhile isD) 9223372036854775807 with
      | none => rw [hn] at h; cases h
      | some m =>
        rw [hn] at h
        simp only [Option.map_some, Option.some.injEq, Prod.mk.injEq] at h
        obtain ⟨rfl, rfl⟩ := h
        obtain ⟨h1, h2⟩ := numR_inv hn
        refine ⟨?_, h2⟩
        rw [← h1, List.takeWhile_append_dropWhile]
    · rw [if_neg hx] at h; cases h
theorem numsD_inv : ∀ (k : Nat) (l : List UInt8) (ns : List Nat) (r : List UInt8), numsD k l = some (ns, r) → l = formN ns ++ r ∧ ns.length = k ∧ ∀ n ∈ ns, n ≤ 9223372036854775807
  | 0, l, ns, r, h => by
    simp only [numsD, Option.some.injEq, Prod.mk.injEq] at h
    obtain ⟨rfl, rfl⟩ := h
    exact ⟨rfl, rfl, fun n hn => by cases hn⟩
  | k + 1, l, ns, r, h => by
    rw [numsD] at h
    cases h1 : num1 l with
    | none => rw [h1] at h; cases h
    | some y =>
      obtain ⟨n, r1⟩ := y
      rw [h1] at h
      dsimp only at h
      cases h2 : numsD k r1 with
      | none => rw [h2] at h; cases h
      | some z =>
        obtain ⟨ms, r2⟩ := z
        rw [h2] at h
        simp only [Option.some.injEq, Prod.mk.injEq] at h
        obtain ⟨rfl, rfl⟩ := h
        obtain ⟨e1, hn⟩ := num1_inv h1
        obtain ⟨e2, hl, ha⟩ := numsD_inv k r1 ms r2 h2
        refine ⟨by rw [e1, e2]; simp [formN], by simp [hl], fun m hm => ?_⟩
        rcases List.mem_cons.1 hm with rfl | hm
        · exact hn
        · exact ha m hm
theorem askD_inv {k : Nat} {l : List UInt8} {ns : List Nat} {b : Bool} (h : askD k l = some (ns, b)) : l = formN ns ++ formT b ∧ ns.length = k ∧ ∀ n ∈ ns, n ≤ 9223372036854775807 := by
  unfold askD at h
  split at h
  · cases h
  · rename_i ms r h1
    split at h
    · cases h
    · rename_i c h2
      simp only [Option.some.injEq, Prod.mk.injEq] at h
      obtain ⟨rfl, rfl⟩ := h
      obtain ⟨e, hl, ha⟩ := numsD_inv _ _ _ _ h1
      refine ⟨?_, hl, ha⟩
      rw [e]
      unfold tailD at h2
      split at h2
      · rename_i hr
        injection h2 with h2
        subst h2
        rw [hr]; rfl
      · split at h2
        · rename_i hr
          injection h2 with h2
          subst h2
          rw [hr]; rfl
        · cases h2
def Stop (r : List UInt8) : Prop := r = [] ∨ ∃ r', r = 32 :: r'
theorem stop_take {a r : List UInt8} (ha : a.all isD = true) (hr : Stop r) : (a ++ r).takeWhile isD = a ∧ (a ++ r).dropWhile isD = r := by
  induction a with
  | nil =>
    rcases hr with rfl | ⟨r', rfl⟩
    · exact ⟨rfl, rfl⟩
    · exact ⟨by simp [isD], by simp [isD]⟩
  | cons x a ih =>
    simp only [List.all_cons, Bool.and_eq_true] at ha
    obtain ⟨h1, h2⟩ := ih ha.2
    simp [ha.1, h1, h2]
theorem num1_dec (n : Nat) {r : List UInt8} (hn : n ≤ 9223372036854775807) (hr : Stop r) : num1 (32 :: (Lib.decDigits n ++ r)) = some (n, r) := by
  obtain ⟨h1, h2⟩ := stop_take (dec_is n).1 hr
  rw [num1, if_pos rfl, h1, h2, numR_dec n _ (Nat.le_refl _) hn]
  rfl
theorem formN_stop (ns : List Nat) {r : List UInt8} (hr : Stop r) : Stop (formN ns ++ r) := by
  cases ns with
  | nil => exact hr
  | cons n ns => exact .inr ⟨_, rfl⟩
theorem numsD_form : ∀ (ns : List Nat) (r : List UInt8), (∀ n ∈ ns, n ≤ 9223372036854775807) → Stop r → numsD ns.length (formN ns ++ r) = some (ns, r)
  | [], r, _, _ => rfl
  | n :: ns, r, h, hr => by
    have ih := numsD_form ns r (fun m hm => h m (List.mem_cons_of_mem _ hm)) hr
    simp only [List.length_cons, formN, numsD]
    rw [show (32 :: (Lib.decDigits n ++ formN ns) ++ r) = 32 :: (Lib.decDigits n ++ (formN ns ++ r)) by simp, num1_dec n (h n (List.mem_cons_self ..)) (formN_stop ns hr)]
    dsimp only
    rw [ih]
theorem askD_form (ns : List Nat) (b : Bool) (h : ∀ n ∈ ns, n ≤ 9223372036854775807) : askD ns.length (formN ns ++ formT b) = some (ns, b) := by
  unfold askD
  rw [numsD_form ns _ h (by cases b <;> simp [formT, Stop])]
  dsimp only
  cases b <;> simp [formT, tailD, notesB]
/-- The numbers that words are. -/
def intsP : List (List UInt8) → Option (List Nat)
  | [] => some []
  | w :: ws => match numR w 9223372036854775807 with
    | none => none
    | some n => match intsP ws with
      | none => none
      | some ns => some (n :: ns)
def cutN (w : List (List UInt8)) : List (List UInt8) × Bool := if w.getLast? = some notesB then (w.dropLast, true) else (w, false)
def askP (k : Nat) : List UInt8 → Option (List Nat × Bool)
  | [] => none
  | x :: r => if x = 32 then (if (cutN (blkL r)).1.length = k then (intsP (cutN (blkL r)).1).map (fun ns => (ns, (cutN (blkL r)).2)) else none) else none
theorem intsP_inv : ∀ (ws : List (List UInt8)) (ns : List Nat), intsP ws = some ns → ws = ns.map Lib.decDigits ∧ ∀ n ∈ ns, n ≤ 9223372036854775807
  | [], ns, h => by
    simp only [intsP, Option.some.injEq] at h
    subst h
    exact ⟨rfl, fun n hn => by cases hn⟩
  | w :: ws, ns, h => by
    rw [intsP] at h
    split at h
    · cases h
    · rename_i n h1
      split at h
      · cases h
      · rename_i ms h2
        simp only [Option.some.injEq] at h
        subst h
        obtain ⟨e1, hn⟩ := numR_inv h1
        obtain ⟨e2, ha⟩ := intsP_inv ws ms h2
        refine ⟨by rw [e1, e2]; rfl, fun m hm => ?_⟩
        rcases List.mem_cons.1 hm with rfl | hm
        · exact hn
        · exact ha m hm
theorem intsP_form : ∀ ns : List Nat, (∀ n ∈ ns, n ≤ 9223372036854775807) → intsP (ns.map Lib.decDigits) = some ns
  | [], _ => rfl
  | n :: ns, h => by
    rw [List.map_cons, intsP, numR_dec n _ (Nat.le_refl _) (h n (List.mem_cons_self ..))]
    dsimp only
    rw [intsP_form ns (fun m hm => h m (List.mem_cons_of_mem _ hm))]
theorem jn_dec : ∀ ns : List Nat, jn (ns.map Lib.decDigits) = formN ns
  | [] => rfl
  | n :: ns => by simp [jn, formN, jn_dec ns]
def endN (b : Bool) : List (List UInt8) := if b then [notesB] else []
theorem jn_end (b : Bool) : jn (endN b) = formT b := by cases b <;> simp [endN, jn, formT]
theorem cutN_inv {w : List (List UInt8)} : w = (cutN w).1 ++ endN (cutN w).2 := by
  unfold cutN
  split
  · rename_i h
    dsimp only [endN]
    obtain ⟨ys, rfl⟩ := List.getLast?_eq_some_iff.1 h
    simp
  · simp [endN]
theorem dec_no {n : Nat} : ∀ x ∈ Lib.decDigits n, 48 ≤ x.toNat ∧ x.toNat ≤ 57 := fun x hx => isD_le (List.all_eq_true.1 (dec_is n).1 x hx)
theorem dec_notes (n : Nat) : Lib.decDigits n ≠ notesB := fun e => by
  have := dec_no (n := n) 110 (by rw [e]; simp [notesB])
  simp at this
theorem cutN_form (ns : List Nat) (b : Bool) : cutN (ns.map Lib.decDigits ++ endN b) = (ns.map Lib.decDigits, b) := by
  unfold cutN
  cases b with
  | true => simp [endN]
  | false =>
    simp only [endN, Bool.false_eq_true, if_false, List.append_nil]
    rw [if_neg]
    intro h
    have hm := List.mem_of_getLast? h
    obtain ⟨n, _, e⟩ := List.mem_map.1 hm
    exact dec_notes n e
theorem askP_inv {k : Nat} {l : List UInt8} {ns : List Nat} {b : Bool} (h : askP k l = some (ns, b)) : l = formN ns ++ formT b ∧ ns.length = k ∧ ∀ n ∈ ns, n ≤ 9223372036854775807 := by
  cases l with
  | nil => cases h
  | cons x r =>
    rw [askP] at h
    by_cases hx : x = 32
    · rw [if_pos hx] at h
      by_cases hk : (cutN (blkL r)).1.length = k
      · rw [if_pos hk] at h
        cases hi : intsP (cutN (blkL r)).1 with
        | none => rw [hi] at h; cases h
        | some ms =>
          rw [hi] at h
          simp only [Option.map_some, Option.some.injEq, Prod.mk.injEq] at h
          obtain ⟨rfl, rfl⟩ := h
          obtain ⟨e, ha⟩ := intsP_inv _ _ hi
          have hw := cutN_inv (w := blkL r)
          refine ⟨?_, by rw [← hk, e, List.length_map], ha⟩
          have hj := congrArg jn hw
          rw [blk_join, jn_append, jn_end, e, jn_dec] at hj
          rw [hx, hj]
      · rw [if_neg hk] at h; cases h
    · rw [if_neg hx] at h; cases h
theorem askP_form (ns : List Nat) (b : Bool) (h : ∀ n ∈ ns, n ≤ 9223372036854775807) (hne : ns ≠ []) : askP ns.length (formN ns ++ formT b) = some (ns, b) := by
  obtain ⟨n, ms, rfl⟩ : ∃ n ms, ns = n :: ms := by
    cases ns with
    | nil => exact absurd rfl hne
    | cons n ms => exact ⟨n, ms, rfl⟩
  have hb : blkL (Lib.decDigits n ++ jn (ms.map Lib.decDigits ++ endN b)) = Lib.decDigits n :: (ms.map Lib.decDigits ++ endN b) := blk_of _ _ (fun q hq x hx e => by
    subst e
    rcases List.mem_cons.1 hq with rfl | hq
    · have := dec_no _ hx; simp at this
    · rcases List.mem_append.1 hq with hq | hq
      · obtain ⟨m, _, rfl⟩ := List.mem_map.1 hq
        have := dec_no _ hx; simp at this
      · cases b with
        | true =>
          simp only [endN, if_true, List.mem_singleton] at hq
          subst hq
          revert hx; decide
        | false => simp [endN] at hq)
  have e : formN (n :: ms) ++ formT b = 32 :: (Lib.decDigits n ++ jn (ms.map Lib.decDigits ++ endN b)) := by
    rw [jn_append, jn_dec, jn_end]; simp [formN]
  rw [e, askP, if_pos rfl, hb, ← List.cons_append, ← List.map_cons, cutN_form (n :: ms) b]
  dsimp only
  rw [if_pos (by simp), intsP_form _ h]
  rfl
/-- Both ways of reading are one. -/
theorem askP_eq (k : Nat) (hk : 0 < k) (l : List UInt8) : askP k l = askD k l := by
  cases hD : askD k l with
  | some x =>
    obtain ⟨ns, b⟩ := x
    obtain ⟨rfl, hl, ha⟩ := askD_inv hD
    subst hl
    exact askP_form ns b ha (fun e => by rw [e] at hk; simp at hk)
  | none =>
    cases hP : askP k l with
    | none => rfl
    | some x =>
      obtain ⟨ns, b⟩ := x
      obtain ⟨rfl, hl, ha⟩ := askP_inv hP
      subst hl
      rw [askD_form ns b ha] at hD
      cases hD
end Go.Proofs.YtamnononemallaaDoor

/-! MatchBack: right rules are read back from their text, whatever stands behind it. Of rules and a text that are together of at most 1048576 letters and parts. -/
namespace Go.Proofs.YtamnononemallaaDoor
open Go.RowKit
theorem uqM_back : ∀ (l acc t : List UInt8) (k : Nat), uqF false (qB l ++ 34 :: t) acc k = some (acc ++ l, k + (qB l).length + 1)
  | [], acc, t, k => by simp [qB, uqF]
  | x :: l, acc, t, k => by
    have hq : qB (x :: l) = esc x ++ qB l := by simp [qB]
    rw [hq]
    by_cases hx : x = 34 ∨ x = 92
    · have he : esc x = [92, x] := by unfold esc; rw [if_pos hx]
      rw [he]
      simp only [List.cons_append, List.nil_append, uqF]
      rw [if_neg (by decide), if_pos trivial, if_pos hx, uqM_back l]
      simp
      omega
    · have he : esc x = [x] := by unfold esc; rw [if_neg hx]
      rw [he]
      simp only [List.cons_append, List.nil_append, uqF]
      rw [if_neg (fun e => hx (.inl e)), if_neg (fun e => hx (.inr e)), uqM_back l]
      simp
      omega
theorem uqLM_back (l t : List UInt8) : uqL (qL l ++ t) = some (l, (qL l).length) := by
  simp only [qL, List.cons_append, List.append_assoc, List.nil_append]
  rw [uqL_cons, if_pos rfl, uqS, uqM_back]
  simp
  omega
theorem sgn_sg {k : Nat} (h1 : 1 ≤ k) (h4 : k ≤ 4) (r : List UInt8) : sgn (sgB k ++ 34 :: r) = k := by
  have : k = 1 ∨ k = 2 ∨ k = 3 ∨ k = 4 := by omega
  rcases this with rfl | rfl | rfl | rfl <;> simp [sgn, sgnD, sgB, List.isPrefixOf]
theorem ltN_all {l m : List UInt8} (h : ∀ x ∈ l, lt x = true) (hm : ltN m = 0) : ltN (l ++ m) = l.length := by
  induction l with
  | nil => simpa using hm
  | cons x l ih =>
    rw [List.cons_append, ltN, if_pos (h x (by simp)), ih (fun y hy => h y (by simp [hy]))]
    simp
theorem ltN_sg {k : Nat} (h1 : 1 ≤ k) (h4 : k ≤ 4) (r : List UInt8) : ltN (sgB k ++ r) = 0 := by
  have : k = 1 ∨ k = 2 ∨ k = 3 ∨ k = 4 := by omega
  rcases this with rfl | rfl | rfl | rfl <;> (simp only [sgB, List.cons_append, ltN]; rw [if_neg (by decide)])
theorem okR_parts {x : Rul} (h : okR x = true) : nmB x.a = true ∧ ∃ k : Nat, 1 ≤ k ∧ k ≤ 4 ∧ x.op = k ∧ sgO x.op = sgT k := by
  unfold okR at h
  simp only [Bool.and_eq_true, decide_eq_true_eq] at h
  refine ⟨h.1, x.op.toNat, by omega, by omega, by omega, ?_⟩
  unfold sgO
  rw [if_pos ⟨h.2.1, h.2.2.1⟩]
/-- Right rules are read back. -/
theorem prq_back (behind : List UInt8) : ∀ (l : List Rul) (f at_ : Nat) (out : List Rul), l ≠ [] → l.length ≤ f → rightR (out ++ l) = true →
    prq (fun r => some (ltN r)) (fun o => decide (o.length ≤ 16)) f (rj l ++ 125 :: behind) at_ out = some (out ++ l, at_ + (rj l).length + 1)
  | [], _, _, _, h, _, _ => absurd rfl h
  | x :: l, 0, _, _, _, hf, _ => by simp at hf
  | x :: l, f + 1, at_, out, _, hf, hr => by
    have hr' := hr
    unfold rightR at hr
    simp only [Bool.and_eq_true, decide_eq_true_eq, List.all_eq_true] at hr
    obtain ⟨hlen, hok⟩ := hr
    obtain ⟨hnm, k, k1, k4, hop, hsg⟩ := okR_parts (hok x (by simp))
    obtain ⟨_, hlt⟩ := nmB_lt hnm
    have hlen' : out.length ≤ 16 := by simp at hlen; omega
    unfold prq
    rw [if_pos (decide_eq_true hlen')]
    dsimp only
    have hT : rj (x :: l) ++ 125 :: behind = x.a.data.toList ++ (sgB k ++ (qL x.b.data.toList ++ (rjt l ++ 125 :: behind))) := by
      simp [rj, rulB, hsg, sgT_list]
    have hql : qL x.b.data.toList ++ (rjt l ++ 125 :: behind) = 34 :: (qB x.b.data.toList ++ [34] ++ (rjt l ++ 125 :: behind)) := by simp [qL]
    have hN : ltN (rj (x :: l) ++ 125 :: behind) = x.a.data.toList.length := by
      rw [hT]
      exact ltN_all hlt (ltN_sg k1 k4 _)
    rw [hN]
    have hd1 : (rj (x :: l) ++ 125 :: behind).drop x.a.data.toList.length = sgB k ++ (qL x.b.data.toList ++ (rjt l ++ 125 :: behind)) := by rw [hT, List.drop_left]
    have hs : sgn ((rj (x :: l) ++ 125 :: behind).drop x.a.data.toList.length) = k := by rw [hd1, hql, sgn_sg k1 k4]
    have hd2 : (rj (x :: l) ++ 125 :: behind).drop (x.a.data.toList.length + (sgB k).length) = qL x.b.data.toList ++ (rjt l ++ 125 :: behind) := by rw [← List.drop_drop, hd1, List.drop_left]
    have hd3 : (rj (x :: l) ++ 125 :: behind).drop (x.a.data.toList.length + (sgB k).length + (qL x.b.data.toList).length) = rjt l ++ 125 :: behind := by rw [← List.drop_drop, hd2, List.drop_left]
    have htk : (rj (x :: l) ++ 125 :: behind).take x.a.data.toList.length = x.a.data.toList := by rw [hT, List.take_left]
    have hx : (⟨⟨x.a.data.toList.toArray⟩, (k : Int), ⟨x.b.data.toList.toArray⟩⟩ : Rul) = x := by
      obtain ⟨a, op, b⟩ := x
      simp only at hop ⊢
      rw [hop, Lib.mk_data, Lib.mk_data]
    have hlj : (rj (x :: l)).length = x.a.data.toList.length + (sgB k).length + (qL x.b.data.toList).length + (rjt l).length := by
      simp only [rj, rulB, hsg, sgT_list, List.length_append]
      omega
    have hst : stq x.a.data.toList.length (prq (fun r => some (ltN r)) (fun o => decide (o.length ≤ 16)) f) (rj (x :: l) ++ 125 :: behind) at_ out = match rjt l ++ 125 :: behind with
        | [] => none
        | y :: rest => if y = 125 then (if rightR (out ++ [x]) = true then some (out ++ [x], at_ + (x.a.data.toList.length + (sgB k).length + (qL x.b.data.toList).length) + 1) else none)
          else if y = 44 then prq (fun r => some (ltN r)) (fun o => decide (o.length ≤ 16)) f rest (at_ + (x.a.data.toList.length + (sgB k).length + (qL x.b.data.toList).length) + 1) (out ++ [x]) else none := by
      unfold stq
      rw [hs, if_neg (by omega), hd2, uqLM_back]
      dsimp only
      rw [hd3, htk, hx]
      cases rjt l ++ 125 :: behind <;> rfl
    rw [hst]
    cases l with
    | nil =>
      simp only [rjt, List.nil_append]
      rw [if_pos trivial, if_pos (by simpa using hr')]
      simp only [rjt, List.length_nil] at hlj
      rw [hlj]
      simp <;> omega
    | cons y m =>
      have hap : rjt (y :: m) ++ 125 :: behind = 44 :: (rj (y :: m) ++ 125 :: behind) := by simp [rjt, rj]
      rw [hap]
      dsimp only
      rw [if_neg (by decide), if_pos rfl, prq_back behind (y :: m) f _ (out ++ [x]) (by simp) (by simp at hf ⊢; omega) (by simpa using hr')]
      have hjl : (rjt (y :: m)).length = (rj (y :: m)).length + 1 := by simp [rjt, rj]
      rw [hlj, hjl]
      simp
      omega
theorem szJt : ∀ l : List Rul, l.length ≤ (rjt l).length
  | [] => Nat.le_refl _
  | x :: l => by have := szJt l; simp only [rjt, List.length_cons, List.length_append]; omega
theorem szJ : ∀ l : List Rul, l.length ≤ (rj l).length + 1
  | [] => Nat.zero_le _
  | x :: l => by have := szJt l; simp only [rj, List.length_cons, List.length_append]; omega
theorem psq_back {l : List Rul} (hr : rightR l = true) (behind : List UInt8) : psq ((rtB l).data.toList ++ behind) = (l, (rtB l).size) := by
  have hT : (rtB l).data.toList ++ behind = 123 :: (rj l ++ 125 :: behind) := by simp [rtB]
  have hz : (rtB l).size = (rj l).length + 2 := by rw [Lib.size_eq]; simp [rtB]
  rw [hT, hz]
  unfold psq
  rw [if_neg (by simp)]
  cases l with
  | nil => simp [rj]
  | cons x l =>
    have hr' := hr
    unfold rightR at hr'
    simp only [Bool.and_eq_true, decide_eq_true_eq, List.all_eq_true] at hr'
    obtain ⟨hnm, k, k1, k4, hop, hsg⟩ := okR_parts (hr'.2 x (by simp))
    obtain ⟨hz32, hlt⟩ := nmB_lt hnm
    have hne : ¬ ((List.drop 1 (123 :: (rj (x :: l) ++ 125 :: behind))).head? = some 125) := by
      intro e
      have hl : 0 < x.a.data.toList.length := by
        unfold nmB at hnm
        simp only [Bool.and_eq_true, decide_eq_true_eq] at hnm
        rw [← Lib.size_eq]
        omega
      cases hx : x.a.data.toList with
      | nil => rw [hx] at hl; simp at hl
      | cons y m =>
        simp [rj, rulB, hx] at e
        have := hlt y (by rw [hx]; simp)
        rw [e] at this
        revert this
        decide
    rw [if_neg hne, List.drop_one, List.tail_cons, prq_same, prq_back behind (x :: l) _ 1 [] (by simp) (by
      have := szJ (x :: l)
      simp only [List.length_cons, List.length_append] at this ⊢
      omega) hr]
    simp [psqO]
    omega
end Go.Proofs.YtamnononemallaaDoor

/-! What a query tells of points, in plain words. -/
namespace Go.Proofs.YtamnononemallaaDoor
open Go.RowKit
structure Pt where
  s : List Par
  t : Int
  k : Int
  n : Int
  x : ByteArray
  a : Int
  b : Int
  c : Int
structure Qy where
  op : Int
  r : List Rul
  f : Int
  t : Int
  s : Int
  n : Bool
structure Rw where
  s : List Par
  l : List (Int × Int)
def sameS (p q : Pt) : Bool := decide (cmpL p.s q.s = 0)
theorem sameS_iff {p q : Pt} : sameS p q = true ↔ p.s = q.s := by rw [sameS, decide_eq_true_eq, cmpL_zero]
def inQ (q : Qy) (p : Pt) : Bool := decide (q.f ≤ p.t) && decide (p.t < q.t)
def smpsOf (q : Qy) (g : List Pt) : List (Int × Int) := (g.filter fun p => decide (p.k = 1) && inQ q p).map fun p => (p.t, p.n)
def notesOf (q : Qy) (g : List Pt) : List Pt := if q.n = true then g.filter fun p => decide (p.k = 2) && inQ q p else []
noncomputable def cellsOf (q : Qy) (g : List Pt) : List (Int × Int) × Int := if q.op = 0 then (smpsOf q g, 0) else winsA q.op (smpsOf q g) q.f q.t q.s
def rowOf (s : List Par) (cs : List (Int × Int)) : List Rw := if cs = [] then [] else [⟨s, cs⟩]
structure An where
  rows : List Rw
  notes : List Pt
  e : Int
noncomputable def runP (q : Qy) (l : List Pt) (rows : List Rw) (notes : List Pt) : An := match l with
  | [] => ⟨rows, notes, 0⟩
  | p :: r => if allL q.r p.s = true then
      if (cellsOf q (p :: r.takeWhile (sameS p))).2 ≠ 0 then ⟨[], [], (cellsOf q (p :: r.takeWhile (sameS p))).2⟩
      else runP q (r.dropWhile (sameS p)) (rows ++ rowOf p.s (cellsOf q (p :: r.takeWhile (sameS p))).1) (notes ++ notesOf q (p :: r.takeWhile (sameS p)))
    else runP q (r.dropWhile (sameS p)) rows notes
termination_by l.length
decreasing_by all_goals (simp only [List.length_cons]; exact Nat.lt_succ_of_le (List.dropWhile_sublist _).length_le)
theorem runP_nil (q : Qy) (rows : List Rw) (notes : List Pt) : runP q [] rows notes = ⟨rows, notes, 0⟩ := by rw [runP]
theorem runP_cons (q : Qy) (p : Pt) (r : List Pt) (rows : List Rw) (notes : List Pt) : runP q (p :: r) rows notes = if allL q.r p.s = true then
      if (cellsOf q (p :: r.takeWhile (sameS p))).2 ≠ 0 then ⟨[], [], (cellsOf q (p :: r.takeWhile (sameS p))).2⟩
      else runP q (r.dropWhile (sameS p)) (rows ++ rowOf p.s (cellsOf q (p :: r.takeWhile (sameS p))).1) (notes ++ notesOf q (p :: r.takeWhile (sameS p)))
    else runP q (r.dropWhile (sameS p)) rows notes := by rw [runP]
/-- What was told ahead stands ahead. -/
def An.behind (x : An) (rows : List Rw) (notes : List Pt) : An := if x.e ≠ 0 then x else ⟨rows ++ x.rows, notes ++ x.notes, 0⟩
theorem runP_acc (q : Qy) : ∀ (n : Nat) (l : List Pt) (rows : List Rw) (notes : List Pt), l.length ≤ n → runP q l rows notes = (runP q l [] []).behind rows notes
  | _, [], rows, notes, _ => by rw [runP_nil, runP_nil]; simp [An.behind]
  | 0, p :: r, rows, notes, h => by simp at h
  | n + 1, p :: r, rows, notes, h => by
    have hd : (r.dropWhile (sameS p)).length ≤ n := by have := (List.dropWhile_sublist (sameS p) (l := r)).length_le; simp only [List.length_cons] at h; omega
    rw [runP_cons, runP_cons]
    by_cases ha : allL q.r p.s = true
    · rw [if_pos ha, if_pos ha]
      by_cases he : (cellsOf q (p :: r.takeWhile (sameS p))).2 ≠ 0
      · rw [if_pos he, if_pos he, An.behind, if_pos he]
      · rw [if_neg he, if_neg he, runP_acc q n _ _ _ hd]
        conv => rhs; rw [runP_acc q n _ _ _ hd]
        unfold An.behind
        by_cases h2 : (runP q (r.dropWhile (sameS p)) [] []).e ≠ 0
        · simp only [if_pos h2]
        · simp only [if_neg h2]
          simp
    · rw [if_neg ha, if_neg ha]
      exact runP_acc q n _ _ _ hd
theorem take_same {p : Pt} {r m : List Pt} (h : ∀ x, (p :: r).getLast? = some x → ∀ y, m.head? = some y → x.s ≠ y.s) :
    (r ++ m).takeWhile (sameS p) = r.takeWhile (sameS p) ∧ (r ++ m).dropWhile (sameS p) = r.dropWhile (sameS p) ++ m := by
  induction r generalizing p with
  | nil =>
    cases m with
    | nil => exact ⟨rfl, rfl⟩
    | cons y m =>
      have hn : sameS p y = false := by
        rw [Bool.eq_false_iff]
        intro e
        exact h p rfl y rfl (sameS_iff.1 e)
      simp [hn]
  | cons z r ih =>
    by_cases hz : sameS p z = true
    · have hp : (sameS p : Pt → Bool) = sameS z := by
        funext y
        rw [Bool.eq_iff_iff, sameS_iff, sameS_iff, sameS_iff.1 hz]
      obtain ⟨h1, h2⟩ := ih (p := z) (fun x hx y hy => h x (by rw [List.getLast?_cons_cons]; exact hx) y hy)
      have hz' := hz
      rw [hp] at hz' ⊢
      simp only [List.cons_append, List.takeWhile_cons, List.dropWhile_cons, hz', if_true, h1, h2]
      exact ⟨trivial, trivial⟩
    · simp [hz]
theorem drop_last {p : Pt} {r : List Pt} {x : Pt} (h : (r.dropWhile (sameS p)).getLast? = some x) : (p :: r).getLast? = some x := by
  obtain ⟨a, e⟩ := List.dropWhile_suffix (sameS p) (l := r)
  obtain ⟨ys, hy⟩ := List.getLast?_eq_some_iff.1 h
  rw [List.getLast?_eq_some_iff]
  exact ⟨p :: (a ++ ys), by rw [← e, hy]; simp⟩
/-- Points of sets that stand behind others. -/
theorem runP_app (q : Qy) : ∀ (n : Nat) (l m : List Pt) (rows : List Rw) (notes : List Pt), l.length ≤ n → (∀ x, l.getLast? = some x → ∀ y, m.head? = some y → x.s ≠ y.s) →
    runP q (l ++ m) rows notes = if (runP q l rows notes).e ≠ 0 then runP q l rows notes else runP q m (runP q l rows notes).rows (runP q l rows notes).notes
  | _, [], m, rows, notes, _, _ => by rw [runP_nil]; simp
  | 0, p :: r, m, rows, notes, h, _ => by simp at h
  | n + 1, p :: r, m, rows, notes, h, hl => by
    have hd : (r.dropWhile (sameS p)).length ≤ n := by have := (List.dropWhile_sublist (sameS p) (l := r)).length_le; simp only [List.length_cons] at h; omega
    obtain ⟨h1, h2⟩ := take_same hl
    have ih := fun rows notes => runP_app q n (r.dropWhile (sameS p)) m rows notes hd (fun x hx y hy => hl x (drop_last hx) y hy)
    rw [List.cons_append, runP_cons, runP_cons, h1, h2]
    by_cases ha : allL q.r p.s = true
    · rw [if_pos ha, if_pos ha]
      by_cases he : (cellsOf q (p :: r.takeWhile (sameS p))).2 ≠ 0
      · rw [if_pos he, if_pos he]; simp only [if_pos he]
      · rw [if_neg he, if_neg he, ih]
    · rw [if_neg ha, if_neg ha, ih]
/-- What the document has still to look at. -/
def rst (l : List Pt) : Nat → List Pt
  | 0 => l
  | i + 1 => match l[i]? with
    | none => []
    | some p => (l.drop (i + 1)).dropWhile (sameS p)
theorem rst_at {l : List Pt} {i : Nat} {p : Pt} (h : l[i]? = some p) : rst l (i + 1) = (l.drop (i + 1)).dropWhile (sameS p) := by rw [rst, h]
theorem drop_pt {l : List Pt} {i : Nat} {p : Pt} (h : l[i]? = some p) : l.drop i = p :: l.drop (i + 1) := by
  obtain ⟨hi, rfl⟩ := List.getElem?_eq_some_iff.1 h
  exact List.drop_eq_getElem_cons hi
theorem same_fun {p z : Pt} (h : p.s = z.s) : (sameS p : Pt → Bool) = sameS z := by
  funext y
  rw [Bool.eq_iff_iff, sameS_iff, sameS_iff, h]
theorem rst_skip {l : List Pt} {i : Nat} {p z : Pt} (hp : l[i]? = some p) (hz : l[i + 1]? = some z) (h : p.s = z.s) : rst l (i + 1 + 1) = rst l (i + 1) := by
  rw [rst_at hp, rst_at hz, drop_pt hz, List.dropWhile_cons, if_pos (sameS_iff.2 h), same_fun h]
theorem rst_first {l : List Pt} {i : Nat} {p z : Pt} (hp : l[i]? = some p) (hz : l[i + 1]? = some z) (h : p.s ≠ z.s) : rst l (i + 1) = z :: l.drop (i + 1 + 1) := by
  rw [rst_at hp, drop_pt hz, List.dropWhile_cons, if_neg (fun e => h (sameS_iff.1 e))]
theorem rst_zero {l : List Pt} {z : Pt} (hz : l[0]? = some z) : rst l 0 = z :: l.drop 1 := by rw [rst]; exact drop_pt hz
theorem rst_end (l : List Pt) : rst l l.length = [] := by
  cases hn : l.length with
  | zero => rw [rst]; exact List.eq_nil_of_length_eq_zero hn
  | succ n =>
    rw [rst]
    split
    · rfl
    · rw [List.drop_eq_nil_of_le (by omega)]; rfl
/-- The points of one set, one by one. -/
theorem grp_more {l : List Pt} {i k : Nat} {p z : Pt} (hk : i ≤ k) (hz : l[k]? = some z) : (l.drop i).take (k + 1 - i) = (l.drop i).take (k - i) ++ [z] := by
  rw [show k + 1 - i = (k - i) + 1 by omega, List.take_add_one]
  rw [List.getElem?_drop, show i + (k - i) = k by omega, hz]
  rfl
theorem grp_end {l : List Pt} {i k : Nat} {p : Pt} (hi : l[i]? = some p) (hik : i < k) (hkl : k ≤ l.length) (hall : ∀ j z, i ≤ j → j < k → l[j]? = some z → p.s = z.s) (hend : ∀ z, l[k]? = some z → p.s ≠ z.s) :
    (l.drop i).take (k - i) = p :: (l.drop (i + 1)).takeWhile (sameS p) ∧ l.drop k = (l.drop (i + 1)).dropWhile (sameS p) := by
  have hd := drop_pt hi
  have key : ∀ (n : Nat) (m : List Pt), (∀ j z, j < n → m[j]? = some z → p.s = z.s) → n ≤ m.length → (∀ z, m[n]? = some z → p.s ≠ z.s) → m.take n = m.takeWhile (sameS p) ∧ m.drop n = m.dropWhile (sameS p) := by
    intro n
    induction n with
    | zero =>
      intro m _ _ he
      cases m with
      | nil => exact ⟨rfl, rfl⟩
      | cons y m =>
        have : ¬ sameS p y = true := fun e => he y rfl (sameS_iff.1 e)
        simp [this]
    | succ n ih =>
      intro m ha hl he
      cases m with
      | nil => simp at hl
      | cons y m =>
        have hy : sameS p y = true := sameS_iff.2 (ha 0 y (by omega) rfl)
        obtain ⟨h1, h2⟩ := ih m (fun j z hj hz => ha (j + 1) z (by omega) (by rw [List.getElem?_cons_succ]; exact hz)) (by simpa using hl) (fun z hz => he z (by rw [List.getElem?_cons_succ]; exact hz))
        simp only [List.take_succ_cons, List.drop_succ_cons, List.takeWhile_cons, List.dropWhile_cons, hy, if_true, h1, h2]
        exact ⟨trivial, trivial⟩
  obtain ⟨h1, h2⟩ := key (k - (i + 1)) (l.drop (i + 1)) (fun j z hj hz => hall (i + 1 + j) z (by omega) (by omega) (by rw [List.getElem?_drop] at hz; exact hz)) (by rw [List.length_drop]; omega) (fun z hz => hend z (by rw [List.getElem?_drop, show i + 1 + (k - (i + 1)) = k by omega] at hz; exact hz))
  refine ⟨?_, ?_⟩
  · rw [hd, show k - i = (k - (i + 1)) + 1 by omega, List.take_succ_cons, h1]
  · rw [← h2, List.drop_drop, show i + 1 + (k - (i + 1)) = k by omega]
theorem smpsOf_snoc (q : Qy) (g : List Pt) (z : Pt) : smpsOf q (g ++ [z]) = smpsOf q g ++ (if z.k = 1 ∧ q.f ≤ z.t ∧ z.t < q.t then [(z.t, z.n)] else []) := by
  unfold smpsOf
  rw [List.filter_append, List.map_append]
  congr 1
  by_cases h : z.k = 1 ∧ q.f ≤ z.t ∧ z.t < q.t
  · rw [if_pos h]
    have : (decide (z.k = 1) && inQ q z) = true := by simp [inQ, h.1, h.2.1, h.2.2]
    simp [this]
  · rw [if_neg h]
    have : (decide (z.k = 1) && inQ q z) = false := by
      rw [Bool.eq_false_iff]
      intro e
      simp only [inQ, Bool.and_eq_true, decide_eq_true_eq] at e
      exact h ⟨e.1, e.2.1, e.2.2⟩
    simp [this]
theorem notes_snoc (q : Qy) (g : List Pt) (z : Pt) : notesOf q (g ++ [z]) = notesOf q g ++ (if q.n = true ∧ z.k = 2 ∧ q.f ≤ z.t ∧ z.t < q.t then [z] else []) := by
  unfold notesOf
  by_cases hn : q.n = true
  · rw [if_pos hn, if_pos hn, List.filter_append]
    congr 1
    by_cases h : z.k = 2 ∧ q.f ≤ z.t ∧ z.t < q.t
    · rw [if_pos ⟨hn, h⟩]
      have : (decide (z.k = 2) && inQ q z) = true := by simp [inQ, h.1, h.2.1, h.2.2]
      simp [this]
    · rw [if_neg (fun e => h e.2)]
      have : (decide (z.k = 2) && inQ q z) = false := by
        rw [Bool.eq_false_iff]
        intro e
        simp only [inQ, Bool.and_eq_true, decide_eq_true_eq] at e
        exact h ⟨e.1, e.2.1, e.2.2⟩
      simp [this]
  · rw [if_neg hn, if_neg hn, if_neg (fun e => hn e.1)]
    rfl
/-- Points in order: a set's samples rise. -/
def OrdP : List Pt → Prop
  | [] => True
  | [_] => True
  | p :: z :: r => (cmpL p.s z.s < 0 ∨ (cmpL p.s z.s = 0 ∧ p.t < z.t)) ∧ OrdP (z :: r)
theorem OrdP.tail {p : Pt} {r : List Pt} (h : OrdP (p :: r)) : OrdP r := by
  cases r with
  | nil => trivial
  | cons z r => exact h.2
theorem OrdP.rise : ∀ (r : List Pt) (p : Pt), OrdP (p :: r) → (∀ z ∈ r, p.s = z.s) → (p :: r).Pairwise fun x y => x.t < y.t
  | [], p, _, _ => by simp
  | z :: r, p, h, hs => by
    have hz := hs z (List.mem_cons_self ..)
    have h1 : p.t < z.t := by
      rcases h.1 with h1 | h1
      · rw [(cmpL_zero _ _).2 hz] at h1; omega
      · exact h1.2
    have ih := OrdP.rise r z h.2 (fun y hy => hz ▸ hs y (List.mem_cons_of_mem _ hy))
    refine List.pairwise_cons.2 ⟨fun y hy => ?_, ih⟩
    rcases List.mem_cons.1 hy with rfl | hy
    · exact h1
    · have := (List.pairwise_cons.1 ih).1 y hy; omega
theorem OrdP.drop {l : List Pt} (h : OrdP l) (i : Nat) : OrdP (l.drop i) := by
  induction i generalizing l with
  | zero => exact h
  | succ i ih =>
    cases l with
    | nil => trivial
    | cons p r => exact ih h.tail
theorem OrdP.take : ∀ (r : List Pt) (p : Pt) (f : Pt → Bool), OrdP (p :: r) → OrdP (p :: r.takeWhile f)
  | [], _, _, _ => trivial
  | z :: r, p, f, h => by
    rw [List.takeWhile_cons]
    split
    · exact ⟨h.1, OrdP.take r z f h.2⟩
    · trivial
theorem smps_rise (q : Qy) {p : Pt} {r : List Pt} (h : OrdP (p :: r)) : (smpsOf q (p :: r.takeWhile (sameS p))).Pairwise fun x y => x.1 ≤ y.1 := by
  have h1 := OrdP.rise _ p (OrdP.take r p (sameS p) h) (fun z hz => sameS_iff.1 (List.all_eq_true.1 (List.all_takeWhile ..) z hz))
  unfold smpsOf
  rw [List.pairwise_map]
  exact (h1.sublist List.filter_sublist).imp (fun hab => Int.le_of_lt hab)
end Go.Proofs.YtamnononemallaaDoor

/-! Rules that were read are, written again, what stood there. -/
namespace Go.Proofs.YtamnononemallaaDoor
open Go.RowKit
theorem stq_inv {k : Nat} {rec : List UInt8 → Nat → List Rul → Option (List Rul × Nat)} {r : List UInt8} {at_ : Nat} {out l : List Rul} {m : Nat} (h : stq k rec r at_ out = some (l, m)) :
    ∃ (x : Rul) (rest : List UInt8), r = rulB x ++ rest ∧ ((∃ b, rest = 125 :: b ∧ l = out ++ [x] ∧ m = at_ + (rulB x).length + 1 ∧ rightR l = true) ∨ (∃ b, rest = 44 :: b ∧ rec b (at_ + (rulB x).length + 1) (out ++ [x]) = some (l, m))) := by
  unfold stq at h
  by_cases hs : sgn (r.drop k) = 0
  · rw [if_pos hs] at h; cases h
  rw [if_neg hs] at h
  cases hu : uqL (r.drop (k + (sgB (sgn (r.drop k))).length)) with
  | none => rw [hu] at h; cases h
  | some p =>
    obtain ⟨v, n⟩ := p
    rw [hu] at h
    dsimp only at h
    obtain ⟨rest, e1, e2⟩ := uqL_inv hu
    have h4 := sgn_le (r.drop k)
    have hd : r.drop (k + (sgB (sgn (r.drop k))).length + n) = rest := by
      rw [← List.drop_drop, e1, e2, List.drop_left]
    have hpre : r.drop k = sgB (sgn (r.drop k)) ++ r.drop (k + (sgB (sgn (r.drop k))).length) := by
      obtain ⟨t, ht⟩ := List.isPrefixOf_iff_prefix.1 (sgn_pre hs)
      rw [← List.drop_drop]
      generalize sgn (r.drop k) = o at *
      rw [← ht, List.drop_left]
    have hk : (r.take k).length = k ∨ r.drop k = [] := by
      rcases Nat.lt_or_ge k r.length with h | h
      · exact .inl (by rw [List.length_take]; omega)
      · exact .inr (List.drop_eq_nil_of_le h)
    have hk' : (r.take k).length = k := hk.resolve_right (fun e => hs (by rw [e]; exact sgn_nil))
    have hsg : (sgO ((sgn (r.drop k) : Nat) : Int)).data.toList = sgB (sgn (r.drop k)) := by
      unfold sgO
      rw [if_pos (by omega), Int.toNat_natCast, sgT_list]
    have hx : rulB ⟨⟨(r.take k).toArray⟩, (sgn (r.drop k) : Nat), ⟨v.toArray⟩⟩ = r.take k ++ (sgB (sgn (r.drop k)) ++ qL v) := by
      unfold rulB
      dsimp only
      rw [hsg]
    have hr : r = rulB ⟨⟨(r.take k).toArray⟩, (sgn (r.drop k) : Nat), ⟨v.toArray⟩⟩ ++ rest := by
      rw [hx]
      conv => lhs; rw [← List.take_append_drop k r, hpre, e1]
      simp
    have hl : (rulB ⟨⟨(r.take k).toArray⟩, (sgn (r.drop k) : Nat), ⟨v.toArray⟩⟩).length = k + (sgB (sgn (r.drop k))).length + n := by
      rw [hx, List.length_append, List.length_append, hk', e2]; omega
    rw [hd] at h
    refine ⟨⟨⟨(r.take k).toArray⟩, (sgn (r.drop k) : Nat), ⟨v.toArray⟩⟩, rest, hr, ?_⟩
    rw [hl]
    cases rest with
    | nil => cases h
    | cons y b =>
      dsimp only at h
      by_cases h1 : y = 125
      · rw [if_pos h1] at h
        by_cases h2 : rightR (out ++ [⟨⟨(r.take k).toArray⟩, sgn (r.drop k), ⟨v.toArray⟩⟩]) = true
        · rw [if_pos h2] at h
          simp only [Option.some.injEq, Prod.mk.injEq] at h
          obtain ⟨rfl, rfl⟩ := h
          exact .inl ⟨b, by rw [h1], rfl, rfl, h2⟩
        · rw [if_neg h2] at h; cases h
      · rw [if_neg h1] at h
        by_cases h2 : y = 44
        · rw [if_pos h2] at h
          exact .inr ⟨b, by rw [h2], h⟩
        · rw [if_neg h2] at h; cases h
theorem prq_inv {N : List UInt8 → Option Nat} {C : List Rul → Bool} : ∀ (f : Nat) (r : List UInt8) (a : Nat) (out l : List Rul) (m : Nat), prq N C f r a out = some (l, m) →
    ∃ (x : Rul) (new : List Rul) (b : List UInt8), l = out ++ x :: new ∧ r = rj (x :: new) ++ 125 :: b ∧ m = a + (rj (x :: new)).length + 1 ∧ rightR l = true
  | 0, _, _, _, _, _, h => by cases h
  | f + 1, r, a, out, l, m, h => by
    rw [prq] at h
    by_cases hC : C out = true
    · rw [if_pos hC] at h
      cases hN : N r with
      | none => rw [hN] at h; cases h
      | some k =>
        rw [hN] at h
        dsimp only at h
        obtain ⟨x, rest, hr, hh⟩ := stq_inv h
        rcases hh with ⟨b, rfl, rfl, rfl, hR⟩ | ⟨b, rfl, hrec⟩
        · exact ⟨x, [], b, rfl, by rw [hr]; simp [rj, rjt], by simp [rj, rjt], hR⟩
        · obtain ⟨x', new, b', rfl, hb, rfl, hR⟩ := prq_inv f _ _ _ _ _ hrec
          refine ⟨x, x' :: new, b', by simp, ?_, ?_, hR⟩
          · rw [hr, hb]; simp [rj, rjt]
          · simp [rj, rjt]; omega
    · rw [if_neg hC] at h; cases h
/-- Rules that were read stood there as they are written. -/
theorem psq_inv {T : List UInt8} {l : List Rul} {n : Nat} (h : psq T = (l, n)) (hn : n ≠ 0) : ∃ rest, T = (rtB l).data.toList ++ rest ∧ n = (rtB l).size ∧ rightR l = true := by
  unfold psq at h
  by_cases h1 : T.head? ≠ some 123
  · rw [if_pos h1] at h
    simp only [Prod.mk.injEq] at h
    exact absurd h.2.symm hn
  rw [if_neg h1] at h
  have h1' : T.head? = some 123 := Classical.not_not.1 h1
  obtain ⟨T', rfl⟩ : ∃ T', T = 123 :: T' := by
    cases T with
    | nil => cases h1'
    | cons y T' => exact ⟨T', by simp at h1'; rw [h1']⟩
  rw [List.drop_one, List.tail_cons] at h
  by_cases h2 : T'.head? = some 125
  · rw [if_pos h2] at h
    simp only [Prod.mk.injEq] at h
    obtain ⟨rfl, rfl⟩ := h
    obtain ⟨b, rfl⟩ : ∃ b, T' = 125 :: b := by
      cases T' with
      | nil => cases h2
      | cons y b => exact ⟨b, by simp at h2; rw [h2]⟩
    exact ⟨b, by simp [rtB, rj], rfl, rfl⟩
  · rw [if_neg h2] at h
    cases hp : prq (fun r => scn r 32) (fun _ => true) (123 :: T').length T' 1 [] with
    | none =>
      rw [hp] at h
      simp only [psqO, Prod.mk.injEq] at h
      exact absurd h.2.symm hn
    | some p =>
      obtain ⟨l', n'⟩ := p
      rw [hp] at h
      simp only [psqO, Prod.mk.injEq] at h
      obtain ⟨rfl, rfl⟩ := h
      obtain ⟨x, new, b, rfl, hT, rfl, hR⟩ := prq_inv _ _ _ _ _ _ hp
      refine ⟨b, ?_, ?_, hR⟩
      · rw [hT]; simp [rtB]
      · simp [rtB, Lib.size_eq]; omega
end Go.Proofs.YtamnononemallaaDoor

/-! A query and its text, in plain words. -/
namespace Go.Proofs.YtamnononemallaaDoor
open Go.RowKit
def wordB : Nat → List UInt8
  | 0 => [112, 111, 105, 110, 116, 115]
  | 1 => [115, 117, 109]
  | 2 => [99, 111, 117, 110, 116]
  | 3 => [109, 105, 110]
  | 4 => [109, 97, 120]
  | 5 => [100, 101, 108, 116, 97]
  | _ => [63]
def opD : Nat → List UInt8 → Option Nat
  | 0, _ => none
  | k + 1, w => if w = wordB k then some k else opD k w
/-- The op whose word it is. -/
def opW (w : List UInt8) : Option Nat := opD 6 w
def wordOf (op : Int) : List UInt8 := if 0 ≤ op ∧ op ≤ 5 then wordB op.toNat else [63]
theorem opW_word {k : Nat} (h : k ≤ 5) : opW (wordB k) = some k := by
  have : k = 0 ∨ k = 1 ∨ k = 2 ∨ k = 3 ∨ k = 4 ∨ k = 5 := by omega
  rcases this with rfl | rfl | rfl | rfl | rfl | rfl <;> rfl
theorem opW_inv {w : List UInt8} {k : Nat} (h : opW w = some k) : w = wordB k ∧ k ≤ 5 := by
  have key : ∀ n, opD n w = some k → w = wordB k ∧ k < n := by
    intro n
    induction n with
    | zero => intro h; cases h
    | succ n ih =>
      intro h
      rw [opD] at h
      by_cases hw : w = wordB n
      · rw [if_pos hw] at h
        injection h with h
        subst h
        exact ⟨hw, by omega⟩
      · rw [if_neg hw] at h
        obtain ⟨h1, h2⟩ := ih h
        exact ⟨h1, by omega⟩
  obtain ⟨h1, h2⟩ := key 6 h
  exact ⟨h1, by omega⟩
def noB (x : UInt8) : Bool := decide (x ≠ 123)
theorem word_take {k : Nat} (h : k ≤ 5) (r : List UInt8) : (wordB k ++ 123 :: r).takeWhile noB = wordB k := by
  have : k = 0 ∨ k = 1 ∨ k = 2 ∨ k = 3 ∨ k = 4 ∨ k = 5 := by omega
  rcases this with rfl | rfl | rfl | rfl | rfl | rfl <;> simp [wordB, noB]
def rightQ (q : Qy) : Bool := decide (0 ≤ q.op) && (decide (q.op ≤ 5) && (rightR q.r && (decide (0 ≤ q.f) && (decide (q.f ≤ q.t) && (decide (q.t ≤ 4611686018427387904) &&
  (if q.op = 0 then decide (q.s = 0) else decide (1 ≤ q.s) && (decide (q.s ≤ 4611686018427387904) && (decide (q.t = q.f) || decide ((q.t - q.f - 1) / q.s < 1024)))))))))
def zeroQ : Qy := ⟨0, [], 0, 0, 0, false⟩
def mkQ (op : Nat) (r : List Rul) (ns : List Nat) (b : Bool) : Qy := ⟨op, r, (ns.getD 0 0 : Nat), (ns.getD 1 0 : Nat), (ns.getD 2 0 : Nat), b⟩
def headT (T : List UInt8) : List UInt8 := T.takeWhile noB
structure Qe where
  e : Int
  q : Qy
/-- The query that a text is, or why it is none. -/
def parQ (T : List UInt8) : Qe :=
  if 4096 < T.length then ⟨8, zeroQ⟩ else if (headT T).length = T.length then ⟨90, zeroQ⟩ else match opW (headT T) with
    | none => ⟨90, zeroQ⟩
    | some op => if (psq (T.drop (headT T).length)).2 = 0 then ⟨50, zeroQ⟩ else
      match askD (if op = 0 then 2 else 3) (T.drop ((headT T).length + (psq (T.drop (headT T).length)).2)) with
      | none => ⟨90, zeroQ⟩
      | some p => if rightQ (mkQ op (psq (T.drop (headT T).length)).1 p.1 p.2) = true then ⟨0, mkQ op (psq (T.drop (headT T).length)).1 p.1 p.2⟩ else ⟨90, zeroQ⟩
def numsT (q : Qy) : List UInt8 := 32 :: (Lib.itoa q.f ++ 32 :: (Lib.itoa q.t ++ (if q.op = 0 then [] else 32 :: Lib.itoa q.s)))
/-- A query as a text. -/
def textQ (q : Qy) : List UInt8 := wordOf q.op ++ ((rtB q.r).data.toList ++ (numsT q ++ formT q.n))
def numsQ (q : Qy) : List Nat := if q.op = 0 then [q.f.toNat, q.t.toNat] else [q.f.toNat, q.t.toNat, q.s.toNat]
theorem itoa_nn {n : Int} (h : 0 ≤ n) : Lib.itoa n = Lib.decDigits n.toNat := by unfold Lib.itoa; rw [if_neg (by omega)]
theorem numsT_form {q : Qy} (h1 : 0 ≤ q.f) (h2 : 0 ≤ q.t) (h3 : q.op = 0 ∨ 0 ≤ q.s) : numsT q = formN (numsQ q) := by
  unfold numsT numsQ
  rw [itoa_nn h1, itoa_nn h2]
  by_cases h0 : q.op = 0
  · rw [if_pos h0, if_pos h0]; simp [formN]
  · rw [if_neg h0, if_neg h0, itoa_nn (h3.resolve_left h0)]; simp [formN]
theorem rightQ_facts {q : Qy} (h : rightQ q = true) : 0 ≤ q.op ∧ q.op ≤ 5 ∧ rightR q.r = true ∧ 0 ≤ q.f ∧ q.f ≤ q.t ∧ q.t ≤ 4611686018427387904 ∧ (q.op = 0 → q.s = 0) ∧ (q.op ≠ 0 → 1 ≤ q.s ∧ q.s ≤ 4611686018427387904 ∧ (q.t = q.f ∨ (q.t - q.f - 1) / q.s < 1024)) := by
  unfold rightQ at h
  simp only [Bool.and_eq_true, decide_eq_true_eq] at h
  obtain ⟨h1, h2, h3, h4, h5, h6, h7⟩ := h
  refine ⟨h1, h2, h3, h4, h5, h6, fun h0 => ?_, fun h0 => ?_⟩
  · rw [if_pos h0] at h7; exact of_decide_eq_true h7
  · rw [if_neg h0] at h7
    simp only [Bool.and_eq_true, decide_eq_true_eq, Bool.or_eq_true] at h7
    exact h7
theorem rtB_head (l : List Rul) : (rtB l).data.toList = 123 :: (rj l ++ [125]) := by simp [rtB]
theorem rtB_size (l : List Rul) : (rtB l).data.toList.length = (rtB l).size := by rw [Lib.size_eq]
/-- A right query is read back from its text. -/
theorem parQ_back {q : Qy} (h : rightQ q = true) (hl : (textQ q).length ≤ 4096) : parQ (textQ q) = ⟨0, q⟩ := by
  obtain ⟨h1, h2, h3, h4, h5, h6, h7, h8⟩ := rightQ_facts h
  obtain ⟨k, hk⟩ : ∃ k : Nat, q.op = k := ⟨q.op.toNat, by omega⟩
  have hk5 : k ≤ 5 := by omega
  have hs : q.op = 0 ∨ 0 ≤ q.s := by
    by_cases h0 : q.op = 0
    · exact .inl h0
    · exact .inr (by have := (h8 h0).1; omega)
  have hw : wordOf q.op = wordB k := by unfold wordOf; rw [if_pos ⟨h1, h2⟩, hk]; rfl
  have hT : textQ q = wordB k ++ ((rtB q.r).data.toList ++ (formN (numsQ q) ++ formT q.n)) := by unfold textQ; rw [hw, numsT_form h4 (by omega) hs]
  have hh : headT (textQ q) = wordB k := by rw [hT, rtB_head]; exact word_take hk5 _
  have hd : (textQ q).drop (wordB k).length = (rtB q.r).data.toList ++ (formN (numsQ q) ++ formT q.n) := by rw [hT, List.drop_left]
  have hz : 0 < (rtB q.r).size := by rw [← rtB_size, rtB_head]; simp
  have hd2 : (textQ q).drop ((wordB k).length + (rtB q.r).size) = formN (numsQ q) ++ formT q.n := by rw [← List.drop_drop, hd, ← rtB_size, List.drop_left]
  have hn : ∀ n ∈ numsQ q, n ≤ 9223372036854775807 := by
    intro n hn
    unfold numsQ at hn
    by_cases h0 : q.op = 0
    · rw [if_pos h0] at hn
      simp only [List.mem_cons, List.not_mem_nil, or_false] at hn
      omega
    · rw [if_neg h0] at hn
      have := h8 h0
      simp only [List.mem_cons, List.not_mem_nil, or_false] at hn
      omega
  have hlen : (numsQ q).length = if k = 0 then 2 else 3 := by
    unfold numsQ
    by_cases h0 : k = 0
    · rw [if_pos (by omega), if_pos h0]; rfl
    · rw [if_neg (by omega), if_neg h0]; rfl
  have hmk : mkQ k q.r (numsQ q) q.n = q := by
    obtain ⟨op, r, f, t, s, n⟩ := q
    simp only at hk h4 h5 h7 h8 hs
    unfold mkQ numsQ
    by_cases h0 : op = 0
    · have := h7 h0
      simp only [if_pos h0]
      simp
      omega
    · have := h8 h0
      simp only [if_neg h0]
      simp
      omega
  unfold parQ
  rw [if_neg (by omega), hh, if_neg (by
    intro e
    have := congrArg List.length hT
    rw [← e, List.length_append, List.length_append, rtB_size] at this
    omega), opW_word hk5, hd, psq_back h3]
  dsimp only
  rw [if_neg (by omega), hd2, ← hlen, askD_form _ _ hn]
  dsimp only
  rw [hmk, if_pos h]
/-- A text that is read is its query's text. -/
theorem parQ_inv {T : List UInt8} (h : (parQ T).e = 0) : rightQ (parQ T).q = true ∧ textQ (parQ T).q = T := by
  unfold parQ at h ⊢
  by_cases h1 : 4096 < T.length
  · rw [if_pos h1] at h; exact absurd h (by decide)
  rw [if_neg h1] at h ⊢
  by_cases h2 : (headT T).length = T.length
  · rw [if_pos h2] at h; exact absurd h (by decide)
  rw [if_neg h2] at h ⊢
  cases ho : opW (headT T) with
  | none => rw [ho] at h; exact absurd (show (90 : Int) = 0 from h) (by decide)
  | some op =>
    rw [ho] at h
    dsimp only at h ⊢
    by_cases h3 : (psq (T.drop (headT T).length)).2 = 0
    · rw [if_pos h3] at h; exact absurd h (by decide)
    rw [if_neg h3] at h ⊢
    cases ha : askD (if op = 0 then 2 else 3) (T.drop ((headT T).length + (psq (T.drop (headT T).length)).2)) with
    | none => rw [ha] at h; exact absurd (show (90 : Int) = 0 from h) (by decide)
    | some p =>
      rw [ha] at h
      dsimp only at h ⊢
      obtain ⟨ns, b⟩ := p
      by_cases h4 : rightQ (mkQ op (psq (T.drop (headT T).length)).1 ns b) = true
      · rw [if_pos h4]
        dsimp only
        refine ⟨h4, ?_⟩
        obtain ⟨hw, h5⟩ := opW_inv ho
        obtain ⟨rest, hr, hn, hR⟩ := psq_inv (T := T.drop (headT T).length) (l := (psq (T.drop (headT T).length)).1) (n := (psq (T.drop (headT T).length)).2) rfl h3
        obtain ⟨hf, hl, hm⟩ := askD_inv ha
        have hrest : T.drop ((headT T).length + (psq (T.drop (headT T).length)).2) = rest := by
          rw [← List.drop_drop]
          generalize psq (T.drop (headT T).length) = p at *
          rw [hr, hn, ← rtB_size, List.drop_left]
        rw [hrest] at hf
        have hq := numsT_form (q := mkQ op (psq (T.drop (headT T).length)).1 ns b) (by show (0 : Int) ≤ (_ : Nat); omega) (by show (0 : Int) ≤ (_ : Nat); omega) (.inr (by show (0 : Int) ≤ (_ : Nat); omega))
        have hN : numsQ (mkQ op (psq (T.drop (headT T).length)).1 ns b) = ns := by
          unfold numsQ mkQ
          by_cases h0 : op = 0
          · rw [if_pos h0] at hl
            match ns, hl with
            | [x, y], _ => simp [h0]
          · rw [if_neg h0] at hl
            match ns, hl with
            | [x, y, z], _ => simp [h0]
        rw [hN] at hq
        unfold textQ
        rw [hq]
        have hwo : wordOf (mkQ op (psq (T.drop (headT T).length)).1 ns b).op = headT T := by
          unfold wordOf
          show (if (0 : Int) ≤ (op : Nat) ∧ ((op : Nat) : Int) ≤ 5 then wordB ((op : Nat) : Int).toNat else [63]) = _
          rw [if_pos (by omega), hw]
          rfl
        rw [hwo]
        show headT T ++ ((rtB (psq (T.drop (headT T).length)).1).data.toList ++ (formN ns ++ formT b)) = T
        rw [← hf, ← hr]
        have : T.take (headT T).length = headT T := by
          have e : headT T ++ T.dropWhile noB = T := List.takeWhile_append_dropWhile
          generalize headT T = H at *
          rw [← e, List.take_left]
        conv => lhs; rw [← this]
        rw [List.length_take, Nat.min_eq_left (by
          have := (List.takeWhile_sublist noB (l := T)).length_le
          exact this), List.take_append_drop]
      · rw [if_neg h4] at h; exact absurd h (by decide)
end Go.Proofs.YtamnononemallaaDoor

/-! Whether a query may be, asked of windows without samples. -/
namespace Go.Proofs.YtamnononemallaaDoor
open Go.RowKit
theorem refP_nil (op fr step : Int) (sel : Nat → List (Int × Int)) (hs : ∀ k, sel k = []) : ∀ (r k : Nat) (out : List (Int × Int)), refP op fr step sel r k out = (out, 0)
  | 0, _, _ => rfl
  | r + 1, k, out => by rw [refP, if_pos (hs k)]; exact refP_nil op fr step sel hs r (k + 1) out
theorem rwins_nil (op fr tq step : Int) : (rwinsA op [] fr tq step).1 = [] ∧ ((rwinsA op [] fr tq step).2 = 0 ↔ ¬ badW op 0 fr tq step ∧ ¬ manyW fr tq step) := by
  unfold rwinsA
  by_cases hb : badW op ([] : List (Int × Int)).length fr tq step
  · rw [if_pos hb]
    exact ⟨rfl, by simp only [List.length_nil] at hb; simp [hb]⟩
  · rw [if_neg hb]
    by_cases hm : manyW fr tq step
    · rw [if_pos hm]; exact ⟨rfl, by simp [hm]⟩
    · rw [if_neg hm, refP_nil op fr step (selW [] fr tq step) (fun k => rfl)]
      simp only [List.length_nil] at hb
      exact ⟨rfl, by simp [hb, hm]⟩
/-- Windows of a query that may be. -/
theorem win_right {f t s : Int} (h1 : 0 ≤ f) (h2 : f ≤ t) (h3 : t ≤ 4611686018427387904) (h4 : 1 ≤ s) : (rwinsA 2 [] f t s).2 = 0 ↔ (t = f ∨ (t - f - 1) / s < 1024) := by
  rw [(rwins_nil 2 f t s).2]
  unfold badW manyW
  constructor
  · rintro ⟨_, h⟩
    by_cases e : t = f
    · exact .inl e
    · exact .inr (by omega)
  · intro h
    refine ⟨by omega, fun h' => ?_⟩
    rcases h with h | h <;> omega
end Go.Proofs.YtamnononemallaaDoor

/-! A query's text as its parts joined; where the rules begin. -/
namespace Go.Proofs.YtamnononemallaaDoor
open Go.RowKit
def partsT (q : Qy) : List (List UInt8) := [wordOf q.op ++ (rtB q.r).data.toList, Lib.itoa q.f, Lib.itoa q.t] ++ (if q.op = 0 then [] else [Lib.itoa q.s]) ++ (if q.n = true then [notesB] else [])
theorem join_text (q : Qy) : Lib.join (partsT q) [32] = textQ q := by
  unfold partsT textQ numsT formT
  by_cases h0 : q.op = 0
  · rw [if_pos h0, if_pos h0]
    cases q.n <;> simp [Lib.join, List.intercalate, List.intersperse]
  · rw [if_neg h0, if_neg h0]
    cases q.n <;> simp [Lib.join, List.intercalate, List.intersperse]
theorem indexByte_head : ∀ l : List UInt8, Lib.indexByte l 123 = if (headT l).length = l.length then -1 else ((headT l).length : Int)
  | [] => rfl
  | x :: l => by
    have ih := indexByte_head l
    unfold headT at ih ⊢
    rw [Lib.indexByte, List.takeWhile_cons]
    by_cases hx : x = 123
    · subst hx
      simp [noB]
    · have hb : (x == 123) = false := by simpa using hx
      have hn : noB x = true := by simpa [noB] using hx
      rw [hb, hn]
      simp only [Bool.false_eq_true, if_false, if_true, List.length_cons, ih]
      by_cases hl : (List.takeWhile noB l).length = l.length
      · rw [if_pos hl, if_pos (show (List.takeWhile noB l).length + 1 = l.length + 1 by omega)]
        rfl
      · rw [if_neg hl, if_neg (show ¬ (List.takeWhile noB l).length + 1 = l.length + 1 by omega)]
        have h1 : (((List.takeWhile noB l).length : Int) == -1) = false := by rw [beq_eq_false_iff_ne]; omega
        rw [h1]
        simp
theorem headT_take (l : List UInt8) : l.take (headT l).length = headT l := by
  have e : headT l ++ l.dropWhile noB = l := List.takeWhile_append_dropWhile
  conv => lhs; arg 2; rw [← e]
  exact List.take_left
theorem headT_le (l : List UInt8) : (headT l).length ≤ l.length := (List.takeWhile_sublist noB (l := l)).length_le
theorem psq_le (T : List UInt8) : (psq T).2 ≤ T.length := by
  by_cases h : (psq T).2 = 0
  · omega
  · obtain ⟨rest, hr, hn, _⟩ := psq_inv (T := T) (l := (psq T).1) (n := (psq T).2) rfl h
    have := congrArg List.length hr
    rw [List.length_append, rtB_size, ← hn] at this
    omega
theorem opW_none {w : List UInt8} (h : ∀ k, k ≤ 5 → w ≠ wordB k) : opW w = none := by
  cases ho : opW w with
  | none => rfl
  | some k => obtain ⟨h1, h2⟩ := opW_inv ho; exact absurd h1 (h k h2)
end Go.Proofs.YtamnononemallaaDoor
