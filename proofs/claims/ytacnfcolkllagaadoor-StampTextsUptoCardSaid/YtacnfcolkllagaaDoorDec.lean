import Derived.Lib.ItoaNum
import Derived.Lib.ParseIntB
import Derived.Lib.Split
import Derived.Lib.SplitLaws
import Derived.Lib.CountLaws
import Derived.Lib.ItoaMem
/-! Numerals, and texts in parts, in plain words. -/
namespace Go.Proofs.YtacnfcolkllagaaDoor
open Go
set_option linter.unusedVariables false
set_option linter.unusedSimpArgs false
/-- The number that digits spell, behind one that was read already. -/
def valL : List UInt8 → Nat → Nat
  | [], n => n
  | x :: l, n => valL l (n * 10 + (x.toNat - 48))
def isD (x : UInt8) : Bool := decide (48 ≤ x.toNat) && decide (x.toNat ≤ 57)
theorem isD_le {x : UInt8} (h : isD x = true) : 48 ≤ x.toNat ∧ x.toNat ≤ 57 := by simpa [isD] using h
theorem valL_snoc : ∀ (l : List UInt8) (x : UInt8) (n : Nat), valL (l ++ [x]) n = valL l n * 10 + (x.toNat - 48)
  | [], _, _ => rfl
  | y :: l, x, n => by simp only [List.cons_append, valL]; exact valL_snoc l x _
theorem valL_lt : ∀ (l : List UInt8) (n : Nat), l.all isD = true → valL l n < (n + 1) * 10 ^ l.length
  | [], n, _ => by simp [valL]
  | x :: l, n, h => by
    simp only [List.all_cons, Bool.and_eq_true] at h
    have hx := isD_le h.1
    have := valL_lt l (n * 10 + (x.toNat - 48)) h.2
    simp only [valL, List.length_cons]
    refine Nat.lt_of_lt_of_le this ?_
    rw [Nat.pow_succ, Nat.mul_comm (10 ^ l.length) 10, ← Nat.mul_assoc]
    exact Nat.mul_le_mul_right _ (by omega)
theorem valL_ge : ∀ (l : List UInt8) (n : Nat), n * 10 ^ l.length ≤ valL l n
  | [], n => by simp [valL]
  | x :: l, n => by
    have := valL_ge l (n * 10 + (x.toNat - 48))
    simp only [valL, List.length_cons]
    refine Nat.le_trans ?_ this
    rw [Nat.pow_succ, Nat.mul_comm (10 ^ l.length) 10, ← Nat.mul_assoc]
    exact Nat.mul_le_mul_right _ (by omega)
theorem u8_of {x : UInt8} (h : isD x = true) : UInt8.ofNat (48 + (x.toNat - 48)) = x := by
  have := isD_le h
  apply UInt8.toNat_inj.1
  rw [UInt8.toNat_ofNat']
  have : x.toNat < 256 := x.toNat_lt
  omega
/-- A numeral with no 0 ahead is that of its number. -/
theorem dec_val (x : UInt8) : ∀ (n : Nat) (l : List UInt8), l.length = n → (x :: l).all isD = true → (x.toNat ≠ 48 ∨ l = []) → Lib.decDigits (valL (x :: l) 0) = x :: l
  | 0, l, hl, h, _ => by
    have : l = [] := List.eq_nil_of_length_eq_zero hl
    subst this
    simp only [List.all_cons, List.all_nil, Bool.and_true] at h
    have hx := isD_le h
    simp only [valL, Nat.zero_mul, Nat.zero_add]
    rw [Lib.decDigits, dif_pos (by omega), u8_of h]
  | n + 1, l, hl, h, h0 => by
    have hne : l ≠ [] := fun e => by rw [e] at hl; simp at hl
    obtain ⟨m, y, rfl⟩ : ∃ m y, l = m ++ [y] := ⟨l.dropLast, l.getLast hne, (List.dropLast_concat_getLast hne).symm⟩
    have hx48 : x.toNat ≠ 48 := h0.resolve_right hne
    have hml : m.length = n := by simpa using hl
    rw [← List.cons_append] at h ⊢
    rw [List.all_append, Bool.and_eq_true] at h
    have hy : isD y = true := by simpa using h.2
    have hyd := isD_le hy
    have ih := dec_val x n m hml h.1 (.inl hx48)
    have hxd : isD x = true := by have := h.1; simp only [List.all_cons, Bool.and_eq_true] at this; exact this.1
    have hpos : 1 ≤ valL (x :: m) 0 := by
      have := isD_le hxd
      have hg := valL_ge m (0 * 10 + (x.toNat - 48))
      simp only [valL]
      refine Nat.le_trans ?_ hg
      exact Nat.mul_pos (by omega) (Nat.pow_pos (by omega))
    rw [valL_snoc, Lib.decDigits, dif_neg (by omega), show (valL (x :: m) 0 * 10 + (y.toNat - 48)) / 10 = valL (x :: m) 0 from by omega, ih, show (valL (x :: m) 0 * 10 + (y.toNat - 48)) % 10 = y.toNat - 48 from by omega, u8_of hy]
theorem ofNat_isD {k : Nat} (h : k < 10) : isD (UInt8.ofNat (48 + k)) = true := by
  have : (UInt8.ofNat (48 + k)).toNat = 48 + k := by rw [UInt8.toNat_ofNat']; omega
  simp [isD, this]
  omega
theorem ofNat_val {k : Nat} (h : k < 10) : (UInt8.ofNat (48 + k)).toNat = 48 + k := by rw [UInt8.toNat_ofNat']; omega
/-- A number's numeral: digits, that spell it, with no 0 ahead. -/
theorem dec_is (u : Nat) : (Lib.decDigits u).all isD = true ∧ valL (Lib.decDigits u) 0 = u ∧ Lib.decDigits u ≠ [] ∧ ((Lib.decDigits u).head? = some 48 → u = 0) := by
  induction u using Nat.strongRecOn with
  | _ u ih =>
    rw [Lib.decDigits]
    by_cases h : u < 10
    · rw [dif_pos h]
      have hd := ofNat_isD h
      have hv := ofNat_val h
      generalize UInt8.ofNat (48 + u) = y at *
      refine ⟨by simp [hd], by simp only [valL]; omega, by simp, fun e => ?_⟩
      simp only [List.head?_cons, Option.some.injEq] at e
      rw [e] at hv
      have : (48 : UInt8).toNat = 48 := rfl
      omega
    · rw [dif_neg h]
      obtain ⟨h1, h2, h3, h4⟩ := ih (u / 10) (by omega)
      have hm : u % 10 < 10 := Nat.mod_lt _ (by omega)
      have hd' := ofNat_isD hm
      have hv' := ofNat_val hm
      generalize UInt8.ofNat (48 + u % 10) = y at *
      refine ⟨by rw [List.all_append, h1]; simp [hd'], by rw [valL_snoc, h2, hv']; omega, by simp, fun e => ?_⟩
      cases hd : Lib.decDigits (u / 10) with
      | nil => exact absurd hd h3
      | cons y m =>
        rw [hd] at e h4
        have := h4 (by simpa using e)
        omega
/-- What the document's Number says. -/
def numR (l : List UInt8) (most : Nat) : Option Nat :=
  if l.length < 1 ∨ 19 < l.length ∨ (l.head? = some 48 ∧ 1 < l.length) then none else if l.all isD = true then (if valL l 0 ≤ most then some (valL l 0) else none) else none
theorem parse_val : ∀ (l : List UInt8) (n : Nat), l.all isD = true → valL l n ≤ 18446744073709551615 → Lib.parseUintM 18446744073709551615 n l = .ok (valL l n)
  | [], n, _, _ => rfl
  | x :: l, n, h, hv => by
    simp only [List.all_cons, Bool.and_eq_true] at h
    have hx := isD_le h.1
    simp only [valL] at hv
    have hge := valL_ge l (n * 10 + (x.toNat - 48))
    have hp : n * 10 + (x.toNat - 48) ≤ 18446744073709551615 := by
      refine Nat.le_trans ?_ (Nat.le_trans hge hv)
      exact Nat.le_mul_of_pos_right _ (Nat.pow_pos (by omega))
    rw [Lib.parseUintM, if_pos hx, if_neg (by omega), if_neg (by omega), parse_val l _ h.2 hv]
    rfl
theorem parse_ok : ∀ (l : List UInt8) (n u : Nat), Lib.parseUintM 18446744073709551615 n l = .ok u → l.all isD = true ∧ u = valL l n
  | [], n, u, h => by
    simp only [Lib.parseUintM] at h
    injection h with h
    exact ⟨rfl, h.symm⟩
  | x :: l, n, u, h => by
    rw [Lib.parseUintM] at h
    split at h
    · rename_i hx
      split at h
      · cases h
      · split at h
        · cases h
        · obtain ⟨h1, h2⟩ := parse_ok l _ u h
          refine ⟨by simp [h1, isD, hx], h2⟩
    · cases h
/-- The program's answer on a part: the number, and whether it is one. -/
def partP (l : List UInt8) : Nat × Bool := match Lib.parseUintB 64 l with
  | .ok u => (u, decide (Lib.decDigits u = l))
  | .range => (18446744073709551615, false)
  | _ => (0, false)
theorem partP_eq (l : List UInt8) (most : Nat) (hm : most ≤ 4611686018427387904) : numR l most = if (partP l).2 = true ∧ (partP l).1 ≤ most then some (partP l).1 else none := by
  unfold partP Lib.parseUintB
  by_cases h0 : l = []
  · subst h0; rfl
  rw [if_neg h0]
  have e64 : 2 ^ 64 - 1 = 18446744073709551615 := by decide
  rw [e64]
  have hl1 : ¬ l.length < 1 := by
    intro h
    exact h0 (List.eq_nil_of_length_eq_zero (by omega))
  obtain ⟨x, m, rfl⟩ : ∃ x m, l = x :: m := by
    cases l with
    | nil => exact absurd rfl h0
    | cons x m => exact ⟨x, m, rfl⟩
  by_cases hall : (x :: m).all isD = true
  case neg =>
    have hn : numR (x :: m) most = none := by
      unfold numR
      rw [if_neg hall]
      split <;> rfl
    rw [hn]
    cases hp : Lib.parseUintM 18446744073709551615 0 (x :: m) with
    | ok u => exact absurd (parse_ok _ _ _ hp).1 hall
    | range => rfl
    | _ => rfl
  · have hlt := valL_lt (x :: m) 0 hall
    rw [Nat.zero_add, Nat.one_mul] at hlt
    by_cases hlead : x.toNat = 48 ∧ 1 < (x :: m).length
    · have hn : numR (x :: m) most = none := by
        unfold numR
        rw [if_pos (.inr (.inr ⟨by simp only [List.head?_cons]; congr 1; exact UInt8.toNat_inj.1 hlead.1, hlead.2⟩))]
      rw [hn]
      cases hp : Lib.parseUintM 18446744073709551615 0 (x :: m) with
      | ok u =>
        have hne : ¬ Lib.decDigits u = x :: m := fun e => by
          have h4 := (dec_is u).2.2.2
          rw [e] at h4
          have hu := h4 (by simp only [List.head?_cons]; congr 1; exact UInt8.toNat_inj.1 hlead.1)
          subst hu
          rw [Lib.decDigits, dif_pos (by omega)] at e
          have := congrArg List.length e
          have h2 := hlead.2
          rw [← this] at h2
          simp at h2
        dsimp only
        rw [if_neg (by rw [decide_eq_false hne]; simp)]
      | range => rfl
      | _ => rfl
    · have hcan : Lib.decDigits (valL (x :: m) 0) = x :: m := dec_val x _ m rfl hall (by
        by_cases hx : x.toNat = 48
        · right
          have : ¬ 1 < (x :: m).length := fun h => hlead ⟨hx, h⟩
          exact List.eq_nil_of_length_eq_zero (by rw [List.length_cons] at this; omega)
        · exact .inl hx)
      by_cases h19 : (x :: m).length ≤ 19
      · have hv : valL (x :: m) 0 ≤ 18446744073709551615 := by
          have : (10 : Nat) ^ (x :: m).length ≤ 10 ^ 19 := Nat.pow_le_pow_right (by omega) h19
          have e19 : (10 : Nat) ^ 19 = 10000000000000000000 := by decide
          rw [e19] at this
          exact Nat.le_trans (Nat.le_of_lt (Nat.lt_of_lt_of_le hlt this)) (by decide)
        rw [parse_val _ _ hall hv]
        have hn : numR (x :: m) most = if valL (x :: m) 0 ≤ most then some (valL (x :: m) 0) else none := by
          unfold numR
          rw [if_neg (by
            rintro (h | h | h)
            · exact hl1 h
            · omega
            · refine hlead ⟨?_, h.2⟩
              have := h.1
              simp only [List.head?_cons, Option.some.injEq] at this
              rw [this]; rfl), if_pos hall]
        rw [hn]
        dsimp only
        by_cases hle : valL (x :: m) 0 ≤ most
        · rw [if_pos hle, if_pos ⟨decide_eq_true hcan, hle⟩]
        · rw [if_neg hle, if_neg (fun h => hle h.2)]
      · have hn : numR (x :: m) most = none := by
          unfold numR
          rw [if_pos (.inr (.inl (by omega)))]
        rw [hn]
        cases hp : Lib.parseUintM 18446744073709551615 0 (x :: m) with
        | ok u =>
          obtain ⟨_, hu⟩ := parse_ok _ _ _ hp
          have hbig : most < u := by
            rw [hu]
            have hx1 : 1 ≤ x.toNat - 48 := by
              have hxd := isD_le (by simp only [List.all_cons, Bool.and_eq_true] at hall; exact hall.1)
              have : x.toNat ≠ 48 := fun e => hlead ⟨e, by omega⟩
              omega
            have hg := valL_ge m (0 * 10 + (x.toNat - 48))
            have hp18 : 10 ^ 19 ≤ 10 ^ m.length := Nat.pow_le_pow_right (by omega) (by simp at h19; omega)
            have e19 : (10 : Nat) ^ 19 = 10000000000000000000 := by decide
            have h1 : 10 ^ m.length ≤ (0 * 10 + (x.toNat - 48)) * 10 ^ m.length := Nat.le_mul_of_pos_left _ (by omega)
            simp only [valL]
            omega
          dsimp only
          rw [if_neg (fun h => by omega)]
        | range => rfl
        | _ => rfl
/-- The parts between dots. -/
def dotL : List UInt8 → List (List UInt8)
  | [] => [[]]
  | x :: l => if x = 46 then [] :: dotL l else match dotL l with
    | [] => [[x]]
    | p :: r => (x :: p) :: r
theorem index_dot (l : List UInt8) : Lib.index (46 :: l) [46] = 0 := by
  unfold Lib.index
  simp [List.isPrefixOf]
theorem index_other {x : UInt8} {l : List UInt8} (h : x ≠ 46) : Lib.index (x :: l) [46] = if Lib.index l [46] == -1 then -1 else Lib.index l [46] + 1 := by
  conv => lhs; unfold Lib.index
  rw [if_neg (by simp [List.isPrefixOf]; exact fun e => h e.symm)]
theorem splitK_dot : ∀ l : List UInt8, Lib.splitK [46] 0 (Lib.count l [46]) l = dotL l
  | [] => rfl
  | x :: l => by
    have ih := splitK_dot l
    by_cases hx : x = 46
    · subst hx
      rw [Lib.count_cons_eq, Nat.add_comm, Lib.splitK, index_dot]
      simp only [dotL]
      rw [if_neg (by decide), if_pos trivial, ← ih]
      simp
    · rw [Lib.count_cons_ne _ _ _ hx, dotL, if_neg hx, ← ih]
      cases hk : Lib.count l [46] with
      | zero => rfl
      | succ k =>
        rw [Lib.splitK, Lib.splitK, index_other hx]
        rcases Lib.index_spec l [46] with ⟨h1, _⟩ | ⟨i, h1, _⟩
        · rw [Lib.count_miss h1] at hk; cases hk
        · rw [h1]
          have e1 : ((i : Int) == -1) = false := by rw [beq_eq_false_iff_ne]; omega
          have e2 : ((i : Int) + 1 == -1) = false := by rw [beq_eq_false_iff_ne]; omega
          have e3 : ((i : Int) + 1).toNat = i + 1 := by omega
          simp only [e1, e2, e3, Bool.false_eq_true, if_false, Int.toNat_natCast]
          simp
theorem dotL_ne (l : List UInt8) : dotL l ≠ [] := by
  cases l with
  | nil => simp [dotL]
  | cons x l =>
    unfold dotL
    split
    · simp
    · split <;> simp
/-- One byte more: a dot opens a part, another byte goes to the last one. -/
theorem dotL_dot : ∀ l : List UInt8, dotL (l ++ [46]) = dotL l ++ [[]]
  | [] => rfl
  | x :: l => by
    have ih := dotL_dot l
    simp only [List.cons_append, dotL, ih]
    by_cases hx : x = 46
    · rw [if_pos hx, if_pos hx]; rfl
    · rw [if_neg hx, if_neg hx]
      cases hd : dotL l with
      | nil => exact absurd hd (dotL_ne l)
      | cons p r => rfl
theorem dotL_byte {y : UInt8} (hy : y ≠ 46) : ∀ l : List UInt8, dotL (l ++ [y]) = (dotL l).dropLast ++ [(dotL l).getLast (dotL_ne l) ++ [y]]
  | [] => by simp [dotL, hy]
  | x :: l => by
    have ih := dotL_byte hy l
    cases hd : dotL l with
    | nil => exact absurd hd (dotL_ne l)
    | cons p r =>
      simp only [hd] at ih
      by_cases hx : x = 46
      · simp only [List.cons_append, dotL, ih, if_pos hx, hd]
        simp
      · simp only [List.cons_append, dotL, ih, if_neg hx, hd]
        cases r with
        | nil => simp
        | cons q r => simp
end Go.Proofs.YtacnfcolkllagaaDoor
