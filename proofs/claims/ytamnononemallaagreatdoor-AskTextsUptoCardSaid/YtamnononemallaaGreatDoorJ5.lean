import Derived.Test.YtamnononemallaaGreatDoorJ3
import Derived.Test.YtamnononemallaaGreatDoorGS
import Derived.Test.YtamnononemallaaGreatDoorPq3
/-! The query that a text is: the document's Parse, in plain words. -/
namespace Go.Proofs.YtamnononemallaaGreatDoor
open Go.RowKit
set_option linter.unusedVariables false
set_option linter.unusedSimpArgs false
theorem headT_cons {x : UInt8} {l : List UInt8} (h : x ≠ 123) : (headT (x :: l)).length = (headT l).length + 1 := by
  unfold headT
  rw [List.takeWhile_cons, if_pos (by simpa [noB] using h)]
  rfl
theorem headT_open (l : List UInt8) : (headT (123 :: l)).length = 0 := by unfold headT; simp [noB]
def opN (j : Nat) (w : List UInt8) : Int := match opD j w with
  | some k => k
  | none => -1
theorem opN_hit {j : Nat} {w : List UInt8} (h : w = wordB j) : opN (j + 1) w = j := by unfold opN; rw [opD, if_pos h]
theorem opN_miss {j : Nat} {w : List UInt8} (h : w ≠ wordB j) : opN (j + 1) w = opN j w := by unfold opN; rw [opD, if_neg h]
theorem wordOf_nat {j : Nat} (h : j ≤ 5) : wordOf (j : Int) = wordB j := by unfold wordOf; rw [if_pos (by omega), Int.toNat_natCast]
theorem numF_cases (T : List UInt8) (a : Int) : ((numF T a).at_ = -1 ∧ (numF T a).n = 0 ∧ (0 ≤ a → num1 (T.drop a.toNat) = none)) ∨
    ∃ (n : Nat) (r : List UInt8), 0 ≤ a ∧ num1 (T.drop a.toNat) = some (n, r) ∧ n ≤ 9223372036854775807 ∧ (numF T a).n = n ∧ 0 ≤ (numF T a).at_ ∧ (numF T a).at_ ≤ T.length ∧ T.drop (numF T a).at_.toNat = r := by
  by_cases h : a < 0
  · rw [numF_neg h]
    exact .inl ⟨rfl, rfl, fun h' => by omega⟩
  · unfold numF
    rw [if_neg h]
    cases hn : num1 (T.drop a.toNat) with
    | none => exact .inl ⟨rfl, rfl, fun _ => rfl⟩
    | some p =>
      obtain ⟨n, r⟩ := p
      obtain ⟨e, hle⟩ := num1_inv hn
      have hl := congrArg List.length e
      simp only [List.length_cons, List.length_append, List.length_drop] at hl
      refine .inr ⟨n, r, by omega, rfl, hle, rfl, by dsimp only; omega, by dsimp only; omega, ?_⟩
      dsimp only
      have e2 : ((T.length : Int) - r.length).toNat = a.toNat + (1 + (Lib.decDigits n).length) := by omega
      rw [e2, ← List.drop_drop, e, show (1 + (Lib.decDigits n).length) = (Lib.decDigits n).length + 1 by omega, List.drop_succ_cons, List.drop_left]
theorem numF_le (T : List UInt8) (a : Int) : 0 ≤ (numF T a).n ∧ (numF T a).n ≤ 9223372036854775807 ∧ -1 ≤ (numF T a).at_ ∧ (numF T a).at_ ≤ T.length := by
  rcases numF_cases T a with ⟨h1, h2, _⟩ | ⟨n, r, _, _, h1, h2, h3, h4, _⟩
  · rw [h1, h2]; omega
  · rw [h2]; omega
/-- Two numbers, and what stands behind them. -/
theorem ask2 (T : List UInt8) (a : Nat) : askD 2 (T.drop a) = if (numF T (numF T a).at_).at_ < 0 then none else (tailD (T.drop (numF T (numF T a).at_).at_.toNat)).map fun b => ([(numF T a).n.toNat, (numF T (numF T a).at_).n.toNat], b) := by
  unfold askD
  simp only [numsD]
  rcases numF_cases T a with ⟨h1, h2, h3⟩ | ⟨n, r, h0, h1, h2, h3, h4, h5, h6⟩
  · have h3 := h3 (by omega)
    rw [Int.toNat_natCast] at h3
    rw [h3, h1, numF_neg (by omega), if_pos (by decide)]
  · rw [Int.toNat_natCast] at h1
    rw [h1]
    dsimp only
    rw [h3]
    generalize (numF T a).at_ = a1 at *
    rcases numF_cases T a1 with ⟨g1, g2, g3⟩ | ⟨n2, r2, g0, g1, g2, g3, g4, g5, g6⟩
    · have g3 := g3 h4
      rw [h6] at g3
      rw [g3, g1, if_pos (by decide)]
    · rw [h6] at g1
      rw [g1]
      dsimp only
      rw [if_neg (by omega), g3, g6]
      cases tailD r2 <;> simp
theorem ask3 (T : List UInt8) (a : Nat) : askD 3 (T.drop a) = if (numF T (numF T (numF T a).at_).at_).at_ < 0 then none else (tailD (T.drop (numF T (numF T (numF T a).at_).at_).at_.toNat)).map fun b => ([(numF T a).n.toNat, (numF T (numF T a).at_).n.toNat, (numF T (numF T (numF T a).at_).at_).n.toNat], b) := by
  unfold askD
  simp only [numsD]
  rcases numF_cases T a with ⟨h1, h2, h3⟩ | ⟨n, r, h0, h1, h2, h3, h4, h5, h6⟩
  · have h3 := h3 (by omega)
    rw [Int.toNat_natCast] at h3
    have e1 : numF T (-1) = ⟨0, -1⟩ := numF_neg (by omega)
    rw [h3, h1, e1]
    dsimp only
    rw [e1, if_pos (by decide)]
  · rw [Int.toNat_natCast] at h1
    rw [h1]
    dsimp only
    rw [h3]
    generalize (numF T a).at_ = a1 at *
    rcases numF_cases T a1 with ⟨g1, g2, g3⟩ | ⟨n2, r2, g0, g1, g2, g3, g4, g5, g6⟩
    · have g3 := g3 h4
      rw [h6] at g3
      have e1 : numF T (-1) = ⟨0, -1⟩ := numF_neg (by omega)
      rw [g3, g1, e1, if_pos (by decide)]
    · rw [h6] at g1
      rw [g1]
      dsimp only
      rw [g3]
      generalize (numF T a1).at_ = a2 at *
      rcases numF_cases T a2 with ⟨k1, k2, k3⟩ | ⟨n3, r3, k0, k1, k2, k3, k4, k5, k6⟩
      · have k3 := k3 g4
        rw [g6] at k3
        rw [k3, k1, if_pos (by decide)]
      · rw [g6] at k1
        rw [k1]
        dsimp only
        rw [if_neg (by omega), k3, k6]
        cases tailD r3 <;> simp
theorem parQ_d {T : List UInt8} (h1 : T.length ≤ 4096) (h2 : (headT T).length ≠ T.length) {op : Nat} (h3 : opW (headT T) = some op) {rs : List Rul} {n : Nat} (h4 : psq (T.drop (headT T).length) = (rs, n)) (h5 : n ≠ 0) :
    parQ T = match askD (if op = 0 then 2 else 3) (T.drop ((headT T).length + n)) with | none => ⟨90, zeroQ⟩ | some p => if rightQ (mkQ op rs p.1 p.2) = true then ⟨0, mkQ op rs p.1 p.2⟩ else ⟨90, zeroQ⟩ := by
  rw [parQ_at h1 h2 h3 h4 h5, askP_eq _ (by split <;> omega)]
  rfl
/-- What the numbers at their places say. -/
structure Ends (T : List UInt8) (k : Nat) (a : Nat) (x y z e : Int) : Prop where
  two : k = 0 → x = (numF T a).n ∧ y = (numF T (numF T a).at_).n ∧ z = 0 ∧ e = (numF T (numF T a).at_).at_
  three : k ≠ 0 → x = (numF T a).n ∧ y = (numF T (numF T a).at_).n ∧ z = (numF T (numF T (numF T a).at_).at_).n ∧ e = (numF T (numF T (numF T a).at_).at_).at_
theorem Ends.le {T : List UInt8} {k a : Nat} {x y z e : Int} (h : Ends T k a x y z e) : (0 ≤ x ∧ x ≤ 9223372036854775807) ∧ (0 ≤ y ∧ y ≤ 9223372036854775807) ∧ (0 ≤ z ∧ z ≤ 9223372036854775807) ∧ -1 ≤ e ∧ e ≤ T.length := by
  by_cases hk : k = 0
  · obtain ⟨rfl, rfl, rfl, rfl⟩ := h.two hk
    have h1 := numF_le T a
    have h2 := numF_le T (numF T a).at_
    omega
  · obtain ⟨rfl, rfl, rfl, rfl⟩ := h.three hk
    have h1 := numF_le T a
    have h2 := numF_le T (numF T a).at_
    have h3 := numF_le T (numF T (numF T a).at_).at_
    omega
theorem ends_ask {T : List UInt8} {k a : Nat} {x y z e : Int} (h : Ends T k a x y z e) : askD (if k = 0 then 2 else 3) (T.drop a) = if e < 0 then none else (tailD (T.drop e.toNat)).map fun b => ((if k = 0 then [x.toNat, y.toNat] else [x.toNat, y.toNat, z.toNat]), b) := by
  by_cases hk : k = 0
  · obtain ⟨rfl, rfl, rfl, rfl⟩ := h.two hk
    rw [if_pos hk, ask2]
    simp only [if_pos hk]
  · obtain ⟨rfl, rfl, rfl, rfl⟩ := h.three hk
    rw [if_neg hk, ask3]
    simp only [if_neg hk]
theorem dq_neg {T : List UInt8} {k n0 n : Nat} {rs : List Rul} {x y z e : Int} (hQ : parQ T = match askD (if k = 0 then 2 else 3) (T.drop (n0 + n)) with | none => ⟨90, zeroQ⟩ | some p => if rightQ (mkQ k rs p.1 p.2) = true then ⟨0, mkQ k rs p.1 p.2⟩ else ⟨90, zeroQ⟩)
    (h : Ends T k (n0 + n) x y z e) (he : e < 0) : parQ T = ⟨90, zeroQ⟩ := by rw [hQ, ends_ask h, if_pos he]
theorem dq_more {T : List UInt8} {k n0 n : Nat} {rs : List Rul} {x y z e : Int} (hQ : parQ T = match askD (if k = 0 then 2 else 3) (T.drop (n0 + n)) with | none => ⟨90, zeroQ⟩ | some p => if rightQ (mkQ k rs p.1 p.2) = true then ⟨0, mkQ k rs p.1 p.2⟩ else ⟨90, zeroQ⟩)
    (h : Ends T k (n0 + n) x y z e) (he : 0 ≤ e) (h1 : T.drop e.toNat ≠ 32 :: notesB) (h2 : e < T.length) : parQ T = ⟨90, zeroQ⟩ := by
  rw [hQ, ends_ask h, if_neg (by omega)]
  have : tailD (T.drop e.toNat) = none := by
    unfold tailD
    rw [if_neg (fun e2 => by
      have := congrArg List.length e2
      rw [List.length_drop, List.length_nil] at this
      omega), if_neg h1]
  rw [this]
  rfl
theorem dq_end {T : List UInt8} {k n0 n : Nat} {rs : List Rul} {x y z e : Int} {b : Bool} (hQ : parQ T = match askD (if k = 0 then 2 else 3) (T.drop (n0 + n)) with | none => ⟨90, zeroQ⟩ | some p => if rightQ (mkQ k rs p.1 p.2) = true then ⟨0, mkQ k rs p.1 p.2⟩ else ⟨90, zeroQ⟩)
    (h : Ends T k (n0 + n) x y z e) (he : 0 ≤ e) (hb : (b = true ∧ T.drop e.toNat = 32 :: notesB) ∨ (b = false ∧ T.drop e.toNat = [])) : parQ T = if rightQ ⟨k, rs, x, y, z, b⟩ = true then ⟨0, ⟨k, rs, x, y, z, b⟩⟩ else ⟨90, zeroQ⟩ := by
  have ht : tailD (T.drop e.toNat) = some b := by
    unfold tailD
    rcases hb with ⟨rfl, h1⟩ | ⟨rfl, h1⟩
    · rw [h1, if_neg (by simp), if_pos rfl]
    · rw [h1, if_pos rfl]
  have hl := h.le
  have hm : mkQ k rs (if k = 0 then [x.toNat, y.toNat] else [x.toNat, y.toNat, z.toNat]) b = ⟨k, rs, x, y, z, b⟩ := by
    unfold mkQ
    by_cases hk : k = 0
    · have hz := (h.two hk).2.2.1
      simp only [if_pos hk]
      simp
      omega
    · simp only [if_neg hk]
      simp
      omega
  rw [hQ, ends_ask h, if_neg (by omega), ht]
  simp only [Option.map_some]
  rw [hm]
theorem ext_all (s : ByteArray) : s.extract 0 s.size = s := by
  rw [← Lib.mk_data (s.extract 0 s.size), Lib.extract_from_zero, List.take_of_length_le (by rw [← Lib.size_eq]; exact Nat.le_refl _), Lib.mk_data]
end Go.Proofs.YtamnononemallaaGreatDoor
