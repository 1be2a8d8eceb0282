import Derived.Test.YtmfbidhnafpkdaaDoorGt
import Derived.Test.YtmfbidhnafpkdaaDoorShelf
import Derived.WalkSpells
import Derived.WalkLawsBesides
import Derived.WalkMore
/-! The signs of rules: the variable that holds them, the sign that a text begins with. -/
namespace Go.Proofs.YtmfbidhnafpkdaaDoor
open Go.RowKit
set_option linter.unusedVariables false
set_option linter.unusedSimpArgs false
def sgB : Nat → List UInt8
  | 1 => [61]
  | 2 => [33, 61]
  | 3 => [94, 61]
  | 4 => [42, 61]
  | _ => []
def sgT (k : Nat) : ByteArray := ⟨(sgB k).toArray⟩
theorem sgT_list (k : Nat) : (sgT k).data.toList = sgB k := by simp [sgT]
/-- The signs lie where they were laid; and the search's own variable is there. -/
structure Sg (w : World) : Prop where
  big : 1 < w.heap.size
  at_ : ∀ k, k ≤ 4 → w.cell? ⟨0, k, none⟩ = some (.string (sgT k))
  mx : ∃ m, w.cell? ⟨1, 0, none⟩ = some (.int .i64 m)
theorem Sg.below {w w' : World} (h : Sg w) (hb : Below w.heap.size w w') : Sg w' :=
  ⟨Nat.lt_of_lt_of_le h.big hb.size, fun k hk => (hb.cell (by have := h.big; show 0 < _; omega)).trans (h.at_ k hk), by
    obtain ⟨m, hm⟩ := h.mx
    exact ⟨m, (hb.cell h.big).trans hm⟩⟩
def sgnD : Nat → List UInt8 → Nat
  | 0, _ => 0
  | k + 1, l => if (sgB (k + 1)).isPrefixOf l = true then k + 1 else sgnD k l
/-- The Op whose sign a text begins with. -/
def sgn (l : List UInt8) : Nat := sgnD 4 l
theorem sgnD_le (l : List UInt8) : ∀ k, sgnD k l ≤ k
  | 0 => Nat.le_refl _
  | k + 1 => by
    unfold sgnD
    split
    · exact Nat.le_refl _
    · exact Nat.le_succ_of_le (sgnD_le l k)
theorem sgn_le (l : List UInt8) : sgn l ≤ 4 := sgnD_le l 4
set_option maxRecDepth 100000 in
set_option maxHeartbeats 4000000 in
theorem psign_any (t : ByteArray) (w : World) (hg : Sg w) :
    Calls Tryd.prog 29 #[.string t] w fun e w' => e = .returned (.int .i64 (sgn t.data.toList)) ∧ w' = w := by
  unfold sgn
  generalize hR : sgnD 4 t.data.toList = R
  have hP := fun k w => Tryd.strings_HasPrefix t (sgT k) w
  simp only [sgT_list, Lib.hasPrefix] at hP
  obtain ⟨_, hat, _⟩ := hg
  go_enter Tryd.func29, Tryd.ntmps29
  go_wp2
  go_loopw [3] (fun s3 wr => ∃ k : Nat, k ≤ 4 ∧ s3 = .int .i64 (k : Int) ∧ sgnD k t.data.toList = R ∧ wr = w) (fun s3 _ => (intOf s3).toNat)
  case atStart => exact ⟨4, by omega, rfl, hR, rfl⟩
  case round =>
    clear hR
    obtain ⟨k, hk, rfl, hR, rfl⟩ := hrel
    cases k with
    | zero =>
      obtain rfl : 0 = R := hR
      go_wp2
      go_ret
      exact ⟨rfl, rfl⟩
    | succ k =>
      have hc := hat (k + 1) hk
      have i1 : (1 : Int) ≤ ((k + 1 : Nat) : Int) := by omega
      have i2 : (k : Int) + 1 < 5 := by omega
      have i3 : (1 : Int) ≤ (k : Int) + 1 := by omega
      have i4 : (0 : Int) ≤ (k : Int) + 1 := by omega
      have hQ := fun w => hP (k + 1) w
      unfold sgnD at hR
      cases hp : (sgB (k + 1)).isPrefixOf t.data.toList with
      | true =>
        rw [if_pos hp] at hR
        subst hR
        simp only [hp] at hQ
        clear hat hP
        go_wp2_with (first | (go_at_call 31; (with_reducible refine (hQ _).mono ?_); rintro e w1 ⟨rfl, rfl⟩))
        go_ret
        exact ⟨rfl, rfl⟩
      | false =>
        rw [if_neg (by rw [hp]; simp)] at hR
        simp only [hp] at hQ
        have H := hide hR
        clear hat hP hR
        go_wp2_with (first | (go_at_call 31; (with_reducible refine (hQ _).mono ?_); rintro e w1 ⟨rfl, rfl⟩))
        go_roundw
        case rel => exact ⟨k, by omega, by go_num, H.out, by trivial⟩
        case measure => first | (simp [intOf]; done) | (simp [intOf]; omega)
set_option maxRecDepth 100000 in
theorem rsign_any (k : Nat) (hk : 1 ≤ k ∧ k ≤ 4) (w : World) :
    Calls Tryd.prog 34 #[.int .i64 (k : Int)] w fun e w' => e = .returned (.string (sgT k)) ∧ w' = w := by
  obtain ⟨h1, h4⟩ := hk
  match k, h1, h4 with
  | 1, _, _ | 2, _, _ | 3, _, _ | 4, _, _ =>
    go_enter Tryd.func34, Tryd.ntmps34
    go_wp2
    go_ret
    exact ⟨rfl, rfl⟩
end Go.Proofs.YtmfbidhnafpkdaaDoor
