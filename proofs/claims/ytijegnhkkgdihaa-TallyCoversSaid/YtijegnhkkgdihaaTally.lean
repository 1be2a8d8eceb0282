import Derived.Test.YtijegnhkkgdihaaRows
import Derived.Test.YtijegnhkkgdihaaKit
import Derived.WalkSpells
import Derived.WalkLawsBesides
import Derived.Test.YtijegnhkkgdihaaFirst
import Derived.Test.YtijegnhkkgdihaaGrow
/-! Samples; the programs' answers on them. -/
namespace Go.Proofs.Ytijegnhkkgdihaa
open Go.RowKit
set_option linter.unusedVariables false
set_option linter.unusedSimpArgs false
def smps (l : List (Int × Int)) : List Value := l.flatMap fun p => [.int .i64 p.1, .int .i64 p.2]
theorem smps_length (l : List (Int × Int)) : (smps l).length = l.length * 2 := by
  induction l with
  | nil => rfl
  | cons p l ih => simp only [smps, List.flatMap_cons, List.length_append, List.length_cons, List.length_nil] at *; omega
theorem smps_append (l m : List (Int × Int)) : smps (l ++ m) = smps l ++ smps m := by simp [smps]
theorem smps_get : ∀ (l : List (Int × Int)) (i : Nat) (p : Int × Int), l[i]? = some p → (smps l)[i * 2]? = some (.int .i64 p.1) ∧ (smps l)[i * 2 + 1]? = some (.int .i64 p.2)
  | q :: l, 0, p, h => by
    simp only [List.getElem?_cons_zero, Option.some.injEq] at h
    subst h
    exact ⟨rfl, rfl⟩
  | q :: l, i + 1, p, h => by
    have := smps_get l i p (by simpa using h)
    have e : smps (q :: l) = .int .i64 q.1 :: .int .i64 q.2 :: smps l := rfl
    rw [e, show (i + 1) * 2 = i * 2 + 1 + 1 by omega]
    exact this
theorem infoS : (Try.prog.info? 36).map (fun i => (i.zero, i.size, i.bytes)) = some (some (.agg #[.int .i64 0, .int .i64 0]), 2, 16) := by kernel_rfl
theorem to_any (A : Option Addr) (n c : Nat) (l : List (Int × Int)) (w : World) (hr : Reads w w.heap.size 2 A n (smps l)) (hn : n * 16 ≤ 140737488355328) :
    Calls Try.prog 10 #[.slice A n c] w fun e w' => ∃ v, e = .returned v ∧ w'.ownsRow w.heap.size 36 2 v n (smps l) ∧ Below w.heap.size w w' := by
  obtain ⟨i0, hi, hz0, hz1, hz2⟩ := info_parts infoS
  have hl : l.length = n := by have := hr.1; rw [smps_length] at this; omega
  by_cases h0 : n = 0
  · subst h0
    obtain rfl : l = [] := List.length_eq_zero_iff.1 hl
    go_enter Try.func10, Try.ntmps10
    go_wp2
    go_loopw [3, 8] (fun v s wr => v = .slice none 0 0 ∧ s = .int .i64 0 ∧ wr = w) (fun _ s _ => 0)
    case atStart => exact ⟨rfl, rfl, rfl⟩
    case round =>
      obtain ⟨rfl, rfl, rfl⟩ := hrel
      go_wp2
      go_ret
      exact ⟨_, rfl, ⟨rfl, .inl ⟨rfl, rfl⟩⟩, Below.refl _ _⟩
  · obtain ⟨b, o, rfl, hb, hc⟩ := hr.plain (by omega) (by omega)
    go_enter Try.func10, Try.ntmps10
    go_wp2
    go_loopw [3, 8] (fun v s wr => ∃ j : Nat, j ≤ n ∧ s = .int .i64 (j : Int) ∧ wr.ownsRow w.heap.size 36 2 v j (smps (l.take j)) ∧ Below w.heap.size w wr) (fun _ s _ => ((n : Int) - intOf s).toNat)
    case atStart => exact ⟨0, by omega, rfl, ⟨rfl, .inl ⟨rfl, rfl⟩⟩, Below.refl _ _⟩
    case round =>
      obtain ⟨j, hj, rfl, hown, hbel⟩ := hrel
      have hcell0 := hbel.size
      by_cases hlt : j < n
      · have hg : l[j]? = some l[j] := List.getElem?_eq_getElem (by omega)
        obtain ⟨g1, g2⟩ := smps_get l j _ hg
        have m1 : wr.cell? ⟨b, o + j * 2, none⟩ = some (.int .i64 l[j].1) := by rw [hbel.cell (p := ⟨b, _, none⟩) hb]; exact hc _ _ g1
        have m2 : wr.cell? ⟨b, o + j * 2 + 1, none⟩ = some (.int .i64 l[j].2) := by rw [hbel.cell (p := ⟨b, _, none⟩) hb, Nat.add_assoc]; exact hc _ _ g2
        go_wp2_with (at_builtin; go_must (refine wpList_append_own _ rfl (.tmp 12) (.tmp 18) 26 rfl (w.heap.size) 36 i0 (.agg #[.int .i64 0, .int .i64 0]) 2 16 Try.underlying26 hi hz0 hz1 hz2 rfl (by decide) u3 (j) _ rfl ((hown.alloc _).alloc _) ⟨wr.heap.size + 1, 0, none⟩ 1 1 [.int .i64 l[j].1, .int .i64 l[j].2] rfl rfl ?c1 ?c2 ?c3 ?c4 ?c5 ?_))
        case c1 => exact cells_new_at _ #[_, _] _ (by simp)
        case c2 => simp [Value.oneCell']
        case c3 => unfold maxLen; omega
        case c4 => omega
        case c5 => simp; omega
        intro v' w1 hown1 hg1 _
        have hbel1 := own_below ((hbel.alloc hcell0 _).alloc (by simp; omega) _) ((hown.alloc _).alloc _) hg1 (Nat.le_refl _) (by simp; omega)
        have ht : smps (l.take (j + 1)) = smps (l.take j) ++ [.int .i64 l[j].1, .int .i64 l[j].2] := by
          rw [List.take_add_one, hg, smps_append]; rfl
        rw [← ht] at hown1
        clear ht
        go_wp2
        go_roundw
        case rel => exact ⟨j + 1, by omega, by go_num, hown1, hbel1⟩
        case measure => simp [intOf]; omega
      · obtain rfl : j = n := by omega
        rw [List.take_of_length_le (by omega)] at hown
        clear hlt
        go_wp2
        go_ret
        exact ⟨_, rfl, hown, hbel⟩
theorem and_mask (n : Int) : bits .and .i64 n 4294967295 = n % 4294967296 := by
  show IntKind.i64.wrap ((BitVec.ofInt 64 n &&& BitVec.ofInt 64 4294967295).toNat : Int) = _
  rw [BitVec.toNat_and, BitVec.toNat_ofInt, show (BitVec.ofInt 64 4294967295).toNat = 2 ^ 32 - 1 from by decide, Nat.and_two_pow_sub_one_eq_mod]
  have : (((n % ((2 ^ 64 : Nat) : Int)).toNat % 2 ^ 32 : Nat) : Int) = n % 4294967296 := by omega
  rw [this]
  exact IntWalk.i64_in _ (by omega)
theorem or_i64 (h l : Int) (hh : -2147483648 ≤ h ∧ h < 2147483648) (hl : 0 ≤ l ∧ l < 4294967296) : bits .or .i64 (h * 4294967296) l = h * 4294967296 + l := by
  show IntKind.i64.wrap ((BitVec.ofInt 64 (h * 4294967296) ||| BitVec.ofInt 64 l).toNat : Int) = _
  rw [BitVec.toNat_or, BitVec.toNat_ofInt, BitVec.toNat_ofInt]
  have e1 : ((h * 4294967296) % ((2 ^ 64 : Nat) : Int)).toNat = (h % 4294967296).toNat <<< 32 := by rw [Nat.shiftLeft_eq]; omega
  have e2 : (l % ((2 ^ 64 : Nat) : Int)).toNat = l.toNat := by omega
  rw [e1, e2, ← Nat.shiftLeft_add_eq_or_of_lt (show l.toNat < 2 ^ 32 by omega), Nat.shiftLeft_eq]
  unfold IntKind.wrap
  simp [IntKind.signed, IntKind.bits]
  omega
theorem plus_any (T n t : Int) (w : World) (hT : -1000000000000000000000000 ≤ T ∧ T ≤ 1000000000000000000000000) (hn : -9223372036854775808 ≤ n ∧ n ≤ 9223372036854775807) (ht : t = 1 ∨ t = -1) :
    Calls Try.prog 18 #[.agg #[.int .i64 (T / 4294967296), .int .i64 (T % 4294967296)], .int .i64 n, .int .i64 t] w fun e w' => e = .returned (.agg #[.int .i64 ((T + t * n) / 4294967296), .int .i64 ((T + t * n) % 4294967296)]) ∧ Below w.heap.size w w' := by
  have e1 := and_mask n
  go_enter Try.func18, Try.ntmps18
  go_wp2
  refine bodyPost_ret (v := .agg #[.int .i64 ((T + t * n) / 4294967296), .int .i64 ((T + t * n) % 4294967296)]) ?_ rfl ⟨rfl, by (repeat' (first | with_reducible exact Below.refl _ _ | with_reducible refine Below.ext ?_ ?_ _ | with_reducible refine Below.alloc ?_ ?_ _ | with_reducible refine Below.setCell ?_ ?_ _ | with_reducible refine Below.drew ?_ | with_reducible assumption | (simp [World.size_ext]; done) | (simp [World.size_ext]; omega)))⟩
  have a1 : wrap64 (t * (n / 4294967296)) = t * (n / 4294967296) := by rcases ht with rfl | rfl <;> (unfold wrap64; omega)
  have a2 : wrap64 (t * (n % 4294967296)) = t * (n % 4294967296) := by rcases ht with rfl | rfl <;> (unfold wrap64; omega)
  have a3 : wrap64 (T / 4294967296 + t * (n / 4294967296)) = T / 4294967296 + t * (n / 4294967296) := by rcases ht with rfl | rfl <;> (unfold wrap64; omega)
  have a4 : wrap64 (T % 4294967296 + t * (n % 4294967296)) = T % 4294967296 + t * (n % 4294967296) := by rcases ht with rfl | rfl <;> (unfold wrap64; omega)
  have a5 : wrap64 (T / 4294967296 + t * (n / 4294967296) + (T % 4294967296 + t * (n % 4294967296)) / 4294967296) = (T + t * n) / 4294967296 := by rcases ht with rfl | rfl <;> (unfold wrap64; omega)
  have a6 : bits .and .i64 (T % 4294967296 + t * (n % 4294967296)) 4294967295 = (T + t * n) % 4294967296 := by rw [and_mask]; rcases ht with rfl | rfl <;> omega
  rw [a1, a2, a3, a4, a5, a6]
  simp [results, Try.results18, go_sem]
  trace_state
theorem small_any (T : Int) (w : World) (hT : -1000000000000000000000000 ≤ T ∧ T ≤ 1000000000000000000000000) :
    Calls Try.prog 19 #[.agg #[.int .i64 (T / 4294967296), .int .i64 (T % 4294967296)]] w fun e w' => e = .returned (if -9223372036854775808 ≤ T ∧ T ≤ 9223372036854775807 then .tuple #[.int .i64 T, .int .i64 0] else .tuple #[.int .i64 0, .int .i64 20]) ∧ Below w.heap.size w w' := by
  by_cases hs : -9223372036854775808 ≤ T ∧ T ≤ 9223372036854775807
  · rw [if_pos hs]
    have e1 : bits .or .i64 (T / 4294967296 * 4294967296) (T % 4294967296) = T := by rw [or_i64 _ _ (by omega) (by omega)]; omega
    go_enter Try.func19, Try.ntmps19
    go_wp2
    all_goals first | (exfalso; omega) | (refine bodyPost_ret (v := _) (by simp [results, Try.results19, go_sem] <;> rfl) rfl ⟨?_, by (repeat' (first | with_reducible exact Below.refl _ _ | with_reducible refine Below.ext ?_ ?_ _ | with_reducible refine Below.alloc ?_ ?_ _ | with_reducible refine Below.setCell ?_ ?_ _ | with_reducible refine Below.drew ?_ | with_reducible assumption | (simp [World.size_ext]; done) | (simp [World.size_ext]; omega)))⟩; rfl)
  · rw [if_neg hs]
    go_enter Try.func19, Try.ntmps19
    go_wp2
    all_goals first | (exfalso; omega) | (refine bodyPost_ret (v := _) (by simp [results, Try.results19, go_sem] <;> rfl) rfl ⟨?_, by (repeat' (first | with_reducible exact Below.refl _ _ | with_reducible refine Below.ext ?_ ?_ _ | with_reducible refine Below.alloc ?_ ?_ _ | with_reducible refine Below.setCell ?_ ?_ _ | with_reducible refine Below.drew ?_ | with_reducible assumption | (simp [World.size_ext]; done) | (simp [World.size_ext]; omega)))⟩; rfl)
end Go.Proofs.Ytijegnhkkgdihaa