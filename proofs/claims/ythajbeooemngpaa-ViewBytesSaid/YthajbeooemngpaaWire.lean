import Derived.Test.YthajbeooemngpaaBe
import Derived.Test.YthajbeooemngpaaFirst
import Derived.Test.YthajbeooemngpaaRows
import Derived.WalkSpells
import Derived.WalkLawsBesides
import Derived.WalkMore
/-! The wire's writer: the program. -/
namespace Go.Proofs.Ythajbeooemngpaa
open Go.RowKit
set_option linter.unusedVariables false
set_option linter.unusedSimpArgs false
theorem infoU8 : (Try.prog.info? 5).map (fun i => (i.zero, i.size, i.bytes)) = some (some (.int .u8 0), 1, 1) := by kernel_rfl
def U64 (a : Int) : Prop := 0 ≤ a ∧ a ≤ 18446744073709551615
theorem long_any (a : Int) (w : World) (ha : U64 a) :
    Calls Try.prog 80 #[.int .u64 a] w fun e w' => e = .returned (.int .i64 (longN a.toNat : Nat)) ∧ Below w.heap.size w w' := by
  go_enter Try.func80, Try.ntmps80
  have ha0 := ha
  unfold U64 at ha
  go_wp2
  go_loopw [0, 3] (fun n k wr => ∃ (m : Nat) (j : Nat), n = .int .u64 (m : Int) ∧ k = .int .i64 (j : Int) ∧ m ≤ 18446744073709551615 ∧ j + longN m = longN a.toNat ∧ Below w.heap.size w wr) (fun n _ _ => (intOf n).toNat)
  case atStart => exact ⟨a.toNat, 0, by rw [Int.toNat_of_nonneg ha.1], rfl, by omega, by omega, Below.refl _ _⟩
  case round =>
    obtain ⟨m, j, rfl, rfl, hm, hj, hb⟩ := hrel
    have hk := longN_le 8 a.toNat (by omega)
    by_cases h0 : 0 < m
    · have hl := longN_pos h0
      have hq : ((m : Int) > 0) = True := eq_true (by omega)
      go_wp2
      go_roundw
      case rel => exact ⟨m / 256, j + 1, by go_num, by go_num, by omega, by omega, hb⟩
      case measure => simp [intOf]; omega
    · obtain rfl : m = 0 := by omega
      rw [longN_zero] at hj
      obtain rfl : j = longN a.toNat := by omega
      go_wp2
      refine bodyPost_ret (v := .int .i64 (longN a.toNat : Nat)) (by simp [results, Try.results80, go_sem] <;> rfl) rfl ⟨?_, by (repeat' (first | with_reducible exact Below.refl _ _ | with_reducible refine Below.ext ?_ ?_ _ | with_reducible refine Below.alloc ?_ ?_ _ | with_reducible refine Below.setCell ?_ ?_ _ | with_reducible refine Below.drew ?_ | with_reducible assumption | (simp [World.size_ext]; done) | (simp [World.size_ext]; omega)))⟩
      rfl
theorem byte_at {a : Int} (ha : 0 ≤ a) (m : Nat) : a / 2 ^ (8 * m) % 256 = ((a.toNat / 256 ^ m % 256 : Nat) : Int) := by
  obtain ⟨n, rfl⟩ := Int.eq_ofNat_of_zero_le ha
  rw [show (2 : Int) ^ (8 * m) = ((256 ^ m : Nat) : Int) by
    rw [show (256 : Nat) = 2 ^ 8 by rfl, ← Nat.pow_mul]
    exact (Int.natCast_pow 2 _).symm]
  rfl
set_option maxHeartbeats 2000000 in
theorem num_any (base g : Nat) (v : Value) (xs : List Nat) (a : Int) (w : World) (hw : Wrt w base g 124 v xs) (ha : U64 a) (hlen : xs.length + 9 ≤ 140737488355328) :
    Calls Try.prog 45 #[.pointer (some ⟨g, 0, none⟩), .int .u64 a] w fun e w' => e = .returned (.tuple #[]) ∧ ∃ v', Wrt w' base g 124 v' (xs ++ numB a.toNat) ∧ Chw w w' g v v' := by
  have c1 := hw.blk.cell
  have f1 := hw.blk.frozen
  have l1 := hw.blk.lt
  have hge := hw.ge
  go_enter Try.func45, Try.ntmps45
  have ha0 := ha
  unfold U64 at ha
  by_cases h248 : a < 248
  · have hn : numB a.toNat = [a.toNat] := by unfold numB; rw [if_pos (by omega)]
    go_wp2_with (at_builtin; go_must (refine app_byte rfl (.tmp 13) (.tmp 16) 23 rfl Try.underlying23 infoU8 base v (xs) (a.toNat) _ ?c0 rfl hw.row _ (by first | rfl | simp [World.size_ext]) rfl ?c1 ?c2 ?_))
    case c0 => go_num
    case c1 => omega
    case c2 => have := hw.ge; omega
    intro v' w1 hr1 hc1
    have hb1 := hw.chg hc1
    have c2 := hb1.cell
    have f2 := hb1.frozen
    have hs := hw.set_ hc1 hr1
    obtain ⟨A1, n1, k1, rfl⟩ := hr1.shape
    go_wp2
    refine bodyPost_ret (v := .tuple #[]) (by simp [results, Try.results45, go_sem] <;> rfl) rfl ⟨rfl, ?_⟩
    exact ⟨_, hn ▸ hs.1, hs.2⟩
  · have hk8 := longN_le 8 a.toNat (by omega)
    go_wp2_with (first | ((go_at_call 80; with_reducible refine (long_any _ _ ha0).mono ?_; rintro e w1 ⟨rfl, hb1⟩; have hs1 := hb1.size); have hw1 := hw.below hb1; have c2 := hw1.blk.cell; have f2 := hw1.blk.frozen) | (at_builtin; go_must (refine app_byte rfl (.tmp 26) (.tmp 30) 23 rfl Try.underlying23 infoU8 base v (xs) (247 + longN a.toNat) _ ?c0 rfl hw1.row _ (by first | rfl | simp [World.size_ext]) rfl ?c1 ?c2 ?_)))
    case c0 => simp
    case c1 => omega
    case c2 => omega
    intro v' w2 hr2 hc2
    have c3 := (hw1.chg hc2).cell
    have f3 := (hw1.chg hc2).frozen
    obtain ⟨hw3, hg3⟩ := hw1.set_ hc2 hr2
    have hg3 := (Chw.of_below (g := g) (v := v) hb1).trans hg3
    obtain ⟨A1, n1, k1, rfl⟩ := hr2.shape
    clear hc2 hr2 hw1 c2 f2
    go_wp2
    have hn : numB a.toNat = (247 + longN a.toNat) :: be (longN a.toNat) a.toNat := by unfold numB; rw [if_neg (by omega)]
    go_loopw [4] (fun k wr => ∃ i v', i ≤ longN a.toNat ∧ k = .int .i64 ((i : Int) - 1) ∧ Wrt wr base g 124 v' (xs ++ (247 + longN a.toNat) :: (be (longN a.toNat) a.toNat).take (longN a.toNat - i)) ∧ Chw w wr g v v') (fun k _ => (intOf k + 1).toNat)
    case atStart => exact ⟨longN a.toNat, _, by omega, by go_num, by rw [Nat.sub_self]; exact hw3, hg3⟩
    case round =>
      clear hw3 hg3 c3 f3
      obtain ⟨i, v', hj, rfl, hw3, hg3⟩ := hrel
      have c3 := hw3.blk.cell
      have f3 := hw3.blk.frozen
      have l3 := hw3.blk.lt
      obtain ⟨wo, rfl⟩ : ∃ wo : World, wo = wr := ⟨_, rfl⟩
      match i, hj, hw3 with
      | 0, hj, hw3 =>
        have h0 : ((0 : Nat) : Int) - 1 = -1 := by omega
        rw [h0]
        go_wp2
        refine bodyPost_end (v := .tuple #[]) (by simp [results, Try.results45, go_sem] <;> rfl) rfl ⟨rfl, ?_⟩
        rw [hn]
        rw [Nat.sub_zero, List.take_of_length_le (by rw [be_length]; exact Nat.le_refl _)] at hw3
        exact ⟨_, hw3, hg3⟩
      | m + 1, hj, hw3 =>
        have hm : IntKind.i64.wrap (8 * (m : Int)) = 8 * (m : Int) := by simp [IntKind.wrap, IntKind.signed, IntKind.bits]; omega
        have hm0 : ((m + 1 : Nat) : Int) - 1 = (m : Int) := by omega
        rw [hm0]
        have hts : Hid _ := be_take_succ (longN a.toNat) a.toNat (longN a.toNat - (m + 1)) (by omega)
        have hby : Hid (a / 2 ^ (8 * m) % 256 = ((a.toNat / 256 ^ m % 256 : Nat) : Int)) := byte_at ha.1 m
        go_wp2
        refine First.wp_region_first_ext [4, 9] [0, 1, 2, 3, 5, 6, 7, 8, 12, 13] [(true, false, 0), (true, false, 1), (true, false, 2), (true, false, 3), (true, true, 4), (true, false, 5), (true, false, 6), (true, false, 7), (true, false, 8), (true, true, 9), (false, true, 10), (false, false, 11), (true, false, 12), (true, false, 13), (false, false, 14)] (by kernel_rfl) (by kernel_rfl) (fun Y => ?_); simp only [List.map_cons, List.map_nil, List.getD_cons_zero, List.getD_cons_succ]
        (repeat (first | (refine First.wpF_pure (fun K hK => ?_); go_simp; first | (refine hK _ _ ?_; clear hK K) | (apply Exists.intro; refine ⟨fun _ => ?_, hK _ _ ?_⟩; fail)) | (refine First.wpF_free (fun K hK => ?_); go_simp; first | (refine hK _ _ ?_; clear hK K))))
        refine First.wpF_must (fun K hK => ?_)
        go_wp2
        (refine hK _ _ (fun hnd => by first | exact Bool.noConfusion hnd | assumption | with_reducible exact grown_alloc _ _ | with_reducible exact First.Grown.refl _ | with_reducible exact First.Grown.cat _ _ _ | with_reducible exact First.Grown.ext _ _) ?_; clear hK K)
        refine First.wpF_must (fun K hK => ?_)
        (at_builtin; go_must (refine app_byte rfl (.tmp 44) (.tmp 50) 23 rfl Try.underlying23 infoU8 base v' (_) (a.toNat / 256 ^ m % 256) _ ?c0 rfl (hw3.row.below (World.below_ext _ _)) _ (by first | rfl | simp [World.size_ext]) rfl ?c1 ?c2 ?_))
        case c0 => exact hby.out
        case c1 => simp [be_length]; omega
        case c2 => have := hw3.ge; simp [World.size_ext]; omega
        intro v'' w4 hr4 hc4
        have hc4 := (Chg.of_below (v := v') (World.below_ext wo Y)).trans hc4
        have c5 := (hw3.chg hc4).cell
        have f5 := (hw3.chg hc4).frozen
        obtain ⟨hw5, hg5⟩ := hw3.set_ hc4 hr4
        have hg5 := hg3.trans hg5
        obtain ⟨A5, n5, k5, rfl⟩ := hr4.shape
        clear hr4 hc4 hw3 hg3 c3 f3
        go_wp2
        (refine hK _ _ (fun hnd => by first | exact Bool.noConfusion hnd | assumption | with_reducible exact grown_alloc _ _ | with_reducible exact First.Grown.refl _ | with_reducible exact First.Grown.cat _ _ _ | with_reducible exact First.Grown.ext _ _) ?_; clear hK K)
        (repeat (first | (refine First.wpF_pure (fun K hK => ?_); go_simp; first | (refine hK _ _ ?_; clear hK K) | (apply Exists.intro; refine ⟨fun _ => ?_, hK _ _ ?_⟩; fail)) | (refine First.wpF_free (fun K hK => ?_); go_simp; first | (refine hK _ _ ?_; clear hK K))))
        refine First.wpF_must (fun K hK => ?_)
        go_wp2
        (refine hK _ _ (fun hnd => by first | exact Bool.noConfusion hnd | assumption | with_reducible exact grown_alloc _ _ | with_reducible exact First.Grown.refl _ | with_reducible exact First.Grown.cat _ _ _ | with_reducible exact First.Grown.ext _ _) ?_; clear hK K)
        refine First.wpF_nil ?_
        go_wp2
        go_roundw
        case rel =>
          refine ⟨m, _, by omega, rfl, ?_, hg5⟩
          rw [show longN a.toNat - m = longN a.toNat - (m + 1) + 1 by omega, hts.out, show longN a.toNat - 1 - (longN a.toNat - (m + 1)) = m by omega]
          simpa using hw5
        case measure => simp [intOf]
end Go.Proofs.Ythajbeooemngpaa
