import Derived.Test.YtjhcgnmibnjocaaGreatGA
import Derived.Test.YtjhcgnmibnjocaaGreatRows
import Derived.WalkSpells
import Derived.WalkLawsBesides
import Derived.WalkMore
import Derived.Lib.AppendStr
import Derived.Outline
/-! Several texts in one. -/
set_option linter.unusedVariables false
set_option linter.unusedSimpArgs false
namespace Go.Proofs.YtjhcgnmibnjocaaGreat
open Go.RowKit
theorem infoU8 : (Tryz.prog.info? 5).map (fun i => (i.zero, i.size, i.bytes)) = some (some (.int .u8 0), 1, 1) := by kernel_rfl
def U64 (a : Int) : Prop := 0 ≤ a ∧ a ≤ 18446744073709551615
theorem long_any (a : Int) (w : World) (ha : U64 a) :
  Calls Tryz.prog 94 #[.int .u64 a] w fun e w' => e = .returned (.int .i64 (longN a.toNat : Nat)) ∧ Below w.heap.size w w' := by
 go_enter Tryz.func94, Tryz.ntmps94
 have ha0 := ha
 unfold U64 at ha
 go_wp2
 go_loopw [0, 3] (fun n k wr => ∃ (m : Nat) (j : Nat), n = .int .u64 (m : Int) ∧ k = .int .i64 (j : Int) ∧ m ≤ 18446744073709551615 ∧ j + longN m = longN a.toNat ∧ Below w.heap.size w wr) (fun n _ _ => (intOf n).toNat)
 case atStart => exact ⟨a.toNat, 0, by rw [Int.toNat_of_nonneg ha.1], rfl, by omega, by omega, Below.refl _ _⟩
 case round =>
  obtain ⟨m, j, rfl, rfl, hm, hj, hb⟩ := hrel
  have hk := longN_le 8 a.toNat (by omega)
  by_cases h0 : 0 < m
  ·have hl := longN_pos h0
   have hq : ((m : Int) > 0) = True := eq_true (by omega)
   go_wp2
   go_roundw
   case rel => exact ⟨m / 256, j + 1, by go_num, by go_num, by omega, by omega, hb⟩
   case measure => simp [intOf]; omega
  ·obtain rfl : m = 0 := by omega
   rw [longN_zero] at hj
   obtain rfl : j = longN a.toNat := by omega
   go_wp2
   refine bodyPost_ret (v := .int .i64 (longN a.toNat : Nat)) (by simp [results, Tryz.results94, go_sem] <;> rfl) rfl ⟨?_, by (repeat' (first | with_reducible (first | exact Below.refl _ _ | refine Below.ext ?_ ?_ _ | refine Below.alloc ?_ ?_ _ | refine Below.setCell ?_ ?_ _ | refine Below.drew ?_ | assumption) | (simp [World.size_ext]; done) | (simp [World.size_ext]; omega)))⟩
   rfl
theorem byte_at {a : Int} (ha : 0 ≤ a) (m : Nat) : a / 2 ^ (8 * m) % 256 = ((a.toNat / 256 ^ m % 256 : Nat) : Int) := by
 obtain ⟨n, rfl⟩ := Int.eq_ofNat_of_zero_le ha
 rw [show (2 : Int) ^ (8 * m) = ((256 ^ m : Nat) : Int) by
  rw [show (256 : Nat) = 2 ^ 8 by rfl, ← Nat.pow_mul]
  exact (Int.natCast_pow 2 _).symm]
 rfl
set_option maxHeartbeats 2000000 in
theorem num_any (base g : Nat) (v : Value) (xs : List Nat) (a : Int) (w : World) (hw : Wrt w base g 153 v xs) (ha : U64 a) (hlen : xs.length + 9 ≤ 140737488355328) :
  Calls Tryz.prog 67 #[.pointer (some ⟨g, 0, none⟩), .int .u64 a] w fun e w' => e = .returned (.tuple #[]) ∧ ∃ v', Wrt w' base g 153 v' (xs ++ numB a.toNat) ∧ Chw w w' g v v' := by
 have c1 := hw.blk.cell
 have f1 := hw.blk.frozen
 have l1 := hw.blk.lt
 have hge := hw.ge
 go_enter Tryz.func67, Tryz.ntmps67
 have ha0 := ha
 unfold U64 at ha
 by_cases h248 : a < 248
 ·have hn : numB a.toNat = [a.toNat] := by unfold numB; rw [if_pos (by omega)]
  go_wp2_with (at_builtin; go_must (refine app_byte rfl (.tmp 13) (.tmp 16) 36 rfl Tryz.underlying36 infoU8 base v (xs) (a.toNat) _ ?c0 rfl hw.row _ (by first | rfl | simp [World.size_ext]) rfl ?c1 ?c2 ?_))
  case c0 => go_num
  case c1 => omega
  case c2 => have := hw.ge; omega
  intro v' w1 hr1 hc1
  have hb1 := hw.chg hc1
  have c2 := hb1.cell
  have f2 := hb1.frozen
  have hs := hw.set_ hc1 hr1
  obtain ⟨A1, n1, k1, rfl⟩ := hr1.shape
  go_wp2
  refine bodyPost_ret (v := .tuple #[]) (by simp [results, Tryz.results67, go_sem] <;> rfl) rfl ⟨rfl, ?_⟩
  exact ⟨_, hn ▸ hs.1, hs.2⟩
 ·have hk8 := longN_le 8 a.toNat (by omega)
  go_wp2_with (first | ((go_at_call 94; with_reducible refine (long_any _ _ ha0).mono ?_; rintro e w1 ⟨rfl, hb1⟩; have hs1 := hb1.size); have hw1 := hw.below hb1; have c2 := hw1.blk.cell; have f2 := hw1.blk.frozen) | (at_builtin; go_must (refine app_byte rfl (.tmp 26) (.tmp 30) 36 rfl Tryz.underlying36 infoU8 base v (xs) (247 + longN a.toNat) _ ?c0 rfl hw1.row _ (by first | rfl | simp [World.size_ext]) rfl ?c1 ?c2 ?_)))
  case c0 => simp
  case c1 => omega
  case c2 => omega
  intro v' w2 hr2 hc2
  have c3 := (hw1.chg hc2).cell
  have f3 := (hw1.chg hc2).frozen
  obtain ⟨hw3, hg3⟩ := hw1.set_ hc2 hr2
  have hg3 := (Chw.of_below (g := g) (v := v) hb1).trans hg3
  obtain ⟨A1, n1, k1, rfl⟩ := hr2.shape
  clear hc2 hr2 hw1 c2 f2
  go_wp2
  have hn : numB a.toNat = (247 + longN a.toNat) :: be (longN a.toNat) a.toNat := by unfold numB; rw [if_neg (by omega)]
  go_loopw [4] (fun k wr => ∃ i v', i ≤ longN a.toNat ∧ k = .int .i64 ((i : Int) - 1) ∧ Wrt wr base g 153 v' (xs ++ (247 + longN a.toNat) :: (be (longN a.toNat) a.toNat).take (longN a.toNat - i)) ∧ Chw w wr g v v') (fun k _ => (intOf k + 1).toNat)
  case atStart => exact ⟨longN a.toNat, _, by omega, by go_num, by rw [Nat.sub_self]; exact hw3, hg3⟩
  case round =>
   clear hw3 hg3 c3 f3
   obtain ⟨i, v', hj, rfl, hw3, hg3⟩ := hrel
   have c3 := hw3.blk.cell
   have f3 := hw3.blk.frozen
   have l3 := hw3.blk.lt
   obtain ⟨wo, rfl⟩ : ∃ wo : World, wo = wr := ⟨_, rfl⟩
   match i, hj, hw3 with
   | 0, hj, hw3 =>
    have h0 : ((0 : Nat) : Int) - 1 = -1 := by omega
    rw [h0]
    go_wp2
    refine bodyPost_end (v := .tuple #[]) (by simp [results, Tryz.results67, go_sem] <;> rfl) rfl ⟨rfl, ?_⟩
    rw [hn]
    rw [Nat.sub_zero, List.take_of_length_le (by rw [be_length]; exact Nat.le_refl _)] at hw3
    exact ⟨_, hw3, hg3⟩
   | m + 1, hj, hw3 =>
    have hm : IntKind.i64.wrap (8 * (m : Int)) = 8 * (m : Int) := by simp [IntKind.wrap, IntKind.signed, IntKind.bits]; omega
    have hm0 : ((m + 1 : Nat) : Int) - 1 = (m : Int) := by omega
    rw [hm0]
    have hts : Hid _ := be_take_succ (longN a.toNat) a.toNat (longN a.toNat - (m + 1)) (by omega)
    have hby : Hid (a / 2 ^ (8 * m) % 256 = ((a.toNat / 256 ^ m % 256 : Nat) : Int)) := byte_at ha.1 m
    go_wp2
    refine First.wp_region_first_ext [4, 9] [0, 1, 2, 3, 5, 6, 7, 8, 12, 13] [(true, false, 0), (true, false, 1), (true, false, 2), (true, false, 3), (true, true, 4), (true, false, 5), (true, false, 6), (true, false, 7), (true, false, 8), (true, true, 9), (false, true, 10), (false, false, 11), (true, false, 12), (true, false, 13), (false, false, 14)] (by kernel_rfl) (by kernel_rfl) (fun Y => ?_); simp only [List.map_cons, List.map_nil, List.getD_cons_zero, List.getD_cons_succ]
    (repeat (first | (refine wfp fun K hK => ?_; go_simp; refine hK _ _ ?_; clear hK K) | (refine wff fun K hK => ?_; go_simp; refine hK _ _ ?_; clear hK K)))
    refine First.wpF_must (fun K hK => ?_)
    go_wp2
    (refine hK _ _ (fun hnd => by first | exact Bool.noConfusion hnd | assumption | with_reducible (first | exact grown_alloc _ _ | exact First.Grown.refl _ | exact First.Grown.cat _ _ _ | exact First.Grown.ext _ _)) ?_; clear hK K)
    refine First.wpF_must (fun K hK => ?_)
    (at_builtin; go_must (refine app_byte rfl (.tmp 44) (.tmp 50) 36 rfl Tryz.underlying36 infoU8 base v' (_) (a.toNat / 256 ^ m % 256) _ ?c0 rfl (hw3.row.below (World.below_ext _ _)) _ (by first | rfl | simp [World.size_ext]) rfl ?c1 ?c2 ?_))
    case c0 => exact hby.out
    case c1 => simp [be_length]; omega
    case c2 => have := hw3.ge; simp [World.size_ext]; omega
    intro v'' w4 hr4 hc4
    have hc4 := (Chg.of_below (v := v') (World.below_ext wo Y)).trans hc4
    have c5 := (hw3.chg hc4).cell
    have f5 := (hw3.chg hc4).frozen
    obtain ⟨hw5, hg5⟩ := hw3.set_ hc4 hr4
    have hg5 := hg3.trans hg5
    obtain ⟨A5, n5, k5, rfl⟩ := hr4.shape
    clear hr4 hc4 hw3 hg3 c3 f3
    go_wp2
    (refine hK _ _ (fun hnd => by first | exact Bool.noConfusion hnd | assumption | with_reducible (first | exact grown_alloc _ _ | exact First.Grown.refl _ | exact First.Grown.cat _ _ _ | exact First.Grown.ext _ _)) ?_; clear hK K)
    (repeat (first | (refine wfp fun K hK => ?_; go_simp; refine hK _ _ ?_; clear hK K) | (refine wff fun K hK => ?_; go_simp; refine hK _ _ ?_; clear hK K)))
    refine First.wpF_must (fun K hK => ?_)
    go_wp2
    (refine hK _ _ (fun hnd => by first | exact Bool.noConfusion hnd | assumption | with_reducible (first | exact grown_alloc _ _ | exact First.Grown.refl _ | exact First.Grown.cat _ _ _ | exact First.Grown.ext _ _)) ?_; clear hK K)
    refine First.wpF_nil ?_
    go_wp2
    go_roundw
    case rel =>
     refine ⟨m, _, by omega, rfl, ?_, hg5⟩
     rw [show longN a.toNat - m = longN a.toNat - (m + 1) + 1 by omega, hts.out, show longN a.toNat - 1 - (longN a.toNat - (m + 1)) = m by omega]
     simpa using hw5
    case measure => simp [intOf]
end Go.Proofs.YtjhcgnmibnjocaaGreat

namespace Go.Proofs.YtjhcgnmibnjocaaGreat
open Go.RowKit
set_option maxHeartbeats 2000000 in
theorem rnum_any (base : Nat) (v : Value) (xs : List Nat) (a : Int) (w : World) (hw : Row w base v xs) (hbase : base ≤ w.heap.size) (ha : U64 a) (hlen : xs.length + 9 ≤ 140737488355328) :
  Calls Tryz.prog 71 #[v, .int .u64 a] w fun e w' => ∃ v', e = .returned v' ∧ Row w' base v' (xs ++ numB a.toNat) ∧ Chg w w' v v' := by
 go_enter Tryz.func71, Tryz.ntmps71
 unfold U64 at ha
 by_cases h248 : a < 248
 ·have hn : numB a.toNat = [a.toNat] := by unfold numB; rw [if_pos (by omega)]
  go_wp2_with (at_builtin; go_must (refine app_byte rfl (.tmp 10) (.tmp 13) 36 rfl Tryz.underlying36 infoU8 base v (xs) (a.toNat) _ ?c0 rfl hw _ (by first | rfl | simp [World.size_ext]) rfl ?c1 ?c2 ?_))
  case c0 => go_num
  case c1 => omega
  case c2 => omega
  intro v' w1 hr1 hc1
  go_wp2
  refine bodyPost_ret (v := v') (by simp [results, Tryz.results71, go_sem] <;> rfl) rfl ⟨_, rfl, hn ▸ hr1, hc1⟩
 ·have hk8 := longN_le 8 a.toNat (by omega)
  have hn : numB a.toNat = (247 + longN a.toNat) :: be (longN a.toNat) a.toNat := by unfold numB; rw [if_neg (by omega)]
  go_wp2
  go_loopw [5, 6] (fun l m wr => ∃ j, m = .int .u64 ((a.toNat / 256 ^ j : Nat) : Int) ∧ Row wr w.heap.size l (les j a.toNat) ∧ j + longN (a.toNat / 256 ^ j) = longN a.toNat ∧ Below w.heap.size w wr) (fun _ m _ => (intOf m).toNat)
  case atStart => exact ⟨0, by go_num, Row.nil _ _, by simp, Below.refl _ _⟩
  case round =>
   obtain ⟨j, rfl, hl, hj, hb⟩ := hrel
   have hsz := hb.size
   have hle : a.toNat / 256 ^ j ≤ a.toNat := Nat.div_le_self _ _
   obtain ⟨wo, rfl⟩ : ∃ wo : World, wo = wr := ⟨_, rfl⟩
   by_cases h0 : 0 < a.toNat / 256 ^ j
   ·have hq : (((a.toNat / 256 ^ j : Nat) : Int) > 0) = True := eq_true (by omega)
    have hp := longN_pos h0
    have hd : a.toNat / 256 ^ j / 256 = a.toNat / 256 ^ (j + 1) := by rw [Nat.div_div_eq_div_mul, Nat.pow_succ]
    generalize hD : a.toNat / 256 ^ j = D at *
    go_wp2_with (at_builtin; go_must (refine app_byte rfl (.tmp 20) (.tmp 24) 36 rfl Tryz.underlying36 infoU8 w.heap.size _ (_) (D % 256) _ ?c0 rfl hl _ (by first | rfl | simp [World.size_ext]) rfl ?c1 ?c2 ?_))
    case c0 => go_num
    case c1 => rw [les_length]; omega
    case c2 => omega
    intro l' w1 hr1 hc1
    have hb1 := hb.trans (hc1.below hl hsz)
    obtain ⟨A1, n1, k1, rfl⟩ := hr1.shape
    go_wp2
    go_roundw
    case rel => exact ⟨j + 1, by rw [← hd]; go_num, by rw [les_succ, hD]; exact hr1, by rw [← hd]; omega, hb1⟩
    case measure => simp [intOf]; omega
   ·have hz : a.toNat / 256 ^ j = 0 := Nat.eq_zero_of_not_pos h0
    rw [hz, longN_zero] at hj
    rw [hz]
    obtain rfl : longN a.toNat = j := by omega
    obtain ⟨L, cap, rfl, hL, hLb, hcap, hcapm, hcell⟩ := hl.at_ (by rw [les_length, longN_pos (by omega)]; omega)
    simp only [les_length] at *
    obtain ⟨A0, n0, k0, rfl⟩ := hw.shape
    go_wp2_with (at_builtin; go_must (refine app_byte rfl (.tmp 26) (.tmp 31) 36 rfl Tryz.underlying36 infoU8 base _ (xs) (247 + longN a.toNat) _ ?c0 rfl (hw.below hb) _ (by first | rfl | simp [World.size_ext]) rfl ?c1 ?c2 ?_))
    case c0 => simp
    case c1 => omega
    case c2 => omega
    intro v' w2 hr2 hc2
    have hl2 : Row w2 w.heap.size _ (les (longN a.toNat) a.toNat) := hl.chg hc2 (fun k hk e => by have := (hw.ge e).2; cases hk; change L < _ at this; omega)
    have hne : v'.ownBlock ≠ some L := by
     rcases hc2.lies with e | ⟨b, e, hb⟩
     ·rw [e]
      intro e'
      have := (hw.ge e').2
      omega
     ·rw [e]
      intro e'
      cases e'
      omega
    have hc2 := (Chg.of_below (v := .slice A0 n0 k0) hb).trans hc2
    obtain ⟨A1, n1, k1, rfl⟩ := hr2.shape
    clear hl hcell hb
    go_wp2
    go_loopw [0, 7] (fun o k wr => ∃ i, i ≤ longN a.toNat ∧ k = .int .i64 ((i : Int) - 1) ∧ Row wr base o (xs ++ (247 + longN a.toNat) :: (be (longN a.toNat) a.toNat).take (longN a.toNat - i)) ∧ Chg w2 wr (.slice A1 n1 k1) o) (fun _ k _ => (intOf k + 1).toNat)
    case atStart => exact ⟨longN a.toNat, by omega, by go_num, by rw [Nat.sub_self]; exact hr2, Chg.refl _ _⟩
    case round =>
     obtain ⟨i, hi, rfl, hr3, hc3⟩ := hrel
     have hl3 := hl2.chg hc3 (fun k hk e => by cases hk; exact hne e)
     obtain ⟨wo2, rfl⟩ : ∃ wo2 : World, wo2 = wr := ⟨_, rfl⟩
     match i, hi, hr3 with
     | 0, hi, hr3 =>
      have h0 : ((0 : Nat) : Int) - 1 = -1 := by omega
      rw [h0]
      go_wp2
      rw [Nat.sub_zero, List.take_of_length_le (by rw [be_length]; exact Nat.le_refl _), ← hn] at hr3
      refine bodyPost_ret (by simp [results, Tryz.results71, go_sem] <;> rfl) rfl ⟨_, rfl, hr3, hc2.trans hc3⟩
     | m + 1, hi, hr3 =>
      have hm0 : ((m + 1 : Nat) : Int) - 1 = (m : Int) := by omega
      rw [hm0]
      have hts : Hid _ := be_take_succ (longN a.toNat) a.toNat (longN a.toNat - (m + 1)) (by omega)
      have hcm := hl3.cell (les_get (j := longN a.toNat) (i := m) (by omega))
      have hmK : (m : Int) < (longN a.toNat : Nat) := by omega
      go_wp2_with (at_builtin; go_must (refine app_byte rfl (.tmp 40) (.tmp 45) 36 rfl Tryz.underlying36 infoU8 base _ (_) (a.toNat / 256 ^ m % 256) _ ?c0 rfl hr3 _ (by first | rfl | simp [World.size_ext]) rfl ?c1 ?c2 ?_))
      case c0 => simp
      case c1 => simp [be_length]; omega
      case c2 => have := hc3.size; have := hc2.size; omega
      intro v'' w4 hr4 hc4
      have hc5 := hc3.trans hc4
      go_wp2
      go_roundw
      case rel =>
       refine ⟨m, by omega, rfl, ?_, hc5⟩
       rw [show longN a.toNat - m = longN a.toNat - (m + 1) + 1 by omega, hts.out, show longN a.toNat - 1 - (longN a.toNat - (m + 1)) = m by omega]
       simpa using hr4
      case measure => simp [intOf]
end Go.Proofs.YtjhcgnmibnjocaaGreat

namespace Go.Proofs.YtjhcgnmibnjocaaGreat
open Go.RowKit
def I64 (a : Int) : Prop := -9223372036854775808 ≤ a ∧ a ≤ 9223372036854775807
theorem row_made (w : World) : Row (w.alloc (.cells #[] 5)) w.heap.size (.slice (some ⟨w.heap.size, 0, none⟩) 0 0) [] := ⟨rfl, .inr ⟨w.heap.size, 0, #[], rfl, Nat.le_refl _, Blk.new _ _ _, Nat.le_refl _, by unfold maxLen; omega, rfl, rfl⟩⟩
theorem new_any (w : World) : Calls Tryz.prog 66 #[] w fun e w' => e = .returned (.pointer (some ⟨w.heap.size, 0, none⟩)) ∧ Wrt w' w.heap.size w.heap.size 153 (.slice none 0 0) [] ∧ Below w.heap.size w w' := by
 go_enter Tryz.func66, Tryz.ntmps66
 go_wp2
 refine bodyPost_ret (v := .pointer (some ⟨w.heap.size, 0, none⟩)) (by simp [results, Tryz.results66, go_sem] <;> rfl) rfl ⟨rfl, ⟨Blk.new _ _ _, Row.nil _ _, by simp [Value.ownBlock], Nat.le_refl _⟩, by (repeat' (first | with_reducible (first | exact Below.refl _ _ | refine Below.ext ?_ ?_ _ | refine Below.alloc ?_ ?_ _ | refine Below.setCell ?_ ?_ _ | refine Below.drew ?_ | assumption) | (simp [World.size_ext]; done) | (simp [World.size_ext]; omega)))⟩
theorem bytes_any (base g : Nat) (v : Value) (xs : List Nat) (w : World) (hw : Wrt w base g 153 v xs) (hlen : xs.length + 9 ≤ 140737488355328) :
  Calls Tryz.prog 69 #[.pointer (some ⟨g, 0, none⟩)] w fun e w' => ∃ u, e = .returned u ∧ Row w' w.heap.size u xs ∧ Below w.heap.size w w' := by
 have c1 := hw.blk.cell
 have f1 := hw.blk.frozen
 have l1 := hw.blk.lt
 have hr0 := hw.row
 obtain ⟨A, cap, rfl, hcap, _, hnil, hr⟩ := hr0.slice
 go_enter Tryz.func69, Tryz.ntmps69
 go_wp2_with (at_builtin; go_must (refine app_row rfl (.tmp 5) (.tmp 9) 36 rfl Tryz.underlying36 infoU8 w.heap.size _ ([]) (xs) A xs.length cap rfl (row_made w) rfl ?c0 ?c1 ?c2 ?c3 ?c4 ?_))
 case c0 => rfl
 case c1 => exact (hr.alloc (Nat.le_refl _) _).more (by simp)
 case c2 => exact hnil
 case c3 => simp; omega
 case c4 => simp
 intro u w1 hr1 hc1
 have hb1 := hc1.below (base := w.heap.size) (row_made w) (by simp)
 go_wp2
 refine bodyPost_ret (v := u) (by simp [results, Tryz.results69, go_sem] <;> rfl) rfl ⟨_, rfl, hr1, (Below.alloc (Below.refl _ _) (Nat.le_refl _) _).trans hb1⟩
theorem xor_zig {a : Int} (ha : I64 a) : bits .xor .u64 (IntKind.u64.wrap (IntKind.u64.wrap a * 2)) (IntKind.u64.wrap (a / 9223372036854775808)) = (zig a : Int) := by
 unfold I64 at ha
 show IntKind.u64.wrap ((BitVec.ofInt 64 _ ^^^ BitVec.ofInt 64 _).toNat : Int) = _
 by_cases h0 : 0 ≤ a
 ·have e1 : a / 9223372036854775808 = 0 := by omega
  have e2 : IntKind.u64.wrap (IntKind.u64.wrap a * 2) = a * 2 := by simp [IntKind.wrap, IntKind.signed, IntKind.bits]; omega
  rw [e1, e2, show BitVec.ofInt 64 (IntKind.u64.wrap 0) = 0#64 by decide, BitVec.xor_zero, BitVec.toNat_ofInt]
  unfold zig
  rw [if_pos h0]
  simp [IntKind.wrap, IntKind.signed, IntKind.bits]
  omega
 ·have e1 : a / 9223372036854775808 = -1 := by omega
  have e2 : IntKind.u64.wrap (IntKind.u64.wrap a * 2) = a * 2 + 18446744073709551616 := by simp [IntKind.wrap, IntKind.signed, IntKind.bits]; omega
  rw [e1, e2, show BitVec.ofInt 64 (IntKind.u64.wrap (-1)) = BitVec.allOnes 64 by decide, BitVec.xor_allOnes, BitVec.toNat_not, BitVec.toNat_ofInt]
  unfold zig
  rw [if_neg h0]
  simp [IntKind.wrap, IntKind.signed, IntKind.bits]
  omega
theorem zig_u64 {a : Int} (ha : I64 a) : U64 (zig a : Int) := by
 have := zig_lt a ha
 unfold U64
 omega
set_option maxRecDepth 100000 in
theorem int_any (base g : Nat) (v : Value) (xs : List Nat) (a : Int) (w : World) (hw : Wrt w base g 153 v xs) (ha : I64 a) (hlen : xs.length + 9 ≤ 140737488355328) :
  Calls Tryz.prog 75 #[.pointer (some ⟨g, 0, none⟩), .int .i64 a] w fun e w' => e = .returned (.tuple #[]) ∧ ∃ v', Wrt w' base g 153 v' (xs ++ numB (zig a)) ∧ Chw w w' g v v' := by
 have hx := xor_zig ha
 have hc := num_any base g v xs (zig a : Int) w hw (zig_u64 ha) hlen
 rw [Int.toNat_natCast] at hc
 unfold I64 at ha
 go_enter Tryz.func75, Tryz.ntmps75
 go_wp2_with (go_at_call 67; (try rw [hx]); (with_reducible refine hc.mono ?_); rintro e w' ⟨rfl, v', hw', hg'⟩)
 refine bodyPost_end (v := .tuple #[]) (by simp [results, Tryz.results75, go_sem] <;> rfl) rfl ⟨rfl, ?_⟩
 exact ⟨v', hw', hg'⟩
set_option maxRecDepth 100000 in
theorem rint_any (base : Nat) (v : Value) (xs : List Nat) (a : Int) (w : World) (hw : Row w base v xs) (hbase : base ≤ w.heap.size) (ha : I64 a) (hlen : xs.length + 9 ≤ 140737488355328) :
  Calls Tryz.prog 78 #[v, .int .i64 a] w fun e w' => ∃ v', e = .returned v' ∧ Row w' base v' (xs ++ numB (zig a)) ∧ Chg w w' v v' := by
 have hc := rnum_any base v xs (zig a : Int) w hw hbase (zig_u64 ha) hlen
 rw [Int.toNat_natCast] at hc
 unfold I64 at ha
 by_cases h0 : a < 0
 ·have hx : 2 * -(a + 1) + 1 = (zig a : Int) := by unfold zig; rw [if_neg (by omega)]; omega
  go_enter Tryz.func78, Tryz.ntmps78
  go_wp2_with (go_at_call 71; (try rw [hx]); (with_reducible refine hc.mono ?_); rintro e w' ⟨v', rfl, hw', hg'⟩)
  refine bodyPost_ret (v := v') (by simp [results, Tryz.results78, go_sem] <;> rfl) rfl ⟨_, rfl, hw', hg'⟩
 ·have hx : 2 * a = (zig a : Int) := by unfold zig; rw [if_pos (by omega)]; omega
  go_enter Tryz.func78, Tryz.ntmps78
  go_wp2_with (go_at_call 71; (try rw [hx]); (with_reducible refine hc.mono ?_); rintro e w' ⟨v', rfl, hw', hg'⟩)
  refine bodyPost_ret (v := v') (by simp [results, Tryz.results78, go_sem] <;> rfl) rfl ⟨_, rfl, hw', hg'⟩
end Go.Proofs.YtjhcgnmibnjocaaGreat

namespace Go.Proofs.YtjhcgnmibnjocaaGreat
open Go.RowKit
theorem strCells_nums (s : ByteArray) : Lib.strCells s = u8s (numsOf s) := by simp [Lib.strCells, u8s, numsOf]
theorem app_text {P : Program} {w : World} {ops : Array Oper} {rest : List Oper} {o : Oper} {a : Act} {Q : Exit → Act → World → Prop} (hgd : o.guard = none) (sl x : Operand) (t u : TypeId)
  (ho : o.op = .call { callee := .builtin .append, args := #[sl, x], argTypes := #[t, u] }) (ht : P.underlying t = some (.slice 5)) (hu : P.underlying u = some .string) (hinfo : (P.info? 5).map (fun i => (i.zero, i.size, i.bytes)) = some (some (.int .u8 0), 1, 1))
  (base : Nat) (v : Value) (xs : List Nat) (s : ByteArray) (hs : a.eval sl = v) (hown : Row w base v xs) (hx : a.eval x = .string s) (hlen : xs.length + s.size ≤ 140737488355328) (hbase : base ≤ w.heap.size)
  (h : ∀ v' w', Row w' base v' (xs ++ numsOf s) → Chg w w' v v' → wpList P ops Q rest (a.put o.dst v') w') :
  wpList P ops Q (o :: rest) a w := by
 obtain ⟨i0, hi, hz0, hz1, hz2⟩ := info_parts hinfo
 have hm : xs.length + s.size ≤ maxLen := by unfold maxLen; omega
 refine wpList_plain hgd fun K hK => ?_
 have main : ∃ v' w', (Builtin.append_ #[t, u] o.type #[v, .string s]).run P w = .ok v' w' ∧ Row w' base v' (xs ++ numsOf s) ∧ Chg w w' v v' := by
  obtain ⟨v', w', hr, h2, h3, h4⟩ := Lib.run_append_own_string (P := P) w base t u o.type 5 i0 ht hu hi hz0 hz1 hz2 v xs.length (u8s xs) hown s hm hlen hbase
  refine ⟨v', w', hr, ?_, h3.os, h3.tape, h3.output, h3.size, fun k hk hv => h3.block k hk (Ne.symm hv), ?_⟩
  ·unfold Row
   rw [List.length_append, numsOf_length, u8s_append, ← strCells_nums]
   exact h2
  ·rcases hown.2 with ⟨rfl, h0⟩ | ⟨g, cap, cur, rfl, hbg, hg, hnc, hcm, hcs, htake⟩
   ·obtain ⟨v2, w2, hr', h2', _⟩ := Lib.run_append_own_string (P := P) w w.heap.size t u o.type 5 i0 ht hu hi hz0 hz1 hz2 (.slice none 0 0) xs.length (u8s xs) ⟨hown.1, .inl ⟨rfl, h0⟩⟩ s hm hlen (Nat.le_refl _)
    rw [hr] at hr'
    cases hr'
    rcases h2'.2 with ⟨rfl, _⟩ | ⟨g', _, _, rfl, hb', _⟩
    ·exact .inl rfl
    ·exact .inr ⟨g', rfl, hb'⟩
   ·by_cases hroom : xs.length + s.size ≤ cap
    ·have hr' := Lib.run_append_room_string (P := P) w t u o.type 5 i0 ht hu hi hz1 g xs.length cap cur hg s hroom (by omega)
     rw [hr] at hr'
     cases hr'
     exact .inl rfl
    ·have hxl : (u8s xs).length = xs.length := u8s_length xs
     have holds : ∀ j u, (u8s xs)[j]? = some u → w.cell? ((⟨g, 0, none⟩ : Addr).add j) = some u := World.ownsRow.cells hown (g := g) rfl
     have hr' := Lib.run_append_grow_string (P := P) w t u o.type 5 i0 (.int .u8 0) ht hu hi hz0 ⟨g, 0, none⟩ xs.length cap (u8s xs) (by rw [hz1, hxl, Nat.mul_one]) holds s (by omega) (by omega) (by rw [hz2]; exact growslice_fits (by omega) (by omega))
     rw [hr] at hr'
     cases hr'
     exact .inr ⟨w.heap.size, rfl, Nat.le_refl _⟩
 obtain ⟨v', w', hr, h2, h3⟩ := main
 unfold Oper.wp execOp
 simp only [ho, resolve, invoke, builtin, Sem.run_bind, Sem.run_pure, Result.andThen_ok, List.map_toArray, List.map_cons, List.map_nil, hs, hx, hr]
 exact hK _ _ (h v' w' h2 h3)
theorem numsOf_get (s : ByteArray) {j : Nat} (h : j < s.size) : (numsOf s)[j]? = some (s[j]'h).toNat := by
 unfold numsOf
 rw [List.getElem?_map, List.getElem?_eq_getElem (by rw [Array.length_toList]; exact h)]
 rfl
def textB (s : ByteArray) : List Nat := numB s.size ++ numsOf s
set_option maxRecDepth 100000 in
set_option maxHeartbeats 1000000 in
theorem text_any (base g : Nat) (v : Value) (xs : List Nat) (s : ByteArray) (w : World) (hw : Wrt w base g 153 v xs) (hlen : xs.length + 9 + s.size ≤ 140737488355328) :
  Calls Tryz.prog 96 #[.pointer (some ⟨g, 0, none⟩), .string s] w fun e w' => e = .returned (.tuple #[]) ∧ ∃ v', Wrt w' base g 153 v' (xs ++ textB s) ∧ Chw w w' g v v' := by
 have hc := num_any base g v xs (s.size : Int) w hw (by unfold U64; omega) (by omega)
 rw [Int.toNat_natCast] at hc
 have hk := numB_le s.size (by omega)
 have hs63 : (s.size : Int) ≤ 9223372036854775807 := by omega
 go_enter Tryz.func96, Tryz.ntmps96
 go_wp2_with (first | (go_at_call 67; (with_reducible refine hc.mono ?_); rintro e w1 ⟨rfl, v1, hw1, hg1⟩; have c1 := hw1.blk.cell; have f1 := hw1.blk.frozen; have l1 := hw1.blk.lt) | (at_builtin; go_must (refine app_text rfl (.tmp 15) (.tmp 16) 36 9 rfl Tryz.underlying36 Tryz.underlying9 infoU8 base _ (_) (s) rfl hw1.row rfl ?c1 ?c2 ?_)))
 case c1 => simp; omega
 case c2 => have := hw1.ge; omega
 intro v2 w2 hr2 hc2
 have c2 := (hw1.chg hc2).cell
 have f2 := (hw1.chg hc2).frozen
 obtain ⟨hw3, hg3⟩ := hw1.set_ hc2 hr2
 obtain ⟨A2, n2, k2, rfl⟩ := hr2.shape
 clear c1 f1
 go_wp2
 refine bodyPost_end (v := .tuple #[]) (by simp [results, Tryz.results96, go_sem] <;> rfl) rfl ⟨rfl, ?_⟩
 exact ⟨_, by unfold textB; simpa using hw3, hg1.trans hg3⟩
set_option maxRecDepth 100000 in
set_option maxHeartbeats 1000000 in
theorem rtext_any (base : Nat) (v : Value) (xs : List Nat) (s : ByteArray) (w : World) (hw : Row w base v xs) (hbase : base ≤ w.heap.size) (hlen : xs.length + 9 + s.size ≤ 140737488355328) :
  Calls Tryz.prog 97 #[v, .string s] w fun e w' => ∃ v', e = .returned v' ∧ Row w' base v' (xs ++ textB s) ∧ Chg w w' v v' := by
 have hc := rnum_any base v xs (s.size : Int) w hw hbase (by unfold U64; omega) (by omega)
 rw [Int.toNat_natCast] at hc
 have hk := numB_le s.size (by omega)
 have hs63 : (s.size : Int) ≤ 9223372036854775807 := by omega
 go_enter Tryz.func97, Tryz.ntmps97
 go_wp2_with (first | (go_at_call 71; (with_reducible refine hc.mono ?_); rintro e w1 ⟨v1, rfl, hr1, hg1⟩))
 go_loopw [0, 5] (fun vo vi wr => ∃ j : Nat, j ≤ s.size ∧ vi = .int .i64 (j : Int) ∧ Row wr base vo (xs ++ numB s.size ++ (numsOf s).take j) ∧ Chg w wr v vo) (fun _ vi _ => ((s.size : Int) - intOf vi).toNat)
 case atStart => exact ⟨0, by omega, rfl, by simpa using hr1, hg1⟩
 case round =>
  clear hr1 hg1 hc
  obtain ⟨j, hj, rfl, hr1, hg1⟩ := hrel
  obtain ⟨wo, rfl⟩ : ∃ wo : World, wo = wr := ⟨_, rfl⟩
  have hsz := hg1.size
  by_cases hlt : j < s.size
  ·have hj' : (j : Int) < s.size := by omega
   have hts : (numsOf s).take (j + 1) = (numsOf s).take j ++ [(s[j]'hlt).toNat] := by rw [List.take_add_one, numsOf_get s hlt]; rfl
   have HT := hide hts
   clear hts
   go_wp2_with (at_builtin; go_must (refine app_byte rfl (.tmp 17) (.tmp 21) 36 rfl Tryz.underlying36 infoU8 base _ (_) ((s[j]'hlt).toNat) _ ?c0 rfl hr1 _ (by first | rfl | simp [World.size_ext]) rfl ?c1 ?c2 ?_))
   case c0 => rfl
   case c1 => simp [numsOf_length]; omega
   case c2 => omega
   intro v' w1 hr2 hc2
   go_wp2
   go_roundw
   case rel => exact ⟨j + 1, by omega, by go_num, by rw [HT.out]; simpa using hr2, hg1.trans hc2⟩
   case measure => simp [intOf]; omega
  ·obtain rfl : j = s.size := by omega
   rw [List.take_of_length_le (by rw [numsOf_length]; exact Nat.le_refl _)] at hr1
   go_wp2
   refine bodyPost_ret (v := _) (by simp [results, Tryz.results97, go_sem] <;> rfl) rfl ⟨_, rfl, by unfold textB; rw [← List.append_assoc]; exact hr1, hg1⟩
end Go.Proofs.YtjhcgnmibnjocaaGreat

namespace Go.Proofs.YtjhcgnmibnjocaaGreat
open Go.RowKit
structure Sees (w : World) (b : Nat) (A : Option Addr) (xs : List Nat) : Prop where
 lt : b < w.heap.size
 ex : 0 < xs.length → ∃ o, A = some ⟨b, o, none⟩ ∧ ∀ (j x : Nat), xs[j]? = some x → w.cell? ⟨b, o + j, none⟩ = some (.int .u8 (x : Int))
 by_ : ∀ x ∈ xs, x < 256
theorem Sees.keep {w w' : World} {b : Nat} {A : Option Addr} {xs : List Nat} (h : Sees w b A xs) (hs : b < w'.heap.size) (hk : w'.heap[b]? = w.heap[b]?) : Sees w' b A xs :=
 ⟨hs, fun h0 => by
  obtain ⟨o, e, hc⟩ := h.ex h0
  refine ⟨o, e, fun j x hx => ?_⟩
  rw [← hc j x hx]
  simp only [World.cell?, hk], h.by_⟩
theorem Sees.below {w w' : World} {b : Nat} {A : Option Addr} {xs : List Nat} (h : Sees w b A xs) (hb : Below w.heap.size w w') : Sees w' b A xs :=
 h.keep (Nat.lt_of_lt_of_le h.lt hb.size) (hb.block b h.lt)
theorem Sees.only {w w' : World} {b g : Nat} {A : Option Addr} {xs : List Nat} (h : Sees w b A xs) (ho : Only w w' g) (hne : b ≠ g) : Sees w' b A xs :=
 h.keep (Nat.lt_of_lt_of_le h.lt ho.size) (ho.block b h.lt hne)
theorem Sees.reads {w : World} {b : Nat} {A : Option Addr} {xs : List Nat} (h : Sees w b A xs) : Reads w w.heap.size 1 A xs.length (u8s xs) := by
 refine ⟨by rw [u8s_length, Nat.mul_one], fun h0 => ?_⟩
 obtain ⟨o, rfl, hc⟩ := h.ex h0
 refine ⟨_, rfl, h.lt, fun j u hu => ?_⟩
 rw [add_plain]
 rw [u8s_get] at hu
 cases hx : xs[j]? with
 | none => rw [hx] at hu; cases hu
 | some x =>
  rw [hx] at hu
  simp only [Option.map_some, Option.some.injEq] at hu
  rw [← hu]
  exact hc j x hx
theorem Sees.nil {w : World} {b : Nat} (A : Option Addr) (h : b < w.heap.size) : Sees w b A [] := ⟨h, fun h0 => absurd h0 (by simp), fun x hx => by cases hx⟩
theorem Sees.take {w : World} {b : Nat} {A : Option Addr} {xs : List Nat} (h : Sees w b A xs) (n : Nat) : Sees w b A (xs.take n) :=
 ⟨h.lt, (fun h0 => by
  obtain ⟨o, e, hc⟩ := h.ex (by simp at h0; omega)
  refine ⟨o, e, fun j x hx => hc j x ?_⟩
  rw [List.getElem?_take] at hx
  split at hx
  ·exact hx
  ·cases hx), fun x hx => h.by_ x (List.mem_of_mem_take hx)⟩
theorem Sees.drop {w : World} {b o : Nat} {xs : List Nat} (h : Sees w b (some ⟨b, o, none⟩) xs) (n : Nat) : Sees w b (some ⟨b, o + n, none⟩) (xs.drop n) :=
 ⟨h.lt, (fun h0 => by
  obtain ⟨o', e, hc⟩ := h.ex (by simp at h0; omega)
  cases e
  refine ⟨o + n, rfl, fun j x hx => ?_⟩
  rw [Nat.add_assoc]
  exact hc _ x (by rw [List.getElem?_drop] at hx; exact hx)), fun x hx => h.by_ x (List.mem_of_mem_drop hx)⟩
structure Rdr (w : World) (g b : Nat) (xs : List Nat) (e : Int) : Prop where
 ex : ∃ A c, Blk w g 160 #[.slice A xs.length c, .int .i64 e] ∧ Sees w b A xs ∧ xs.length ≤ c ∧ c ≤ maxLen
 ne : b ≠ g
theorem Rdr.below {w w' : World} {g b : Nat} {xs : List Nat} {e : Int} (h : Rdr w g b xs e) (hb : Below w.heap.size w w') : Rdr w' g b xs e := by
 obtain ⟨⟨A, c, h1, h2, h3⟩, hn⟩ := h
 exact ⟨⟨A, c, h1.below hb h1.lt, h2.below hb, h3⟩, hn⟩
theorem Rdr.only {w w' : World} {g b k : Nat} {xs : List Nat} {e : Int} (h : Rdr w g b xs e) (ho : Only w w' k) (h1 : g ≠ k) (h2 : b ≠ k) : Rdr w' g b xs e := by
 obtain ⟨⟨A, c, h3, h4, h5⟩, hn⟩ := h
 exact ⟨⟨A, c, Blk.only h3 ho h1, Sees.only h4 ho h2, h5⟩, hn⟩
theorem Rdr.lt {w : World} {g b : Nat} {xs : List Nat} {e : Int} (h : Rdr w g b xs e) : g < w.heap.size ∧ b < w.heap.size := by
 obtain ⟨⟨A, c, h3, h4, h5⟩, hn⟩ := h
 exact ⟨h3.lt, h4.lt⟩
theorem Rdr.by_ {w : World} {g b : Nat} {xs : List Nat} {e : Int} (h : Rdr w g b xs e) : ∀ x ∈ xs, x < 256 := by
 obtain ⟨⟨A, c, h3, h4, h5⟩, hn⟩ := h
 exact h4.by_
structure Rest where
 xs : List Nat
 e : Int
def takeP (n : Nat) (r : Rest) : List Nat × Rest := if r.e ≠ 0 then ([], r) else if r.xs.length < n then ([], ⟨[], 9⟩) else (r.xs.take n, ⟨r.xs.drop n, 0⟩)
def failP (e : Int) (r : Rest) : Rest := ⟨[], if r.e = 0 then e else r.e⟩
theorem fail_any (g b : Nat) (xs : List Nat) (e0 e : Int) (w : World) (h : Rdr w g b xs e0) :
  Calls Tryz.prog 99 #[.pointer (some ⟨g, 0, none⟩), .int .i64 e] w fun e' w' => e' = .returned (.tuple #[]) ∧ Rdr w' g b (failP e ⟨xs, e0⟩).xs (failP e ⟨xs, e0⟩).e ∧ Only w w' g := by
 obtain ⟨⟨A, c, h1, h2, h3, h4⟩, hn⟩ := h
 have c1 := h1.cell
 have f1 := h1.frozen
 have l1 := h1.lt
 unfold failP
 simp only
 by_cases h0 : e0 = 0
 ·subst h0
  rw [if_pos rfl]
  go_enter Tryz.func99, Tryz.ntmps99
  go_wp2
  refine bodyPost_end (v := .tuple #[]) (by simp [results, Tryz.results99, go_sem] <;> rfl) rfl ⟨rfl, ?_⟩
  exact ⟨⟨⟨none, 0, by (repeat' (first | with_reducible (first | exact h1 | refine Blk.ext ?_ _ | refine Blk.alloc ?_ _ | apply Blk.set_to | refine Blk.far ?_ ?_ _) | rfl | (simp [World.size_ext]; done) | (simp [World.size_ext]; omega))), (Sees.nil none h2.lt).only (by (repeat' (first | with_reducible exact h1 | with_reducible exact Only.refl _ _ | with_reducible refine Only.set_ ?_ ?_ _ | with_reducible refine Only.alloc ?_ _ | with_reducible refine Only.ext ?_ _ | exact .inl rfl | (right; first | omega | (simp [World.size_ext]; done) | (simp [World.size_ext]; omega))))) hn, Nat.le_refl _, by unfold maxLen; omega⟩, hn⟩, by (repeat' (first | with_reducible exact h1 | with_reducible exact Only.refl _ _ | with_reducible refine Only.set_ ?_ ?_ _ | with_reducible refine Only.alloc ?_ _ | with_reducible refine Only.ext ?_ _ | exact .inl rfl | (right; first | omega | (simp [World.size_ext]; done) | (simp [World.size_ext]; omega))))⟩
 ·rw [if_neg h0]
  have h0' : (e0 == 0) = false := by simpa using h0
  go_enter Tryz.func99, Tryz.ntmps99
  go_wp2
  refine bodyPost_end (v := .tuple #[]) (by simp [results, Tryz.results99, go_sem] <;> rfl) rfl ⟨rfl, ?_⟩
  exact ⟨⟨⟨none, 0, by (repeat' (first | with_reducible (first | exact h1 | refine Blk.ext ?_ _ | refine Blk.alloc ?_ _ | apply Blk.set_to | refine Blk.far ?_ ?_ _) | rfl | (simp [World.size_ext]; done) | (simp [World.size_ext]; omega))), (Sees.nil none h2.lt).only (by (repeat' (first | with_reducible exact h1 | with_reducible exact Only.refl _ _ | with_reducible refine Only.set_ ?_ ?_ _ | with_reducible refine Only.alloc ?_ _ | with_reducible refine Only.ext ?_ _ | exact .inl rfl | (right; first | omega | (simp [World.size_ext]; done) | (simp [World.size_ext]; omega))))) hn, Nat.le_refl _, by unfold maxLen; omega⟩, hn⟩, by (repeat' (first | with_reducible exact h1 | with_reducible exact Only.refl _ _ | with_reducible refine Only.set_ ?_ ?_ _ | with_reducible refine Only.alloc ?_ _ | with_reducible refine Only.ext ?_ _ | exact .inl rfl | (right; first | omega | (simp [World.size_ext]; done) | (simp [World.size_ext]; omega))))⟩
set_option maxHeartbeats 1000000 in
theorem take_any (g b : Nat) (xs : List Nat) (e : Int) (n : Nat) (w : World) (h : Rdr w g b xs e) (hm : n ≤ 9223372036854775807) :
  Calls Tryz.prog 98 #[.pointer (some ⟨g, 0, none⟩), .int .i64 (n : Int)] w fun e' w' => ∃ A c, e' = .returned (.slice A (takeP n ⟨xs, e⟩).1.length c) ∧ Sees w' b A (takeP n ⟨xs, e⟩).1 ∧ (takeP n ⟨xs, e⟩).1.length ≤ c ∧ c ≤ maxLen ∧
   Rdr w' g b (takeP n ⟨xs, e⟩).2.xs (takeP n ⟨xs, e⟩).2.e ∧ Only w w' g := by
 have hr := h
 obtain ⟨⟨A, c, h1, h2, h3, h4⟩, hn⟩ := h
 have c1 := h1.cell
 have f1 := h1.frozen
 have l1 := h1.lt
 have hlm : c ≤ 9223372036854775807 := by unfold maxLen at h4; exact h4
 by_cases h0 : e = 0
 ·subst h0
  by_cases hl : xs.length < n
  ·have hq : takeP n ⟨xs, 0⟩ = ([], ⟨[], 9⟩) := by unfold takeP; rw [if_neg (by simp), if_pos hl]
   rw [hq]
   have hl' : (xs.length : Int) < n := by omega
   go_enter Tryz.func98, Tryz.ntmps98
   go_wp2_with (go_at_call 99; (with_reducible refine (fail_any _ _ _ _ _ _ hr).mono ?_); rintro e w1 ⟨rfl, hr1, ho1⟩)
   go_ret
   exact ⟨none, 0, rfl, Sees.nil none hr1.lt.2, Nat.le_refl _, by unfold maxLen; omega, hr1, ho1⟩
  ·have hq : takeP n ⟨xs, 0⟩ = (xs.take n, ⟨xs.drop n, 0⟩) := by unfold takeP; rw [if_neg (by simp), if_neg hl]
   rw [hq]
   have hl' : (n : Int) ≤ xs.length := by omega
   have hlt : (xs.take n).length = n := by rw [List.length_take]; omega
   have hld : (xs.drop n).length = xs.length - n := by rw [List.length_drop]
   have hcn : (n : Int) ≤ c := by omega
   rcases Nat.eq_zero_or_pos xs.length with hz | hz
   ·obtain rfl : xs = [] := List.eq_nil_of_length_eq_zero hz
    obtain rfl : n = 0 := by simp at hl; omega
    clear hl' hlt hld hcn
    go_enter Tryz.func98, Tryz.ntmps98
    go_wp2
    refine bodyPost_ret (v := _) (by simp [results, Tryz.results98, go_sem] <;> rfl) rfl ?_
    exact ⟨_, c, rfl, Sees.nil _ (by simpa using h2.lt), by simp, h4, ⟨⟨_, c, by (repeat' (first | with_reducible (first | exact h1 | refine Blk.ext ?_ _ | refine Blk.alloc ?_ _ | apply Blk.set_to | refine Blk.far ?_ ?_ _) | rfl | (simp [World.size_ext]; done) | (simp [World.size_ext]; omega))), Sees.nil _ (by simpa using h2.lt), by simp, h4⟩, hn⟩, by (repeat' (first | with_reducible exact h1 | with_reducible exact Only.refl _ _ | with_reducible refine Only.set_ ?_ ?_ _ | with_reducible refine Only.alloc ?_ _ | with_reducible refine Only.ext ?_ _ | exact .inl rfl | (right; first | omega | (simp [World.size_ext]; done) | (simp [World.size_ext]; omega))))⟩
   ·obtain ⟨o, rfl, hc⟩ := h2.ex hz
    have hd := h2.drop n
    clear hc
    by_cases hcc : c = n
    ·subst hcc
     have hxl : xs.length = c := by omega
     rw [hxl] at h1
     have c1 := h1.cell
     have f1 := h1.frozen
     clear hl' hlt hcn h3
     go_enter Tryz.func98, Tryz.ntmps98
     go_wp2
     refine bodyPost_ret (v := _) (by simp [results, Tryz.results98, go_sem] <;> rfl) rfl ?_
     have hdn : xs.drop c = [] := List.drop_of_length_le (by omega)
     rw [hdn, List.take_of_length_le (by omega : xs.length ≤ c)]
     refine ⟨some ⟨b, o, none⟩, c, by rw [hxl], h2.only (by (repeat' (first | with_reducible exact h1 | with_reducible exact Only.refl _ _ | with_reducible refine Only.set_ ?_ ?_ _ | with_reducible refine Only.alloc ?_ _ | with_reducible refine Only.ext ?_ _ | exact .inl rfl | (right; first | omega | (simp [World.size_ext]; done) | (simp [World.size_ext]; omega))))) hn, by omega, h4, ⟨⟨some ⟨b, o, none⟩, 0, by (repeat' (first | with_reducible (first | exact h1 | refine Blk.ext ?_ _ | refine Blk.alloc ?_ _ | apply Blk.set_to | refine Blk.far ?_ ?_ _) | rfl | (simp [World.size_ext]; done) | (simp [World.size_ext]; omega))), Sees.nil _ (by simpa using h2.lt), by simp, by omega⟩, hn⟩, by (repeat' (first | with_reducible exact h1 | with_reducible exact Only.refl _ _ | with_reducible refine Only.set_ ?_ ?_ _ | with_reducible refine Only.alloc ?_ _ | with_reducible refine Only.ext ?_ _ | exact .inl rfl | (right; first | omega | (simp [World.size_ext]; done) | (simp [World.size_ext]; omega))))⟩
    ·have hcc' : (c = n) = False := eq_false hcc
     go_enter Tryz.func98, Tryz.ntmps98
     go_wp2
     refine bodyPost_ret (v := _) (by simp [results, Tryz.results98, go_sem] <;> rfl) rfl ?_
     refine ⟨some ⟨b, o, none⟩, c, by rw [hlt], (h2.take n).only (by (repeat' (first | with_reducible exact h1 | with_reducible exact Only.refl _ _ | with_reducible refine Only.set_ ?_ ?_ _ | with_reducible refine Only.alloc ?_ _ | with_reducible refine Only.ext ?_ _ | exact .inl rfl | (right; first | omega | (simp [World.size_ext]; done) | (simp [World.size_ext]; omega))))) hn, by omega, h4, ⟨⟨some ⟨b, o + n, none⟩, c - n, by rw [hld]; (repeat' (first | with_reducible (first | exact h1 | refine Blk.ext ?_ _ | refine Blk.alloc ?_ _ | apply Blk.set_to | refine Blk.far ?_ ?_ _) | rfl | (simp [World.size_ext]; done) | (simp [World.size_ext]; omega))), hd.only (by (repeat' (first | with_reducible exact h1 | with_reducible exact Only.refl _ _ | with_reducible refine Only.set_ ?_ ?_ _ | with_reducible refine Only.alloc ?_ _ | with_reducible refine Only.ext ?_ _ | exact .inl rfl | (right; first | omega | (simp [World.size_ext]; done) | (simp [World.size_ext]; omega))))) hn, by omega, by omega⟩, hn⟩, by (repeat' (first | with_reducible exact h1 | with_reducible exact Only.refl _ _ | with_reducible refine Only.set_ ?_ ?_ _ | with_reducible refine Only.alloc ?_ _ | with_reducible refine Only.ext ?_ _ | exact .inl rfl | (right; first | omega | (simp [World.size_ext]; done) | (simp [World.size_ext]; omega))))⟩
 ·have hq : takeP n ⟨xs, e⟩ = ([], ⟨xs, e⟩) := by unfold takeP; rw [if_pos h0]
  rw [hq]
  have h0' : (e != 0) = true := by simpa using h0
  go_enter Tryz.func98, Tryz.ntmps98
  go_wp2
  go_ret
  exact ⟨none, 0, rfl, Sees.nil none hr.lt.2, Nat.le_refl _, by unfold maxLen; omega, hr, Only.refl _ _⟩
end Go.Proofs.YtjhcgnmibnjocaaGreat

namespace Go.Proofs.YtjhcgnmibnjocaaGreat
open Go.RowKit
def numP (r : Rest) : Nat × Rest :=
 match (takeP 1 r).1 with
 | [] => (0, (takeP 1 r).2)
 | c :: _ => if c < 248 then (c, (takeP 1 r).2) else
  if (takeP (c - 247) (takeP 1 r).2).1 = [] then (0, (takeP (c - 247) (takeP 1 r).2).2) else
  if num (takeP (c - 247) (takeP 1 r).2).1 < 248 ∨ longN (num (takeP (c - 247) (takeP 1 r).2).1) ≠ c - 247 then (0, failP 10 (takeP (c - 247) (takeP 1 r).2).2) else (num (takeP (c - 247) (takeP 1 r).2).1, (takeP (c - 247) (takeP 1 r).2).2)
theorem takeP_err {n : Nat} {r : Rest} (h : r.e ≠ 0) : takeP n r = ([], r) := by unfold takeP; rw [if_pos h]
theorem takeP_short {n : Nat} {xs : List Nat} (h : xs.length < n) : takeP n ⟨xs, 0⟩ = ([], ⟨[], 9⟩) := by unfold takeP; rw [if_neg (by simp), if_pos h]
theorem takeP_ok {n : Nat} {xs : List Nat} (h : n ≤ xs.length) : takeP n ⟨xs, 0⟩ = (xs.take n, ⟨xs.drop n, 0⟩) := by unfold takeP; rw [if_neg (by simp), if_neg (by simp only; omega)]
theorem numP_err {r : Rest} (h : r.e ≠ 0) : numP r = (0, r) := by unfold numP; simp [takeP_err h]
theorem numP_short : numP ⟨[], 0⟩ = (0, ⟨[], 9⟩) := by unfold numP; rw [takeP_short (by simp)]
theorem takeP_cons (x : Nat) (t : List Nat) : takeP 1 ⟨x :: t, 0⟩ = ([x], ⟨t, 0⟩) := by rw [takeP_ok (by simp)]; rfl
theorem numP_low {x : Nat} (t : List Nat) (h : x < 248) : numP ⟨x :: t, 0⟩ = (x, ⟨t, 0⟩) := by unfold numP; simp [takeP_cons, h]
theorem numP_short2 {x : Nat} {t : List Nat} (h : ¬x < 248) (hl : t.length < x - 247) : numP ⟨x :: t, 0⟩ = (0, ⟨[], 9⟩) := by
 unfold numP
 simp only [takeP_cons]
 rw [if_neg h, takeP_short hl, if_pos rfl]
theorem numP_long {x : Nat} {t : List Nat} (h : ¬x < 248) (hl : x - 247 ≤ t.length) : numP ⟨x :: t, 0⟩ =
  if num (t.take (x - 247)) < 248 ∨ longN (num (t.take (x - 247))) ≠ x - 247 then (0, ⟨[], 10⟩) else (num (t.take (x - 247)), ⟨t.drop (x - 247), 0⟩) := by
 unfold numP
 simp only [takeP_cons]
 rw [if_neg h]
 have hk : 0 < x - 247 := by omega
 generalize x - 247 = k at *
 have hne : ¬t.take k = [] := fun e => by
  have h1 : (t.take k).length = 0 := by rw [e]; rfl
  rw [List.length_take] at h1
  omega
 rw [takeP_ok hl, if_neg hne]
 have e1 : failP 10 ⟨t.drop k, 0⟩ = ⟨[], 10⟩ := by unfold failP; rw [if_pos rfl]
 rw [e1]
set_option maxRecDepth 100000 in
theorem or_u64_8 (m x : Nat) (hm : m < 72057594037927936) (hx : x < 256) : bits .or .u64 ((m : Int) * 256) (x : Int) = ((m * 256 + x : Nat) : Int) := by
 have h1 : m <<< 8 + x = m <<< 8 ||| x := Nat.shiftLeft_add_eq_or_of_lt (by omega) _
 rw [Nat.shiftLeft_eq] at h1
 show IntKind.u64.wrap ((BitVec.ofInt 64 ((m : Int) * 256) ||| BitVec.ofInt 64 (x : Int)).toNat : Int) = _
 have e1 : (m * 256 : Nat) % 2 ^ 64 = m * 256 := Nat.mod_eq_of_lt (by omega)
 have e2 : x % 2 ^ 64 = x := Nat.mod_eq_of_lt (by omega)
 rw [show ((m : Int) * 256) = ((m * 256 : Nat) : Int) by omega, BitVec.ofInt_natCast, BitVec.ofInt_natCast, BitVec.toNat_or, BitVec.toNat_ofNat, BitVec.toNat_ofNat, e1, e2]
 have h2 : m * 256 ||| x = m * 256 + x := h1.symm
 rw [h2]
 show ((m * 256 + x : Nat) : Int) % 18446744073709551616 = _
 omega
set_option maxRecDepth 100000 in
theorem num_take_lt {l : List Nat} (hb : ∀ x ∈ l, x < 256) {i : Nat} (hi : i < 8) : num (l.take i) < 72057594037927936 := by
 have h1 := num_lt (l.take i) (fun x hx => hb x (List.mem_of_mem_take hx))
 have h3 : (l.take i).length ≤ 7 := by rw [List.length_take]; omega
 have h4 := Nat.pow_le_pow_right (show 0 < 256 by omega) h3
 omega
set_option maxRecDepth 100000 in
theorem num_lt64 {l : List Nat} (hb : ∀ x ∈ l, x < 256) (hi : l.length ≤ 8) : num l < 18446744073709551616 := by
 have h1 := num_lt l hb
 have h4 := Nat.pow_le_pow_right (show 0 < 256 by omega) hi
 omega
set_option maxRecDepth 100000 in
set_option maxHeartbeats 4000000 in
theorem rdnum_any (g b : Nat) (xs : List Nat) (e : Int) (w : World) (h : Rdr w g b xs e) :
  Calls Tryz.prog 83 #[.pointer (some ⟨g, 0, none⟩)] w fun e' w' => e' = .returned (.int .u64 ((numP ⟨xs, e⟩).1 : Nat)) ∧ Rdr w' g b (numP ⟨xs, e⟩).2.xs (numP ⟨xs, e⟩).2.e ∧ Only w w' g := by
 have ht := take_any g b xs e 1 w h (by omega)
 rw [show ((1 : Nat) : Int) = 1 from rfl] at ht
 by_cases h0 : e = 0
 ·subst h0
  match xs, h, ht with
  | [], h, ht =>
   rw [numP_short]
   rw [takeP_short (by simp)] at ht
   dsimp only [List.length_nil] at ht
   go_enter Tryz.func83, Tryz.ntmps83
   go_wp2_with (go_at_call 98; (with_reducible refine ht.mono ?_); rintro e w1 ⟨A1, k1, rfl, hs1, hk1, hm1, hr1, ho1⟩)
   go_ret
   exact ⟨rfl, hr1, ho1⟩
  | x :: t, h, ht =>
   rw [takeP_cons] at ht
   dsimp only [List.length_cons, List.length_nil] at ht
   have hx := h.by_ x (by simp)
   by_cases hlow : x < 248
   ·rw [numP_low t hlow]
    have hlow' : (x : Int) < 248 := by omega
    go_enter Tryz.func83, Tryz.ntmps83
    go_wp2_with (go_at_call 98; (with_reducible refine ht.mono ?_); rintro e w1 ⟨A1, k1, rfl, hs1, hk1, hm1, hr1, ho1⟩; obtain ⟨o1, rfl, hc1⟩ := hs1.ex (by simp); have c1 := hc1 0 x rfl; rw [Nat.add_zero] at c1)
    go_ret
    exact ⟨rfl, hr1, ho1⟩
   ·have hlow' : ¬(x : Int) < 248 := by omega
    have e247 : ((x - 247 : Nat) : Int) = (x : Int) - 247 := by omega
    have hx' : (x : Int) < 256 := by omega
    have ht2 := fun w1 (h1 : Rdr w1 g b t 0) => take_any g b t 0 (x - 247) w1 h1 (by omega)
    simp only [e247] at ht2
    by_cases hl : x - 247 ≤ t.length
    ·have HR := hide (numP_long hlow hl)
     generalize numP ⟨x :: t, 0⟩ = R at *
     simp only [takeP_ok hl] at ht2
     have hqb : ∀ y ∈ t.take (x - 247), y < 256 := fun y hy => h.by_ y (by simp [List.mem_of_mem_take hy])
     have hql : (t.take (x - 247)).length = x - 247 := by rw [List.length_take]; omega
     generalize t.take (x - 247) = q at *
     have hqi : (q.length : Int) = (x : Int) - 247 := by omega
     have hq8 : q.length ≤ 8 := by omega
     have hN := num_lt64 hqb hq8
     have hq0 : ((x : Int) - 247 == 0) = false := beq_false_of_ne (by omega)
     go_enter Tryz.func83, Tryz.ntmps83
     go_wp2_with (first | (go_at_call 98; (with_reducible refine ht.mono ?_); rintro e w1 ⟨A1, k1, rfl, hs1, hk1, hm1, hr1, ho1⟩; obtain ⟨o1, rfl, hc1⟩ := hs1.ex (by simp); have c1 := hc1 0 x rfl; rw [Nat.add_zero] at c1) | (go_at_call 98; (with_reducible refine (ht2 _ hr1).mono ?_); rintro e w2 ⟨A2, k2, rfl, hs2, hk2, hm2, hr2, ho2⟩))
     obtain ⟨o2, rfl, hc2⟩ := hs2.ex (by omega)
     have HQ := hide hql
     have HC := hide hc2
     clear hql hc2
     go_loop [5, 32] (fun n i => ∃ j m : Nat, j ≤ q.length ∧ i = .int .i64 (j : Int) ∧ n = .int .u64 (m : Int) ∧ Hid (m = num (q.take j))) (fun _ i => ((x : Int) - 247 - intOf i).toNat)
     case atStart => exact ⟨0, 0, by omega, rfl, rfl, rfl⟩
     case round =>
      obtain ⟨j, m, hj, rfl, rfl, hm⟩ := hrel
      by_cases hlt : j < q.length
      ·have hjl : (j : Int) < (x : Int) - 247 := by omega
       obtain ⟨y, hy0⟩ : ∃ y, q[j]? = some y := ⟨_, List.getElem?_eq_getElem hlt⟩
       have hy := HC.out j y hy0
       have hyb := hqb y (List.mem_of_getElem? hy0)
       have hts : num (q.take (j + 1)) = num (q.take j) * 256 + y := by rw [List.take_add_one, hy0, ← num_snoc]; rfl
       clear hy0
       have hm7 := num_take_lt hqb (i := j) (by omega)
       rw [← hm.out] at hts hm7
       have HT := hide hts
       clear hts hm
       have HO := hide (or_u64_8 m y hm7 hyb)
       go_wp2
       go_round
       case rel => exact ⟨j + 1, m * 256 + y, by omega, by go_num, by rw [HO.out], HT.out.symm⟩
       case measure => simp [intOf]; omega
      ·obtain rfl : j = q.length := by omega
       have hm2 := hm.out
       rw [List.take_of_length_le (Nat.le_refl _)] at hm2
       subst hm2
       clear hm HC
       have hN' : U64 (num q : Int) := by unfold U64; omega
       have hlong := fun w1 => long_any (num q : Int) w1 hN'
       rw [Int.toNat_natCast] at hlong
       generalize num q = N at *
       have hfl := fail_any g b (t.drop (x - 247)) 0 10 w2 hr2
       rw [show failP 10 ⟨t.drop (x - 247), 0⟩ = ⟨[], 10⟩ by unfold failP; rw [if_pos rfl]] at hfl
       by_cases h1 : N < 248
       ·have hR : R = (0, ⟨[], 10⟩) := by rw [HR.out, if_pos (.inl h1)]
        have HR2 := hide hR
        clear HR hR
        have h1' : (N : Int) < 248 := by omega
        go_wp2_with (first | (go_at_call 99; (with_reducible refine hfl.mono ?_); rintro e w3 ⟨rfl, hr3, ho3⟩))
        go_ret
        rw [HR2.out]
        exact ⟨rfl, hr3, (ho1.trans ho2).trans ho3⟩
       ·have h1' : ¬(N : Int) < 248 := by omega
        by_cases h2 : longN N = x - 247
        ·have hR : R = (N, ⟨t.drop (x - 247), 0⟩) := by rw [HR.out, if_neg (fun h => by rcases h with h | h <;> omega)]
         have HR2 := hide hR
         clear HR hR
         have h2' : ((longN N : Int) != (x : Int) - 247) = false := by rw [bne_eq_false_iff_eq]; omega
         generalize longN N = L at *
         clear h2
         go_wp2_with (first | (go_at_call 94; (with_reducible refine (hlong _).mono ?_); rintro e w3 ⟨rfl, hb3⟩))
         go_ret
         rw [HR2.out]
         exact ⟨rfl, hr2.below hb3, ((ho1.trans ho2).trans (Only.of_below hb3))⟩
        ·have hR : R = (0, ⟨[], 10⟩) := by rw [HR.out, if_pos (.inr h2)]
         have HR2 := hide hR
         clear HR hR
         have h2' : ((longN N : Int) != (x : Int) - 247) = true := by rw [bne_iff_ne]; omega
         generalize longN N = L at *
         clear h2
         go_wp2_with (first | (go_at_call 94; (with_reducible refine (hlong _).mono ?_); rintro e w3 ⟨rfl, hb3⟩; have hfl3 := fail_any g b (t.drop (x - 247)) 0 10 w3 (hr2.below hb3)) | (go_at_call 99; (with_reducible refine hfl3.mono ?_); rintro e w4 ⟨rfl, hr4, ho4⟩))
         go_ret
         rw [HR2.out]
         exact ⟨rfl, hr4, ((ho1.trans ho2).trans (Only.of_below hb3)).trans ho4⟩
    ·rw [numP_short2 hlow (by omega)]
     simp only [takeP_short (show t.length < x - 247 by omega), List.length_nil] at ht2
     go_enter Tryz.func83, Tryz.ntmps83
     go_wp2_with (first | (go_at_call 98; (with_reducible refine ht.mono ?_); rintro e w1 ⟨A1, k1, rfl, hs1, hk1, hm1, hr1, ho1⟩; obtain ⟨o1, rfl, hc1⟩ := hs1.ex (by simp); have c1 := hc1 0 x rfl; rw [Nat.add_zero] at c1) | (go_at_call 98; (with_reducible refine (ht2 _ hr1).mono ?_); rintro e w2 ⟨A2, k2, rfl, hs2, hk2, hm2, hr2, ho2⟩))
     go_loop [5, 32] (fun n i => n = .int .u64 0 ∧ i = .int .i64 0) (fun _ i => 0)
     case atStart => exact ⟨rfl, rfl⟩
     case round =>
      obtain ⟨rfl, rfl⟩ := hrel
      go_wp2
      go_ret
      exact ⟨rfl, hr2, ho1.trans ho2⟩
 ·rw [numP_err h0]
  rw [takeP_err h0] at ht
  dsimp only [List.length_nil] at ht
  go_enter Tryz.func83, Tryz.ntmps83
  go_wp2_with (go_at_call 98; (with_reducible refine ht.mono ?_); rintro e w1 ⟨A1, k1, rfl, hs1, hk1, hm1, hr1, ho1⟩)
  go_ret
  exact ⟨rfl, hr1, ho1⟩
end Go.Proofs.YtjhcgnmibnjocaaGreat

namespace Go.Proofs.YtjhcgnmibnjocaaGreat
open Go.RowKit
def zag (n : Nat) : Int := if n % 2 = 0 then (n / 2 : Nat) else -((n / 2 : Nat) : Int) - 1
theorem zag_zig (a : Int) : zag (zig a) = a := by
 unfold zag zig
 split <;> split <;> omega
theorem numP_lt {r : Rest} (h : ∀ x ∈ r.xs, x < 256) : (numP r).1 < 18446744073709551616 := by
 obtain ⟨xs, e⟩ := r
 by_cases h0 : e = 0
 ·subst h0
  match xs, h with
  | [], h => rw [numP_short]; simp
  | x :: t, h =>
   have hx : x < 256 := h x (by simp)
   by_cases hl : x < 248
   ·rw [numP_low t hl]; simp only; omega
   ·by_cases hs : x - 247 ≤ t.length
    ·rw [numP_long hl hs]
     split
     ·simp
     ·simp only
      exact num_lt64 (fun y hy => h y (by simp [List.mem_of_mem_take hy])) (by rw [List.length_take]; omega)
    ·rw [numP_short2 hl (by omega)]; simp
 ·rw [numP_err h0]; simp
def countP (most : Int) (r : Rest) : Nat × Rest := if most.toNat < (numP r).1 ∨ (most < 0 ∧ (numP r).2.e = 0) then (0, failP 8 (numP r).2) else numP r
theorem xor_zag {n : Nat} (h : n < 18446744073709551616) : bits .xor .i64 ((n : Int) / 2) (wrap64 (-wrap64 (bits .and .u64 (n : Int) 1))) = zag n := by
 have h1 : bits .and .u64 (n : Int) 1 = ((n % 2 : Nat) : Int) := by
  show IntKind.u64.wrap ((BitVec.ofInt 64 (n : Int) &&& BitVec.ofInt 64 1).toNat : Int) = _
  rw [BitVec.ofInt_natCast, show BitVec.ofInt 64 1 = 1#64 by rfl, BitVec.toNat_and, BitVec.toNat_ofNat, Nat.mod_eq_of_lt h, show (1#64).toNat = 1 by rfl, Nat.and_one_is_mod]
  show ((n % 2 : Nat) : Int) % 18446744073709551616 = _
  omega
 rw [h1]
 unfold zag
 rcases Nat.mod_two_eq_zero_or_one n with h2 | h2
 ·rw [if_pos h2, h2, show wrap64 (-wrap64 ((0 : Nat) : Int)) = 0 by unfold wrap64; omega]
  show IntKind.i64.wrap ((BitVec.ofInt 64 _ ^^^ BitVec.ofInt 64 0).toNat : Int) = _
  rw [show BitVec.ofInt 64 0 = 0#64 by rfl, BitVec.xor_zero, BitVec.toNat_ofInt]
  simp [IntKind.wrap, IntKind.signed, IntKind.bits]
  omega
 ·rw [if_neg (by omega), h2, show wrap64 (-wrap64 ((1 : Nat) : Int)) = -1 by unfold wrap64; omega]
  show IntKind.i64.wrap ((BitVec.ofInt 64 _ ^^^ BitVec.ofInt 64 (-1)).toNat : Int) = _
  rw [show BitVec.ofInt 64 (-1) = BitVec.allOnes 64 by decide, BitVec.xor_allOnes, BitVec.toNat_not, BitVec.toNat_ofInt]
  simp [IntKind.wrap, IntKind.signed, IntKind.bits]
  omega
set_option maxRecDepth 100000 in
theorem rdint_any (g b : Nat) (xs : List Nat) (e : Int) (w : World) (h : Rdr w g b xs e) :
  Calls Tryz.prog 86 #[.pointer (some ⟨g, 0, none⟩)] w fun e' w' => e' = .returned (.int .i64 (zag (numP ⟨xs, e⟩).1)) ∧ Rdr w' g b (numP ⟨xs, e⟩).2.xs (numP ⟨xs, e⟩).2.e ∧ Only w w' g := by
 have hc := rdnum_any g b xs e w h
 have hlt := numP_lt (r := ⟨xs, e⟩) h.by_
 have hx := xor_zag hlt
 generalize numP ⟨xs, e⟩ = q at *
 obtain ⟨n, q⟩ := q
 simp only at *
 have hn : (n : Int) < 18446744073709551616 := by omega
 generalize zag n = z at *
 go_enter Tryz.func86, Tryz.ntmps86
 go_wp2_with (go_at_call 83; (with_reducible refine hc.mono ?_); rintro e w1 ⟨rfl, hr1, ho1⟩)
 go_ret
 exact ⟨by first | rfl | (rw [hx]) | skip, hr1, ho1⟩
theorem rderr_any (g b : Nat) (xs : List Nat) (e : Int) (w : World) (h : Rdr w g b xs e) :
  Calls Tryz.prog 101 #[.pointer (some ⟨g, 0, none⟩)] w fun e' w' => e' = .returned (.int .i64 e) ∧ w = w' := by
 obtain ⟨⟨A, c, h1, h2, h3, h4⟩, hn⟩ := h
 have c1 := h1.cell
 go_enter Tryz.func101, Tryz.ntmps101
 go_wp2
 go_ret
 exact ⟨rfl, rfl⟩
def endP (r : Rest) : Rest := if r.e = 0 ∧ 0 < r.xs.length then failP 10 r else r
set_option maxRecDepth 100000 in
theorem rdend_any (g b : Nat) (xs : List Nat) (e : Int) (w : World) (h : Rdr w g b xs e) :
  Calls Tryz.prog 85 #[.pointer (some ⟨g, 0, none⟩)] w fun e' w' => e' = .returned (.int .i64 (endP ⟨xs, e⟩).e) ∧ Rdr w' g b (endP ⟨xs, e⟩).xs (endP ⟨xs, e⟩).e ∧ Only w w' g := by
 have hr := h
 obtain ⟨⟨A, c, h1, h2, h3, h4⟩, hn⟩ := h
 have c1 := h1.cell
 unfold endP
 simp only
 by_cases h0 : e = 0
 ·subst h0
  by_cases hl : 0 < xs.length
  ·rw [if_pos ⟨rfl, hl⟩]
   have hl' : (0 : Int) < xs.length := by omega
   go_enter Tryz.func85, Tryz.ntmps85
   go_wp2_with (first | (go_at_call 99; (with_reducible refine (fail_any _ _ _ _ 10 _ hr).mono ?_); rintro e w1 ⟨rfl, hr1, ho1⟩) | (go_at_call 101; (with_reducible refine (rderr_any _ _ _ _ _ hr1).mono ?_); rintro e w2 ⟨rfl, rfl⟩))
   go_ret
   exact ⟨rfl, hr1, ho1⟩
  ·rw [if_neg (fun h => hl h.2)]
   have hl' : (xs.length : Int) ≤ 0 := by omega
   go_enter Tryz.func85, Tryz.ntmps85
   go_wp2_with (first | (go_at_call 101; (with_reducible refine (rderr_any _ _ _ _ _ hr).mono ?_); rintro e w2 ⟨rfl, rfl⟩))
   go_ret
   exact ⟨rfl, hr, Only.refl _ _⟩
 ·rw [if_neg (fun h => h0 h.1)]
  have h0' : (e == 0) = false := by simpa using h0
  go_enter Tryz.func85, Tryz.ntmps85
  go_wp2_with (first | (go_at_call 101; (with_reducible refine (rderr_any _ _ _ _ _ hr).mono ?_); rintro e w2 ⟨rfl, rfl⟩))
  go_ret
  exact ⟨rfl, hr, Only.refl _ _⟩
end Go.Proofs.YtjhcgnmibnjocaaGreat

namespace Go.Proofs.YtjhcgnmibnjocaaGreat
open Go.RowKit
set_option maxRecDepth 100000 in
set_option maxHeartbeats 1000000 in
theorem rdcount_any (g b : Nat) (xs : List Nat) (e most : Int) (w : World) (h : Rdr w g b xs e) (hm : I64 most) :
  Calls Tryz.prog 100 #[.pointer (some ⟨g, 0, none⟩), .int .i64 most] w fun e' w' => e' = .returned (.int .i64 ((countP most ⟨xs, e⟩).1 : Nat)) ∧ Rdr w' g b (countP most ⟨xs, e⟩).2.xs (countP most ⟨xs, e⟩).2.e ∧ Only w w' g := by
 have hc := rdnum_any g b xs e w h
 have hlt := numP_lt (r := ⟨xs, e⟩) h.by_
 unfold countP
 unfold I64 at hm
 generalize numP ⟨xs, e⟩ = q at *
 obtain ⟨n, q, e1⟩ := q
 simp only at *
 have hfl := fun w1 (h1 : Rdr w1 g b q e1) => fail_any g b q e1 8 w1 h1
 have her := fun w1 (h1 : Rdr w1 g b q e1) => rderr_any g b q e1 w1 h1
 by_cases h0 : most < 0
 ·have hmx : most.toNat = 0 := by omega
  rw [hmx]
  clear hmx
  by_cases h1 : 0 < n
  ·rw [if_pos (.inl h1)]
   have h1' : (0 : Int) < n := by omega
   go_enter Tryz.func100, Tryz.ntmps100
   go_wp2_with (first | (go_at_call 83; (with_reducible refine hc.mono ?_); rintro e w1 ⟨rfl, hr1, ho1⟩) | (go_at_call 99; (with_reducible refine (hfl _ hr1).mono ?_); rintro e w2 ⟨rfl, hr2, ho2⟩))
   go_ret
   exact ⟨rfl, hr2, ho1.trans ho2⟩
  ·obtain rfl : n = 0 := by omega
   by_cases h2 : e1 = 0
   ·rw [if_pos (.inr ⟨h0, h2⟩)]
    subst h2
    go_enter Tryz.func100, Tryz.ntmps100
    go_wp2_with (first | (go_at_call 83; (with_reducible refine hc.mono ?_); rintro e w1 ⟨rfl, hr1, ho1⟩) | (go_at_call 99; (with_reducible refine (hfl _ hr1).mono ?_); rintro e w2 ⟨rfl, hr2, ho2⟩) | (go_at_call 101; (with_reducible refine (her _ hr1).mono ?_); rintro e w3 ⟨rfl, rfl⟩))
    go_ret
    exact ⟨rfl, hr2, ho1.trans ho2⟩
   ·rw [if_neg (fun h => by rcases h with h | h <;> omega)]
    have h2' : (e1 == 0) = false := by simpa using h2
    go_enter Tryz.func100, Tryz.ntmps100
    go_wp2_with (first | (go_at_call 83; (with_reducible refine hc.mono ?_); rintro e w1 ⟨rfl, hr1, ho1⟩) | (go_at_call 101; (with_reducible refine (her _ hr1).mono ?_); rintro e w3 ⟨rfl, rfl⟩))
    go_ret
    exact ⟨rfl, hr1, ho1⟩
 ·obtain ⟨M, rfl⟩ : ∃ M : Nat, most = M := ⟨most.toNat, by omega⟩
  rw [Int.toNat_natCast]
  clear h0
  by_cases h1 : M < n
  ·rw [if_pos (.inl h1)]
   have h1' : (M : Int) < n := by omega
   go_enter Tryz.func100, Tryz.ntmps100
   go_wp2_with (first | (go_at_call 83; (with_reducible refine hc.mono ?_); rintro e w1 ⟨rfl, hr1, ho1⟩) | (go_at_call 99; (with_reducible refine (hfl _ hr1).mono ?_); rintro e w2 ⟨rfl, hr2, ho2⟩))
   go_ret
   exact ⟨rfl, hr2, ho1.trans ho2⟩
  ·rw [if_neg (fun h => by rcases h with h | h <;> omega)]
   have h1' : ¬(M : Int) < n := by omega
   have hn63 : (n : Int) ≤ 9223372036854775807 := by omega
   go_enter Tryz.func100, Tryz.ntmps100
   go_wp2_with (first | (go_at_call 83; (with_reducible refine hc.mono ?_); rintro e w1 ⟨rfl, hr1, ho1⟩) | (go_at_call 99; (with_reducible refine (hfl _ hr1).mono ?_); rintro e w2 ⟨rfl, hr2, ho2⟩))
   go_ret
   exact ⟨rfl, hr1, ho1⟩
end Go.Proofs.YtjhcgnmibnjocaaGreat

namespace Go.Proofs.YtjhcgnmibnjocaaGreat
open Go.RowKit
def textP (most : Int) (r : Rest) : List Nat × Rest := takeP (countP most r).1 (countP most r).2
theorem countP_le {most : Int} {r : Rest} (hm : I64 most) : ((countP most r).1 : Nat) ≤ 9223372036854775807 := by
 unfold I64 at hm
 unfold countP
 split
 ·simp
 ·rename_i h
  by_cases h1 : most.toNat < (numP r).1
  ·exact absurd (.inl h1) h
  ·omega
theorem rdtext_any (g b : Nat) (xs : List Nat) (e most : Int) (w : World) (h : Rdr w g b xs e) (hm : I64 most) :
  Calls Tryz.prog 102 #[.pointer (some ⟨g, 0, none⟩), .int .i64 most] w fun e' w' => e' = .returned (.string (strOf (textP most ⟨xs, e⟩).1)) ∧ Rdr w' g b (textP most ⟨xs, e⟩).2.xs (textP most ⟨xs, e⟩).2.e ∧ Only w w' g := by
 have hc := rdcount_any g b xs e most w h hm
 have hle := countP_le (r := ⟨xs, e⟩) hm
 unfold textP
 generalize countP most ⟨xs, e⟩ = q at *
 obtain ⟨n, q, e1⟩ := q
 simp only at *
 have ht := fun w1 (h1 : Rdr w1 g b q e1) => take_any g b q e1 n w1 h1 hle
 generalize takeP n ⟨q, e1⟩ = p at *
 obtain ⟨p, q2, e2⟩ := p
 simp only at *
 go_enter Tryz.func102, Tryz.ntmps102
 go_wp2_with (first | (go_at_call 100; (with_reducible refine hc.mono ?_); rintro e w1 ⟨rfl, hr1, ho1⟩) | (go_at_call 98; (with_reducible refine (ht _ hr1).mono ?_); rintro e w2 ⟨A2, k2, rfl, hs2, hk2, hm2, hr2, ho2⟩; have hcv := conv_bytes (P := Tryz.prog) hs2.reads Tryz.underlying36 Tryz.underlying5 Tryz.underlying9 k2))
 go_ret
 exact ⟨rfl, hr2, ho1.trans ho2⟩
theorem Row.sees {w : World} {base : Nat} {v : Value} {xs : List Nat} (h : Row w base v xs) (hb : base < w.heap.size) (hx : ∀ x ∈ xs, x < 256) : ∃ A c b, v = .slice A xs.length c ∧ Sees w b A xs ∧ xs.length ≤ c ∧ c ≤ maxLen ∧ base ≤ b := by
 rcases Nat.eq_zero_or_pos xs.length with h0 | h0
 ·obtain ⟨A, c, e, h1, h2, -⟩ := h.slice
  obtain rfl : xs = [] := List.eq_nil_of_length_eq_zero h0
  exact ⟨A, c, base, e, Sees.nil A hb, h1, h2, Nat.le_refl _⟩
 ·obtain ⟨g, cap, e, hl, hge, h1, h2, hc⟩ := h.at_ h0
  exact ⟨_, cap, g, e, ⟨hl, fun _ => ⟨0, rfl, fun j x hx => by rw [Nat.zero_add]; exact hc j x hx⟩, hx⟩, h1, h2, hge⟩
theorem read_any (A : Option Addr) (c : Nat) (l : List Nat) (w : World) (hr : Reads w w.heap.size 1 A l.length (u8s l)) (hx : ∀ x ∈ l, x < 256) (hnil : A = none → c = 0) (hlen : l.length ≤ 140737488355328) :
  Calls Tryz.prog 82 #[.slice A l.length c] w fun e w' => ∃ g b, e = .returned (.pointer (some ⟨g, 0, none⟩)) ∧ Rdr w' g b l 0 ∧ w.heap.size ≤ g ∧ w.heap.size ≤ b ∧ Below w.heap.size w w' := by
 go_enter Tryz.func82, Tryz.ntmps82
 go_wp2_with (at_builtin; go_must (refine app_row rfl (.tmp 3) (.tmp 4) 36 rfl Tryz.underlying36 infoU8 w.heap.size _ ([]) (l) A l.length c rfl (row_made w) rfl ?c0 ?c1 ?c2 ?c3 ?c4 ?_))
 case c0 => rfl
 case c1 => exact (hr.alloc (Nat.le_refl _) _).more (by simp)
 case c2 => exact hnil
 case c3 => simp; omega
 case c4 => simp
 intro u w1 hr1 hc1
 have hb1 := hc1.below (base := w.heap.size) (row_made w) (by simp)
 have hs1 := hb1.size
 have hs2 := hc1.size
 obtain ⟨A1, c1, b1, rfl, hse, hlc, hcm, hge⟩ := hr1.sees (by simp at hs2; omega) hx
 go_wp2
 have hlt := hse.lt
 refine bodyPost_ret (v := _) (by simp [results, Tryz.results82, go_sem] <;> rfl) rfl ⟨w1.heap.size, b1, rfl, ⟨⟨A1, c1, Blk.new w1 _ _, hse.below (Below.alloc (Below.refl _ _) (Nat.le_refl _) _), hlc, hcm⟩, by omega⟩, by simp at hs2; omega, hge, ?_⟩
 exact ((Below.alloc (Below.refl _ _) (Nat.le_refl _) _).trans hb1).alloc (by simp at hs2; omega) _
end Go.Proofs.YtjhcgnmibnjocaaGreat

namespace Go
open Go.RowKit Go.ChangeShapes Go.WideShapes Go.ChangeAt Go.Proofs
end Go

namespace Go.Proofs.YtjhcgnmibnjocaaGreat
open Go.RowKit
def restP (l : List Nat) (a : Nat) (e : Int) : Rest := if e = 0 then ⟨l.drop a, 0⟩ else ⟨[], e⟩
structure Mrd (w : World) (q : Nat) (A : Option Addr) (c : Nat) (l : List Nat) (a : Nat) (e : Int) : Prop where
 blk : Blk w q 148 #[.slice A l.length c, .int .i64 ((a : Nat) : Int), .int .i64 (e)]
 row : Reads w w.heap.size 1 A l.length (u8s l)
 ne : 0 < l.length → ∀ b, A = some b → b.block ≠ q
 le : a ≤ l.length
theorem Reads.onl {w w' : World} {g size n : Nat} {A : Option Addr} {xs : List Value} (h : Reads w w.heap.size size A n xs) (ho : Only w w' g) (hA : 0 < n → ∀ a, A = some a → a.block ≠ g) : Reads w' w'.heap.size size A n xs :=
 ⟨h.1, fun hn => by
  obtain ⟨ad, e, hb, hc⟩ := h.2 hn
  refine ⟨ad, e, Nat.lt_of_lt_of_le hb ho.size, fun j u hu => ?_⟩
  have : w'.cell? (ad.add j) = w.cell? (ad.add j) := by
   unfold World.cell?
   rw [ho.block (ad.add j).block (by rw [block_of_add]; exact hb) (by rw [block_of_add]; exact hA hn _ e)]
  exact this.trans (hc j u hu)⟩
theorem Mrd.to {w w' : World} {q : Nat} {A : Option Addr} {c : Nat} {l : List Nat} {a a' : Nat} {e e' : Int} (h : Mrd w q A c l a e) (ho : Only w w' q) (hb : Blk w' q 148 #[.slice A l.length c, .int .i64 ((a' : Nat) : Int), .int .i64 (e')]) (ha : a' ≤ l.length) : Mrd w' q A c l a' e' :=
 ⟨hb, Reads.onl h.row ho h.ne, h.ne, ha⟩
theorem Mrd.below {w w' : World} {q : Nat} {A : Option Addr} {c : Nat} {l : List Nat} {a : Nat} {e : Int} (h : Mrd w q A c l a e) (hb : Below w.heap.size w w') : Mrd w' q A c l a e :=
 ⟨h.blk.below hb h.blk.lt, (h.row.below hb).more hb.size, h.ne, h.le⟩
theorem Mrd.go {w : World} {q : Nat} {A : Option Addr} {c : Nat} {l : List Nat} {a : Nat} {e : Int} (h : Mrd w q A c l a e) (X : Ext) (a' : Nat) (ha : a' ≤ l.length) (v : Int) (hv : v = (a' : Int)) : Mrd ((w.ext X).setCell ⟨q, 1, none⟩ (.int .i64 v)) q A c l a' e ∧ Only w ((w.ext X).setCell ⟨q, 1, none⟩ (.int .i64 v)) q := by
 subst hv
 have ho : Only w ((w.ext X).setCell ⟨q, 1, none⟩ (.int .i64 (a' : Int))) q := ((Only.refl w q).ext X).set_ (.inl rfl) _
 exact ⟨h.to ho ((h.blk.ext X).set_ 1 _) ha, ho⟩
theorem Mrd.fail {w : World} {q : Nat} {A : Option Addr} {c : Nat} {l : List Nat} {a : Nat} {e : Int} (h : Mrd w q A c l a e) (X : Ext) (e' : Int) : Mrd ((w.ext X).setCell ⟨q, 2, none⟩ (.int .i64 e')) q A c l a e' ∧ Only w ((w.ext X).setCell ⟨q, 2, none⟩ (.int .i64 e')) q := by
 have ho : Only w ((w.ext X).setCell ⟨q, 2, none⟩ (.int .i64 e')) q := ((Only.refl w q).ext X).set_ (.inl rfl) _
 exact ⟨h.to ho ((h.blk.ext X).set_ 2 _) h.le, ho⟩
theorem Mrd.at1 {w : World} {q : Nat} {A : Option Addr} {c : Nat} {l : List Nat} {a : Nat} {e : Int} (h : Mrd w q A c l a e) (a' : Nat) (ha : a' ≤ l.length) (v : Int) (hv : v = (a' : Int)) : Mrd (w.setCell ⟨q, 1, none⟩ (.int .i64 v)) q A c l a' e := by
 subst hv
 exact h.to (Only.setCell w q 1 _) (h.blk.set_ 1 _) ha
theorem restP_err {l : List Nat} {a : Nat} {e : Int} (h : e ≠ 0) : restP l a e = ⟨[], e⟩ := by unfold restP; rw [if_neg h]
theorem restP_ok (l : List Nat) (a : Nat) : restP l a 0 = ⟨l.drop a, 0⟩ := by unfold restP; rw [if_pos rfl]
theorem u8s_at {l : List Nat} {j x : Nat} (h : l[j]? = some x) : (u8s l)[j]? = some (.int .u8 (x : Int)) := by simp [u8s, h]
set_option maxRecDepth 100000 in
set_option maxHeartbeats 4000000 in
theorem dnum_any (q : Nat) (A : Option Addr) (c : Nat) (l : List Nat) (a : Nat) (e : Int) (w : World) (h : Mrd w q A c l a e) (hby : ∀ x ∈ l, x < 256) (hlen : l.length ≤ 140737488355328) :
  Calls Tryz.prog 88 #[.pointer (some ⟨q, 0, none⟩)] w fun e' w' => e' = .returned (.int .u64 ((numP (restP l a e)).1 : Nat)) ∧ (∃ a' e'', Mrd w' q A c l a' e'' ∧ restP l a' e'' = (numP (restP l a e)).2) ∧ Only w w' q := by
 have c1 := h.blk.cell
 have f1 := h.blk.frozen
 have l1 := h.blk.lt
 have hle := h.le
 by_cases h0 : e = 0
 ·subst h0
  by_cases hat : a < l.length
  ·have hg : l[a]? = some l[a] := List.getElem?_eq_getElem hat
   obtain ⟨b, o, rfl, hbb, hc⟩ := h.row.plain (by omega) (by omega)
   have m1 := hc _ _ (u8s_at hg)
   have hx := hby _ (List.getElem_mem hat)
   have hd : l.drop a = l[a] :: l.drop (a + 1) := List.drop_eq_getElem_cons hat
   rw [restP_ok, hd]
   have hat' : (a : Int) < l.length := by omega
   have hat2 : decide ((l.length : Int) ≤ a) = false := by simp; omega
   have hdl : (l.drop (a + 1)).length = l.length - (a + 1) := List.length_drop
   generalize l[a] = x at *
   by_cases hlow : x < 248
   ·rw [numP_low _ hlow]
    have hlow' : (x : Int) < 248 := by omega
    have H := hide h
    clear h hc hd hdl hg
    go_enter Tryz.func88, Tryz.ntmps88
    go_wp2
    refine wp_region_ext_lit (by kernel_rfl) (by kernel_rfl) ?_; (repeat (quiet_step (fail))); refine wpQuiet_nil ?_; intro _ hw'; obtain ⟨Y, hw''⟩ := hw'; subst hw''
    go_wp2
    refine wp_region_ext_lit (by kernel_rfl) (by kernel_rfl) ?_; (repeat (quiet_step (fail))); refine wpQuiet_nil ?_; intro _ hw'; obtain ⟨Y, hw''⟩ := hw'; subst hw''
    go_wp2
    go_ret
    have hm := fun X => H.out.go X (a + 1) (by omega) ((a : Int) + 1) (by omega)
    exact ⟨rfl, ⟨a + 1, 0, (hm _).1, by rw [restP_ok]⟩, (hm _).2⟩
   ·have hlow' : decide ((x : Int) < 248) = false := by simp; omega
    have kx : IntKind.i64.wrap (x : Int) = (x : Int) := IntWalk.i64_in _ (by omega)
    have kk : (x : Int) - 247 = ((x - 247 : Nat) : Int) := by omega
    have ks : IntKind.i64.wrap ((x : Int) - 247) = ((x - 247 : Nat) : Int) := by rw [kk]; exact IntWalk.i64_in _ (by omega)
    have kl : IntKind.i64.wrap ((l.length : Int) - (a : Int)) = (l.length : Int) - (a : Int) := IntWalk.i64_in _ (by omega)
    have kl2 : IntKind.i64.wrap ((l.length : Int) - (a : Int) - 1) = (l.length : Int) - (a : Int) - 1 := IntWalk.i64_in _ (by omega)
    have hk8 : x - 247 ≤ 8 := by omega
    have hk1 : 1 ≤ x - 247 := by omega
    by_cases hs : l.length - (a + 1) < x - 247
    ·rw [numP_short2 hlow (by omega)]
     have hs' : (l.length : Int) - (a : Int) - 1 < ((x - 247 : Nat) : Int) := by omega
     have H := hide h
     generalize x - 247 = k at *
     clear h hc hd hdl hg kk hlow
     go_enter Tryz.func88, Tryz.ntmps88
     go_wp2
     refine wp_region_ext_lit (by kernel_rfl) (by kernel_rfl) ?_; (repeat (quiet_step (fail))); refine wpQuiet_nil ?_; intro _ hw'; obtain ⟨Y, hw''⟩ := hw'; subst hw''
     go_wp2
     refine wp_region_ext_lit (by kernel_rfl) (by kernel_rfl) ?_; (repeat (quiet_step (fail))); refine wpQuiet_nil ?_; intro _ hw'; obtain ⟨Y, hw''⟩ := hw'; subst hw''
     go_wp2
     refine wp_region_ext_lit (by kernel_rfl) (by kernel_rfl) ?_; (repeat (quiet_step (fail))); refine wpQuiet_nil ?_; intro _ hw'; obtain ⟨Y, hw''⟩ := hw'; subst hw''
     go_wp2
     go_ret
     have hm := fun X => H.out.fail X 9
     exact ⟨rfl, ⟨a, 9, (hm _).1, by rw [restP_err (by decide)]⟩, (hm _).2⟩
    ·have HR := hide (numP_long hlow (by omega : x - 247 ≤ (l.drop (a + 1)).length))
     generalize numP ⟨x :: l.drop (a + 1), 0⟩ = R at *
     have htg : ∀ j y : Nat, (l.drop (a + 1))[j]? = some y → w.cell? ⟨b, o + (a + (j + 1)), none⟩ = some (.int .u8 (y : Int)) ∧ y < 256 ∧ a + (j + 1) < l.length := fun j y hy => by
      rw [List.getElem?_drop] at hy
      have h1 := List.mem_of_getElem? hy
      have h2 := (List.getElem?_eq_some_iff.1 hy).1
      exact ⟨by rw [show a + (j + 1) = a + 1 + j by omega]; exact hc _ _ (u8s_at hy), hby _ h1, by omega⟩
     have htb : ∀ y ∈ l.drop (a + 1), y < 256 := fun y hy => hby y (List.mem_of_mem_drop hy)
     have hdd : (l.drop (a + 1)).drop (x - 247) = l.drop (a + (x - 247) + 1) := by rw [List.drop_drop]; congr 1; omega
     have hs' : ¬(l.length : Int) - (a : Int) - 1 < ((x - 247 : Nat) : Int) := by omega
     have hd2 : decide ((l.length : Int) - (a : Int) - 1 < ((x - 247 : Nat) : Int)) = false := decide_eq_false hs'
     have hak : a + (x - 247) + 1 ≤ l.length := by omega
     have H := hide h
     generalize l.drop (a + 1) = t at *
     generalize x - 247 = k at *
     clear h hc hd hg kk hlow
     go_enter Tryz.func88, Tryz.ntmps88
     go_wp2
     refine wp_region_ext_lit (by kernel_rfl) (by kernel_rfl) ?_; (repeat (quiet_step (fail))); refine wpQuiet_nil ?_; intro _ hw'; obtain ⟨Y, hw''⟩ := hw'; subst hw''
     go_wp2
     refine wp_region_ext_lit (by kernel_rfl) (by kernel_rfl) ?_; (repeat (quiet_step (fail))); refine wpQuiet_nil ?_; intro _ hw'; obtain ⟨Y, hw''⟩ := hw'; subst hw''
     go_wp2
     refine wp_region_ext_lit (by kernel_rfl) (by kernel_rfl) ?_; (repeat (quiet_step (fail))); refine wpQuiet_nil ?_; intro _ hw'; obtain ⟨Y, hw''⟩ := hw'; subst hw''
     go_wp2
     go_loopw [5, 6] (fun vn vi wr => ∃ j m : Nat, j ≤ k ∧ vi = .int .i64 ((j : Int) + 1) ∧ vn = .int .u64 (m : Int) ∧ Hid (m = num (t.take j)) ∧ Below w.heap.size w wr) (fun _ vi _ => ((k : Int) + 1 - intOf vi).toNat)
     case atStart => exact ⟨0, 0, by omega, rfl, rfl, rfl, by (repeat' (first | with_reducible (first | exact Below.refl _ _ | refine Below.ext ?_ ?_ _ | refine Below.alloc ?_ ?_ _ | refine Below.setCell ?_ ?_ _ | refine Below.drew ?_ | assumption) | (simp [World.size_ext]; done) | (simp [World.size_ext]; omega)))⟩
     case round =>
      obtain ⟨j, m, hj, rfl, rfl, hm, hb⟩ := hrel
      obtain ⟨wo, rfl⟩ : ∃ wo : World, wo = wr := ⟨_, rfl⟩
      have hs0 := hb.size
      have hM := H.out.below hb
      have cM := hM.blk.cell
      have fM := hM.blk.frozen
      have lM := hM.blk.lt
      by_cases hlt : j < k
      ·obtain ⟨y, hy0⟩ : ∃ y, t[j]? = some y := ⟨_, List.getElem?_eq_getElem (by omega)⟩
       obtain ⟨h1, h2, h3⟩ := htg j y hy0
       have m2 : wo.cell? ⟨b, o + (a + (j + 1)), none⟩ = some (.int .u8 (y : Int)) := by rw [hb.cell (p := ⟨b, _, none⟩) hbb]; exact h1
       have hts : num (t.take (j + 1)) = num (t.take j) * 256 + y := by rw [List.take_add_one, hy0, ← num_snoc]; rfl
       have hm7 := num_take_lt htb (i := j) (by omega)
       rw [← hm.out] at hts hm7
       have HT := hide hts
       have hbw : b < wo.heap.size := by omega
       have q1 : (j : Int) + 1 ≤ k := by omega
       have q2 : IntKind.i64.wrap ((a : Int) + ((j : Int) + 1)) = (a : Int) + ((j : Int) + 1) := IntWalk.i64_in _ (by omega)
       have q3 : (0 : Int) ≤ (a : Int) + ((j : Int) + 1) := by omega
       have q4 : ((a : Int) + ((j : Int) + 1)).toNat = a + (j + 1) := by omega
       have q5 : (a : Int) + ((j : Int) + 1) < l.length := by omega
       have q6 : a + (j + 1) < l.length := h3
       have q7 : IntKind.u64.wrap ((m : Int) * 256) = (m : Int) * 256 := by show ((m : Int) * 256) % 18446744073709551616 = _; omega
       have q8 : IntKind.u64.wrap (y : Int) = (y : Int) := by show (y : Int) % 18446744073709551616 = _; omega
       have q9 : IntKind.u64.wrap ((m : Int) * 256 + (y : Int)) = (m : Int) * 256 + (y : Int) := by show ((m : Int) * 256 + (y : Int)) % 18446744073709551616 = _; omega
       clear hts hm htg htb hy0 h1 hM HR
       go_wp2
       refine wp_region_ext_lit (by kernel_rfl) (by kernel_rfl) ?_; (repeat (quiet_step (fail))); refine wpQuiet_nil ?_; intro _ hw'; obtain ⟨Y, hw''⟩ := hw'; subst hw''
       go_wp2
       go_roundw
       case rel => exact ⟨j + 1, m * 256 + y, by omega, by go_num, by congr 1, HT.out.symm, by (repeat' (first | with_reducible (first | exact Below.refl _ _ | refine Below.ext ?_ ?_ _ | refine Below.alloc ?_ ?_ _ | refine Below.setCell ?_ ?_ _ | refine Below.drew ?_ | assumption) | (simp [World.size_ext]; done) | (simp [World.size_ext]; omega)))⟩
       case measure => simp [intOf]; omega
      ·obtain rfl : j = k := by omega
       have hm2 := hm.out
       subst hm2
       clear hm htg
       have hN := num_lt64 (l := t.take j) (fun y hy => htb y (List.mem_of_mem_take hy)) (by rw [List.length_take]; omega)
       have hU : U64 ((num (t.take j) : Nat) : Int) := by unfold U64; omega
       have hnum := rnum_any wo.heap.size (.slice none 0 0) [] ((num (t.take j) : Nat) : Int) wo (Row.nil _ _) (Nat.le_refl _) hU (by simp)
       rw [Int.toNat_natCast, List.nil_append] at hnum
       generalize num (t.take j) = N at *
       have hBL := numB_length N
       have q1 : ¬(j : Int) + 1 ≤ j := by omega
       by_cases hbad : N < 248 ∨ longN N ≠ j
       ·have hR : R = (0, ⟨[], 10⟩) := by rw [HR.out, if_pos hbad]
        have hne : (((numB N).length : Int) != (j : Int) + 1) = true := by
         rw [bne_iff_ne]
         intro h'
         rw [hBL] at h'
         rcases hbad with h1 | h1
         ·rw [if_pos h1] at h'; omega
         ·by_cases h2 : N < 248
          ·rw [if_pos h2] at h'; omega
          ·rw [if_neg h2] at h'; omega
        have HR2 := hide hR
        have HM := hide hM
        clear HR hR hM htb hBL
        go_wp2_with (go_at_call 71; (with_reducible refine hnum.mono ?_); rintro e w5 ⟨v5, rfl, hu5, hc5⟩; obtain ⟨A5, d5, rfl, _, _, _, _⟩ := hu5.slice; have hb5 := Chg.below hc5 (Row.nil wo wo.heap.size) (Nat.le_refl _); have hM5 := HM.out.below hb5; have cM5 := hM5.blk.cell; have fM5 := hM5.blk.frozen; have lM5 := hM5.blk.lt)
        go_ret
        rw [HR2.out]
        have ho2 : Only w w5 q := Only.of_below (hb.trans (hb5.mono hs0))
        exact ⟨rfl, ⟨a, 10, hM5.to (Only.setCell w5 q 2 _) (hM5.blk.set_ 2 _) hM5.le, by rw [restP_err (by decide)]⟩, ho2.set_ (p := ⟨q, 2, none⟩) (.inl rfl) _⟩
       ·have hR : R = (N, ⟨t.drop j, 0⟩) := by rw [HR.out, if_neg hbad]
        have hne : (((numB N).length : Int) != (j : Int) + 1) = false := by
         rw [bne_eq_false_iff_eq, hBL, if_neg (by omega)]
         omega
        have r1 : IntKind.i64.wrap ((a : Int) + (j : Int)) = (a : Int) + (j : Int) := IntWalk.i64_in _ (by omega)
        have r2 : IntKind.i64.wrap ((a : Int) + (j : Int) + 1) = (a : Int) + (j : Int) + 1 := IntWalk.i64_in _ (by omega)
        have HR2 := hide hR
        have HM := hide hM
        clear HR hR hM htb hBL
        go_wp2_with (go_at_call 71; (with_reducible refine hnum.mono ?_); rintro e w5 ⟨v5, rfl, hu5, hc5⟩; obtain ⟨A5, d5, rfl, _, _, _, _⟩ := hu5.slice; have hb5 := Chg.below hc5 (Row.nil wo wo.heap.size) (Nat.le_refl _); have hM5 := HM.out.below hb5; have cM5 := hM5.blk.cell; have fM5 := hM5.blk.frozen; have lM5 := hM5.blk.lt)
        go_ret
        rw [HR2.out]
        have ho2 : Only w w5 q := Only.of_below (hb.trans (hb5.mono hs0))
        exact ⟨rfl, ⟨a + j + 1, 0, hM5.at1 (a + j + 1) hak _ (by omega), by rw [restP_ok, ← hdd]⟩, ho2.set_ (p := ⟨q, 1, none⟩) (.inl rfl) _⟩
  ·have hat2 : decide ((l.length : Int) ≤ a) = true := by simp; omega
   have hd : l.drop a = [] := List.drop_eq_nil_of_le (by omega)
   rw [restP_ok, hd, numP_short]
   have H := hide h
   clear h hd
   go_enter Tryz.func88, Tryz.ntmps88
   go_wp2
   refine wp_region_ext_lit (by kernel_rfl) (by kernel_rfl) ?_; (repeat (quiet_step (fail))); refine wpQuiet_nil ?_; intro _ hw'; obtain ⟨Y, hw''⟩ := hw'; subst hw''
   go_wp2
   go_ret
   have hm := fun X => H.out.fail X 9
   exact ⟨rfl, ⟨a, 9, (hm _).1, by rw [restP_err (by decide)]⟩, (hm _).2⟩
 ·rw [restP_err h0, numP_err h0]
  have h0' : (e != 0) = true := by simpa using h0
  have H := hide h
  clear h
  go_enter Tryz.func88, Tryz.ntmps88
  go_wp2
  go_ret
  exact ⟨rfl, ⟨a, e, H.out, by rw [restP_err h0]⟩, Only.refl _ _⟩
end Go.Proofs.YtjhcgnmibnjocaaGreat

namespace Go.Proofs.YtjhcgnmibnjocaaGreat
open Go.RowKit
theorem restP_by {l : List Nat} {a : Nat} {e : Int} (hby : ∀ x ∈ l, x < 256) : ∀ x ∈ (restP l a e).xs, x < 256 := fun x hx => by
 unfold restP at hx
 split at hx
 ·exact hby x (List.mem_of_mem_drop hx)
 ·cases hx
theorem dint_any (q : Nat) (A : Option Addr) (c : Nat) (l : List Nat) (a : Nat) (e : Int) (w : World) (h : Mrd w q A c l a e) (hby : ∀ x ∈ l, x < 256) (hlen : l.length ≤ 140737488355328) :
  Calls Tryz.prog 91 #[.pointer (some ⟨q, 0, none⟩)] w fun e' w' => e' = .returned (.int .i64 (zag (numP (restP l a e)).1)) ∧ (∃ a' e'', Mrd w' q A c l a' e'' ∧ restP l a' e'' = (numP (restP l a e)).2) ∧ Only w w' q := by
 have hD := dnum_any q A c l a e w h hby hlen
 have hlt := numP_lt (restP_by (a := a) (e := e) hby)
 generalize (numP (restP l a e)).1 = n at *
 by_cases h2 : n % 2 = 0
 ·have k1 : ((n : Int) % 2 == 0) = true := by simp; omega
  have k2 : IntKind.i64.wrap ((n : Int) / 2) = (n : Int) / 2 := IntWalk.i64_in _ (by omega)
  have hz : zag n = (n : Int) / 2 := by unfold zag; rw [if_pos h2]; omega
  rw [hz]
  go_enter Tryz.func91, Tryz.ntmps91
  go_wp2_with (go_at_call 88; (with_reducible refine hD.mono ?_); rintro e w1 ⟨rfl, ⟨a1, e1, hm1, hr1⟩, ho1⟩; have c1 := hm1.blk.cell; have f1 := hm1.blk.frozen; have l1 := hm1.blk.lt)
  go_ret
  exact ⟨rfl, ⟨a1, e1, hm1, hr1⟩, ho1⟩
 ·have k1 : ((n : Int) % 2 == 0) = false := by simp; omega
  have k2 : IntKind.i64.wrap ((n : Int) / 2) = (n : Int) / 2 := IntWalk.i64_in _ (by omega)
  have hz : zag n = -((n : Int) / 2) - 1 := by unfold zag; rw [if_neg h2]; omega
  rw [hz]
  go_enter Tryz.func91, Tryz.ntmps91
  go_wp2_with (go_at_call 88; (with_reducible refine hD.mono ?_); rintro e w1 ⟨rfl, ⟨a1, e1, hm1, hr1⟩, ho1⟩; have c1 := hm1.blk.cell; have f1 := hm1.blk.frozen; have l1 := hm1.blk.lt)
  go_ret
  exact ⟨rfl, ⟨a1, e1, hm1, hr1⟩, ho1⟩
theorem restP_e (l : List Nat) (a : Nat) (e : Int) : (restP l a e).e = e := by
 unfold restP
 split
 ·rename_i h; exact h.symm
 ·rfl
theorem numP_zero (r : Rest) : (numP r).2.e ≠ 0 → (numP r).1 = 0 := by
 obtain ⟨xs, e⟩ := r
 by_cases h0 : e = 0
 ·subst h0
  match xs with
  | [] => rw [numP_short]; simp
  | x :: t =>
   by_cases hl : x < 248
   ·rw [numP_low t hl]; simp
   ·by_cases hs : x - 247 ≤ t.length
    ·rw [numP_long hl hs]
     split <;> simp
    ·rw [numP_short2 hl (by omega)]; simp
 ·rw [numP_err h0]; simp
theorem dcount_any (q : Nat) (A : Option Addr) (c : Nat) (l : List Nat) (a : Nat) (e : Int) (w : World) (h : Mrd w q A c l a e) (hby : ∀ x ∈ l, x < 256) (hlen : l.length ≤ 140737488355328) :
  Calls Tryz.prog 103 #[.pointer (some ⟨q, 0, none⟩), .int .i64 8] w fun e' w' => e' = .returned (.int .i64 ((countP 8 (restP l a e)).1 : Nat)) ∧ (∃ a' e'', Mrd w' q A c l a' e'' ∧ restP l a' e'' = (countP 8 (restP l a e)).2) ∧ Only w w' q := by
 have hD := dnum_any q A c l a e w h hby hlen
 have hlt := numP_lt (restP_by (a := a) (e := e) hby)
 have hz := numP_zero (restP l a e)
 unfold countP
 generalize hR : numP (restP l a e) = R at *
 obtain ⟨n, r⟩ := R
 simp only at *
 by_cases he : r.e = 0
 ·have he' : (r.e != 0) = false := by simpa using he
  by_cases h8 : 8 < n
  ·rw [if_pos (.inl (by simpa using h8))]
   have h8' : decide ((8 : Int) < n) = true := by simp; omega
   go_enter Tryz.func103, Tryz.ntmps103
   go_wp2_with (go_at_call 88; (with_reducible refine hD.mono ?_); rintro e w1 ⟨rfl, ⟨a1, e1, hm1, hr1⟩, ho1⟩; have he1 := restP_e l a1 e1; rw [hr1] at he1; subst he1; have c1 := hm1.blk.cell; have f1 := hm1.blk.frozen; have l1 := hm1.blk.lt)
   go_ret
   exact ⟨rfl, ⟨a1, 8, hm1.to (Only.setCell w1 q 2 _) (hm1.blk.set_ 2 _) hm1.le, by rw [restP_err (by decide)]; unfold failP; rw [if_pos he]⟩, ho1.set_ (p := ⟨q, 2, none⟩) (.inl rfl) _⟩
  ·rw [if_neg (by rintro (h | h); exact h8 (by simpa using h); exact absurd h.1 (by decide))]
   have h8' : decide ((8 : Int) < n) = false := by simp; omega
   go_enter Tryz.func103, Tryz.ntmps103
   go_wp2_with (go_at_call 88; (with_reducible refine hD.mono ?_); rintro e w1 ⟨rfl, ⟨a1, e1, hm1, hr1⟩, ho1⟩; have he1 := restP_e l a1 e1; rw [hr1] at he1; subst he1; have c1 := hm1.blk.cell; have f1 := hm1.blk.frozen; have l1 := hm1.blk.lt)
   go_ret
   exact ⟨rfl, ⟨a1, _, hm1, hr1⟩, ho1⟩
 ·have he' : (r.e != 0) = true := by simpa using he
  obtain rfl := hz he
  rw [if_neg (by rintro (h | h); exact absurd h (by decide); exact absurd h.1 (by decide))]
  go_enter Tryz.func103, Tryz.ntmps103
  go_wp2_with (go_at_call 88; (with_reducible refine hD.mono ?_); rintro e w1 ⟨rfl, ⟨a1, e1, hm1, hr1⟩, ho1⟩; have he1 := restP_e l a1 e1; rw [hr1] at he1; subst he1; have c1 := hm1.blk.cell; have f1 := hm1.blk.frozen; have l1 := hm1.blk.lt)
  go_ret
  exact ⟨rfl, ⟨a1, _, hm1, hr1⟩, ho1⟩
theorem dend_any (q : Nat) (A : Option Addr) (c : Nat) (l : List Nat) (a : Nat) (e : Int) (w : World) (h : Mrd w q A c l a e) (hlen : l.length ≤ 140737488355328) :
  Calls Tryz.prog 90 #[.pointer (some ⟨q, 0, none⟩)] w fun e' w' => e' = .returned (.int .i64 (endP (restP l a e)).e) ∧ Only w w' q := by
 have c1 := h.blk.cell
 have f1 := h.blk.frozen
 have l1 := h.blk.lt
 have hle := h.le
 by_cases h0 : e = 0
 ·subst h0
  by_cases hat : a < l.length
  ·have hE : (endP (restP l a 0)).e = 10 := by
    rw [restP_ok]
    unfold endP
    rw [if_pos ⟨rfl, by simp [List.length_drop]; omega⟩]
    rfl
   rw [hE]
   have d1 : decide ((a : Int) < l.length) = true := by simp; omega
   go_enter Tryz.func90, Tryz.ntmps90
   go_wp2
   refine wp_region_ext_lit (by kernel_rfl) (by kernel_rfl) ?_
   (repeat (first | ((with_reducible refine wpQuiet_step (fun K hK => ?_)); go_simp; first | ((with_reducible refine hK _ ?_); clear hK K) | (apply Exists.intro; (with_reducible refine ⟨fun _ => ?_, hK _ ?_⟩); skip; clear hK K)) | ((with_reducible refine quiet_skipN ?_ (fun K hK => ?_)); (rfl); go_simp; (with_reducible refine hK _ ?_); clear hK K)))
   (with_reducible refine wpQuiet_nil ?_); intro _ hw'; obtain ⟨Y, hw''⟩ := hw'; subst hw''
   go_wp2
   go_ret
   exact ⟨rfl, ((Only.refl w q).ext Y).set_ (p := ⟨q, 2, none⟩) (.inl rfl) _⟩
  ·have hE : (endP (restP l a 0)).e = 0 := by
    rw [restP_ok, List.drop_eq_nil_of_le (by omega)]
    unfold endP
    rw [if_neg (by simp)]
   rw [hE]
   have d1 : decide ((a : Int) < l.length) = false := by simp; omega
   go_enter Tryz.func90, Tryz.ntmps90
   go_wp2
   refine wp_region_ext_lit (by kernel_rfl) (by kernel_rfl) ?_
   (repeat (first | ((with_reducible refine wpQuiet_step (fun K hK => ?_)); go_simp; first | ((with_reducible refine hK _ ?_); clear hK K) | (apply Exists.intro; (with_reducible refine ⟨fun _ => ?_, hK _ ?_⟩); skip; clear hK K)) | ((with_reducible refine quiet_skipN ?_ (fun K hK => ?_)); (rfl); go_simp; (with_reducible refine hK _ ?_); clear hK K)))
   (with_reducible refine wpQuiet_nil ?_); intro _ hw'; obtain ⟨Y, hw''⟩ := hw'; subst hw''
   go_wp2
   go_ret
   exact ⟨rfl, ((Only.refl w q).ext Y)⟩
 ·have hE : (endP (restP l a e)).e = e := by
   rw [restP_err h0]
   unfold endP
   rw [if_neg (fun h => h0 h.1)]
  rw [hE]
  have d1 : (e == 0) = false := by simpa using h0
  go_enter Tryz.func90, Tryz.ntmps90
  go_wp2
  refine wp_region_ext_lit (by kernel_rfl) (by kernel_rfl) ?_
  (repeat (first | ((with_reducible refine wpQuiet_step (fun K hK => ?_)); go_simp; first | ((with_reducible refine hK _ ?_); clear hK K) | (apply Exists.intro; (with_reducible refine ⟨fun _ => ?_, hK _ ?_⟩); skip; clear hK K)) | ((with_reducible refine quiet_skipN ?_ (fun K hK => ?_)); (rfl); go_simp; (with_reducible refine hK _ ?_); clear hK K)))
  (with_reducible refine wpQuiet_nil ?_); intro _ hw'; obtain ⟨Y, hw''⟩ := hw'; subst hw''
  go_wp2
  go_ret
  exact ⟨rfl, ((Only.refl w q).ext Y)⟩
end Go.Proofs.YtjhcgnmibnjocaaGreat
