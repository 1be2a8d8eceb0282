import Derived.Test.YthajbeooemngpaaWire
/-! The wire's writer: the document. -/
namespace Go.Proofs.Ythajbeooemngpaa
open Go.RowKit
set_option linter.unusedVariables false
set_option linter.unusedSimpArgs false
set_option maxHeartbeats 2000000 in
theorem rnum_any (base : Nat) (v : Value) (xs : List Nat) (a : Int) (w : World) (hw : Row w base v xs) (hbase : base ≤ w.heap.size) (ha : U64 a) (hlen : xs.length + 9 ≤ 140737488355328) :
    Calls Try.prog 67 #[v, .int .u64 a] w fun e w' => ∃ v', e = .returned v' ∧ Row w' base v' (xs ++ numB a.toNat) ∧ Chg w w' v v' := by
  go_enter Try.func67, Try.ntmps67
  unfold U64 at ha
  by_cases h248 : a < 248
  · have hn : numB a.toNat = [a.toNat] := by unfold numB; rw [if_pos (by omega)]
    go_wp2_with (at_builtin; go_must (refine app_byte rfl (.tmp 10) (.tmp 13) 23 rfl Try.underlying23 infoU8 base v (xs) (a.toNat) _ ?c0 rfl hw _ (by first | rfl | simp [World.size_ext]) rfl ?c1 ?c2 ?_))
    case c0 => go_num
    case c1 => omega
    case c2 => omega
    intro v' w1 hr1 hc1
    go_wp2
    refine bodyPost_ret (v := v') (by simp [results, Try.results67, go_sem] <;> rfl) rfl ⟨_, rfl, hn ▸ hr1, hc1⟩
  · have hk8 := longN_le 8 a.toNat (by omega)
    have hn : numB a.toNat = (247 + longN a.toNat) :: be (longN a.toNat) a.toNat := by unfold numB; rw [if_neg (by omega)]
    go_wp2
    go_loopw [5, 6] (fun l m wr => ∃ j, m = .int .u64 ((a.toNat / 256 ^ j : Nat) : Int) ∧ Row wr w.heap.size l (les j a.toNat) ∧ j + longN (a.toNat / 256 ^ j) = longN a.toNat ∧ Below w.heap.size w wr) (fun _ m _ => (intOf m).toNat)
    case atStart => exact ⟨0, by go_num, Row.nil _ _, by simp, Below.refl _ _⟩
    case round =>
      obtain ⟨j, rfl, hl, hj, hb⟩ := hrel
      have hsz := hb.size
      have hle : a.toNat / 256 ^ j ≤ a.toNat := Nat.div_le_self _ _
      obtain ⟨wo, rfl⟩ : ∃ wo : World, wo = wr := ⟨_, rfl⟩
      by_cases h0 : 0 < a.toNat / 256 ^ j
      · have hq : (((a.toNat / 256 ^ j : Nat) : Int) > 0) = True := eq_true (by omega)
        have hp := longN_pos h0
        have hd : a.toNat / 256 ^ j / 256 = a.toNat / 256 ^ (j + 1) := by rw [Nat.div_div_eq_div_mul, Nat.pow_succ]
        generalize hD : a.toNat / 256 ^ j = D at *
        go_wp2_with (at_builtin; go_must (refine app_byte rfl (.tmp 20) (.tmp 24) 23 rfl Try.underlying23 infoU8 w.heap.size _ (_) (D % 256) _ ?c0 rfl hl _ (by first | rfl | simp [World.size_ext]) rfl ?c1 ?c2 ?_))
        case c0 => go_num
        case c1 => rw [les_length]; omega
        case c2 => omega
        intro l' w1 hr1 hc1
        have hb1 := hb.trans (hc1.below hl hsz)
        obtain ⟨A1, n1, k1, rfl⟩ := hr1.shape
        go_wp2
        go_roundw
        case rel => exact ⟨j + 1, by rw [← hd]; go_num, by rw [les_succ, hD]; exact hr1, by rw [← hd]; omega, hb1⟩
        case measure => simp [intOf]; omega
      · have hz : a.toNat / 256 ^ j = 0 := Nat.eq_zero_of_not_pos h0
        rw [hz, longN_zero] at hj
        rw [hz]
        obtain rfl : longN a.toNat = j := by omega
        obtain ⟨L, cap, rfl, hL, hLb, hcap, hcapm, hcell⟩ := hl.at_ (by rw [les_length, longN_pos (by omega)]; omega)
        simp only [les_length] at *
        obtain ⟨A0, n0, k0, rfl⟩ := hw.shape
        go_wp2_with (at_builtin; go_must (refine app_byte rfl (.tmp 26) (.tmp 31) 23 rfl Try.underlying23 infoU8 base _ (xs) (247 + longN a.toNat) _ ?c0 rfl (hw.below hb) _ (by first | rfl | simp [World.size_ext]) rfl ?c1 ?c2 ?_))
        case c0 => simp
        case c1 => omega
        case c2 => omega
        intro v' w2 hr2 hc2
        have hl2 : Row w2 w.heap.size _ (les (longN a.toNat) a.toNat) := hl.chg hc2 (fun k hk e => by have := (hw.ge e).2; cases hk; change L < _ at this; omega)
        have hne : v'.ownBlock ≠ some L := by
          rcases hc2.lies with e | ⟨b, e, hb⟩
          · rw [e]
            intro e'
            have := (hw.ge e').2
            omega
          · rw [e]
            intro e'
            cases e'
            omega
        have hc2 := (Chg.of_below (v := .slice A0 n0 k0) hb).trans hc2
        obtain ⟨A1, n1, k1, rfl⟩ := hr2.shape
        clear hl hcell hb
        go_wp2
        go_loopw [0, 7] (fun o k wr => ∃ i, i ≤ longN a.toNat ∧ k = .int .i64 ((i : Int) - 1) ∧ Row wr base o (xs ++ (247 + longN a.toNat) :: (be (longN a.toNat) a.toNat).take (longN a.toNat - i)) ∧ Chg w2 wr (.slice A1 n1 k1) o) (fun _ k _ => (intOf k + 1).toNat)
        case atStart => exact ⟨longN a.toNat, by omega, by go_num, by rw [Nat.sub_self]; exact hr2, Chg.refl _ _⟩
        case round =>
          obtain ⟨i, hi, rfl, hr3, hc3⟩ := hrel
          have hl3 := hl2.chg hc3 (fun k hk e => by cases hk; exact hne e)
          obtain ⟨wo2, rfl⟩ : ∃ wo2 : World, wo2 = wr := ⟨_, rfl⟩
          match i, hi, hr3 with
          | 0, hi, hr3 =>
            have h0 : ((0 : Nat) : Int) - 1 = -1 := by omega
            rw [h0]
            go_wp2
            rw [Nat.sub_zero, List.take_of_length_le (by rw [be_length]; exact Nat.le_refl _), ← hn] at hr3
            refine bodyPost_ret (by simp [results, Try.results67, go_sem] <;> rfl) rfl ⟨_, rfl, hr3, hc2.trans hc3⟩
          | m + 1, hi, hr3 =>
            have hm0 : ((m + 1 : Nat) : Int) - 1 = (m : Int) := by omega
            rw [hm0]
            have hts : Hid _ := be_take_succ (longN a.toNat) a.toNat (longN a.toNat - (m + 1)) (by omega)
            have hcm := hl3.cell (les_get (j := longN a.toNat) (i := m) (by omega))
            have hmK : (m : Int) < (longN a.toNat : Nat) := by omega
            go_wp2_with (at_builtin; go_must (refine app_byte rfl (.tmp 40) (.tmp 45) 23 rfl Try.underlying23 infoU8 base _ (_) (a.toNat / 256 ^ m % 256) _ ?c0 rfl hr3 _ (by first | rfl | simp [World.size_ext]) rfl ?c1 ?c2 ?_))
            case c0 => simp
            case c1 => simp [be_length]; omega
            case c2 => have := hc3.size; have := hc2.size; omega
            intro v'' w4 hr4 hc4
            have hc5 := hc3.trans hc4
            go_wp2
            go_roundw
            case rel =>
              refine ⟨m, by omega, rfl, ?_, hc5⟩
              rw [show longN a.toNat - m = longN a.toNat - (m + 1) + 1 by omega, hts.out, show longN a.toNat - 1 - (longN a.toNat - (m + 1)) = m by omega]
              simpa using hr4
            case measure => simp [intOf]
end Go.Proofs.Ythajbeooemngpaa
