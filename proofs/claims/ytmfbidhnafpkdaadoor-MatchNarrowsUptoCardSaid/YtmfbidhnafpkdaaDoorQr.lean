import Derived.Test.YtmfbidhnafpkdaaDoorQt
import Derived.Test.YtmfbidhnafpkdaaDoorBe
import Derived.WalkSpells
import Derived.WalkLawsBesides
import Derived.WalkMore
/-! The document's: a value as it is written. -/
namespace Go.Proofs.YtmfbidhnafpkdaaDoor
open Go.RowKit
set_option linter.unusedVariables false
set_option linter.unusedSimpArgs false
theorem infoU8 : (Tryd.prog.info? 5).map (fun i => (i.zero, i.size, i.bytes)) = some (some (.int .u8 0), 1, 1) := by kernel_rfl
def n8 (l : List UInt8) : List Nat := l.map UInt8.toNat
theorem n8_append (l m : List UInt8) : n8 (l ++ m) = n8 l ++ n8 m := by simp [n8]
theorem n8_length (l : List UInt8) : (n8 l).length = l.length := by simp [n8]
theorem strOf_n8 (l : List UInt8) : strOf (n8 l) = ⟨l.toArray⟩ := by
  have h := strOf_numsOf ⟨l.toArray⟩
  simpa [numsOf, n8] using h
theorem Row.conv {P : Program} {w : World} {base : Nat} {src dst : TypeId} {A : Option Addr} {n c : Nat} {xs : List Nat} (h : Row w base (.slice A n c) xs) (hs : P.underlying src = some (.slice 5)) (he : P.underlying 5 = some (.int .u8)) (hd : P.underlying dst = some .string) :
    (convert src dst (.slice A n c)).run P w = .ok (.string (strOf xs)) w := by
  obtain ⟨A', c', e, _, _, _, hr⟩ := h.slice
  simp only [Value.slice.injEq] at e
  obtain ⟨rfl, rfl, rfl⟩ := e
  exact conv_bytes hr hs he hd c
set_option maxRecDepth 100000 in
set_option maxHeartbeats 4000000 in
theorem rquote_any (s : ByteArray) (hs : 2 * s.size + 2 ≤ 140737488355328) (w : World) :
    Calls Tryd.prog 40 #[.string s] w fun e w' => e = .returned (.string ⟨(qL s.data.toList).toArray⟩) ∧ Below w.heap.size w w' := by
  have h0 : Row (w.alloc (.cells #[.int .u8 34] 5)) w.heap.size (.slice (some ⟨w.heap.size, 0, none⟩) 1 1) (n8 [34]) := (Blk.new w 5 #[.int .u8 34]).own (size := 1) (n := 1) (cap := 1) (Nat.le_refl _) (Nat.le_refl _) (by unfold maxLen; omega) rfl rfl rfl
  have hb0 : Below w.heap.size w (w.alloc (.cells #[.int .u8 34] 5)) := Below.alloc (Below.refl _ _) (Nat.le_refl _) _
  go_enter Tryd.func40, Tryd.ntmps40
  generalize hq : w.heap.size = q at *
  go_wp2
  go_loopw [3, 4] (fun s3 s4 wr => ∃ i : Nat, i ≤ s.size ∧ s4 = .int .i64 (i : Int) ∧ Row wr q s3 (n8 (34 :: qB (s.data.toList.take i))) ∧ Below q w wr) (fun _ s4 _ => ((s.size : Int) - intOf s4).toNat)
  case atStart => exact ⟨0, by omega, rfl, h0, hb0⟩
  case round =>
    clear h0 hb0
    obtain ⟨i, hi, rfl, hB, hb⟩ := hrel
    have hlen := qB_take_len s i
    have hqw : q ≤ wr.heap.size := by rw [← hq]; exact hb.size
    by_cases hlt : i < s.size
    · have ht := qB_take hlt
      obtain ⟨x, hx⟩ : ∃ x : UInt8, s[i] = x := ⟨_, rfl⟩
      have hii : (i : Int) < s.size := by omega
      rw [hx] at ht
      have ht := hide ht
      by_cases h1 : x.toNat = 34 ∨ x.toNat = 92
      · have d1 : ((x.toNat : Int) == 34) = true ∨ ((x.toNat : Int) == 34) = false ∧ ((x.toNat : Int) == 92) = true := by simp; omega
        have he : n8 (34 :: qB (s.data.toList.take (i + 1))) = n8 (34 :: qB (s.data.toList.take i)) ++ [92, x.toNat] := by
          rw [ht.out, esc, if_pos (h1.imp u8_34.1 u8_92.1)]
          simp [n8]
        have he := hide he
        clear ht
        rcases d1 with d1 | ⟨d1, d2⟩
        all_goals
          go_wp2_with (at_builtin; go_must (refine app_byte rfl (.tmp 22) (.tmp 23) 64 rfl Tryd.underlying64 infoU8 q _ (_) (92) _ ?c0 rfl hB _ (by first | rfl | simp [World.size_ext]) rfl ?c1 ?c2 ?_))
          case c0 => rfl
          case c1 => rw [n8_length]; simp; omega
          case c2 => exact hqw
          intro v1 w1 hr1 hc1
          have hb1 := hb.trans (hc1.below hB hqw)
          have hq1 : q ≤ w1.heap.size := by rw [← hq]; exact hb1.size
          go_wp2_with (at_builtin; go_must (refine app_byte rfl (.tmp 25) (.tmp 29) 64 rfl Tryd.underlying64 infoU8 q _ (_) (x.toNat) _ ?c0 rfl hr1 _ (by first | rfl | simp [World.size_ext]) rfl ?c1 ?c2 ?_))
          case c0 => first | rfl | (simp; omega) | omega
          case c1 => rw [List.length_append, n8_length]; simp; omega
          case c2 => exact hq1
          intro v2 w2 hr2 hc2
          have hb2 := hb1.trans (hc2.below hr1 hq1)
          try rw [List.append_assoc] at hr2
          replace hr2 : Row w2 q v2 (n8 (34 :: qB (s.data.toList.take i)) ++ [92, x.toNat]) := hr2
          rw [← he.out] at hr2
          go_wp2
          go_roundw
          case rel => exact ⟨i + 1, by omega, by go_num, hr2, hb2⟩
          case measure => simp [intOf]; omega
      · have d1 : ((x.toNat : Int) == 34) = false := by simp; omega
        have d2 : ((x.toNat : Int) == 92) = false := by simp; omega
        have he : n8 (34 :: qB (s.data.toList.take (i + 1))) = n8 (34 :: qB (s.data.toList.take i)) ++ [x.toNat] := by
          rw [ht.out, esc, if_neg (fun h => h1 (h.imp u8_34.2 u8_92.2))]
          simp [n8]
        have he := hide he
        clear ht
        go_wp2_with (at_builtin; go_must (refine app_byte rfl (.tmp 25) (.tmp 29) 64 rfl Tryd.underlying64 infoU8 q _ (_) (x.toNat) _ ?c0 rfl hB _ (by first | rfl | simp [World.size_ext]) rfl ?c1 ?c2 ?_))
        case c0 => rfl
        case c1 => rw [n8_length]; simp; omega
        case c2 => exact hqw
        intro v2 w2 hr2 hc2
        have hb2 := hb.trans (hc2.below hB hqw)
        rw [← he.out] at hr2
        go_wp2
        go_roundw
        case rel => exact ⟨i + 1, by omega, by go_num, hr2, hb2⟩
        case measure => simp [intOf]; omega
    · obtain rfl : i = s.size := by omega
      rw [take_all] at hB hlen
      go_wp2_with (at_builtin; go_must (refine app_byte rfl (.tmp 31) (.tmp 32) 64 rfl Tryd.underlying64 infoU8 q _ (_) (34) _ ?c0 rfl hB _ (by first | rfl | simp [World.size_ext]) rfl ?c1 ?c2 ?_))
      case c0 => rfl
      case c1 => rw [n8_length]; simp; omega
      case c2 => exact hqw
      intro v2 w2 hr2 hc2
      have hb2 := hb.trans (hc2.below hB hqw)
      have he : n8 (34 :: qB s.data.toList) ++ [34] = n8 (qL s.data.toList) := by simp [n8, qL]
      rw [he] at hr2
      obtain ⟨A2, n2, c2, rfl⟩ := hr2.shape
      have hcv := Row.conv (P := Tryd.prog) (dst := 9) hr2 Tryd.underlying64 Tryd.underlying5 Tryd.underlying9
      rw [strOf_n8] at hcv
      clear he
      go_wp2
      go_ret
      exact ⟨rfl, hb2⟩
end Go.Proofs.YtmfbidhnafpkdaaDoor
