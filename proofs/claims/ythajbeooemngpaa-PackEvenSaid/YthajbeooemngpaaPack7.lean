import Derived.Test.YthajbeooemngpaaPack6
/-! The law of samples at even steps. -/
namespace Go.Proofs.Ythajbeooemngpaa
open Go.RowKit
set_option linter.unusedVariables false
set_option linter.unusedSimpArgs false
set_option maxRecDepth 100000 in
set_option maxHeartbeats 1000000 in
theorem law_packEven (a b num : Int) (n : Nat) (w : World) (ha : I64 a) (hb : I64 b) (hnum : I64 num) (hn : n < 256) :
    Calls Try.prog 4 #[.int .i64 a, .int .i64 b, .int .u8 (n : Int), .int .i64 num] w fun e w' => e = .returned (.bool true) ∧ Below w.heap.size w w' := by
  obtain ⟨i0, hi, hz0, hz1, hz2⟩ := info_parts infoS
  unfold I64 at ha hb
  obtain ⟨S, hS, e1⟩ : ∃ S : Int, (0 ≤ S ∧ S ≤ 1000000) ∧ wrap64 ((IntKind.u64.wrap a).tmod 1000000) = S := ⟨_, by
    rw [Int.tmod_eq_emod_of_nonneg (by simp [IntKind.wrap, IntKind.signed, IntKind.bits]; omega)]
    unfold wrap64
    omega, rfl⟩
  obtain ⟨T, hT, e2⟩ : ∃ T : Int, (1 ≤ T ∧ T ≤ 1000000) ∧ wrap64 (1 + wrap64 ((IntKind.u64.wrap b).tmod 1000000)) = T := ⟨_, by
    rw [Int.tmod_eq_emod_of_nonneg (by simp [IntKind.wrap, IntKind.signed, IntKind.bits]; omega)]
    unfold wrap64
    omega, rfl⟩
  go_enter Try.func4, Try.ntmps4
  go_wp2
  rw [e1, e2]
  go_loopw [9, 26] (fun vl vi wr => ∃ j : Nat, j ≤ n ∧ vi = .int .i64 (j : Int) ∧ wr.ownsRow w.heap.size 36 2 vl j (smps (ev S T num j)) ∧ Below w.heap.size w wr) (fun _ vi _ => ((n : Int) - intOf vi).toNat)
  case atStart => exact ⟨0, by omega, rfl, ⟨rfl, .inl ⟨rfl, rfl⟩⟩, Below.refl _ _⟩
  case round =>
    obtain ⟨j, hj, rfl, hown, hbel⟩ := hrel
    have hs := hbel.size
    by_cases hlt : j < n
    · have hm := mul_bd (i := (j : Int)) (by omega) (by omega) (by omega) hT.2
      have f1 : wrap64 ((j : Int) * T) = (j : Int) * T := by unfold wrap64; omega
      have f2 : wrap64 (S + (j : Int) * T) = S + (j : Int) * T := by unfold wrap64; omega
      have HS : Hid (smps (ev S T num (j + 1)) = smps (ev S T num j) ++ [.int .i64 (S + (j : Int) * T), .int .i64 num]) := show _ = _ by rw [ev_succ, smps_append]; rfl
      go_wp2_with (at_builtin; go_must (refine wpList_append_own _ rfl (.tmp 29) (.tmp 37) 27 rfl (w.heap.size) 36 i0 (.agg #[.int .i64 0, .int .i64 0]) 2 16 Try.underlying27 hi hz0 hz1 hz2 rfl (by decide) u9 (j) _ rfl (hown.alloc _) ⟨wr.heap.size, 0, none⟩ 1 1 [.int .i64 (S + (j : Int) * T), .int .i64 num] rfl rfl ?c1 ?c2 ?c3 ?c4 ?c5 ?_))
      case c1 => exact cells_new _ #[_, _] _
      case c2 => simp [Value.oneCell']
      case c3 => unfold maxLen; omega
      case c4 => omega
      case c5 => simp; omega
      intro v' w1 hown1 hg1 _
      have hbel1 := own_below (hbel.alloc hs _) (hown.alloc _) hg1 (Nat.le_refl _) (by simp; omega)
      rw [← HS.out] at hown1
      go_wp2
      go_roundw
      case rel => exact ⟨j + 1, by omega, by go_num, hown1, hbel1⟩
      case measure => simp [intOf]; omega
    · obtain rfl : j = n := by omega
      obtain ⟨A, cap, rfl, hcap⟩ := own_slice hown
      have hq := Reads.of_own hown
      have hp : ∀ w', Below wr.heap.size wr w' → Calls Try.prog 15 #[.slice A j cap] w' fun e w'' => ((fineP (ev S T num j) = true ∧ ∃ u, e = .returned (.tuple #[u, .int .i64 0]) ∧ Row w'' w'.heap.size u (packB (ev S T num j) j)) ∨ (fineP (ev S T num j) = false ∧ e = .returned (.tuple #[.slice none 0 0, .int .i64 1]))) ∧ Below w'.heap.size w' w'' := fun w' h => ppack_any A j cap _ w' ((hq.below h).more h.size) (ev_i64 hS hT (by omega) hnum) (by omega)
      have hp2 : 2 ≤ j → ∀ w', Below wr.heap.size wr w' → Calls Try.prog 15 #[.slice A 2 cap] w' fun e w'' => ((fineP (ev S T num 2) = true ∧ ∃ u, e = .returned (.tuple #[u, .int .i64 0]) ∧ Row w'' w'.heap.size u (packB (ev S T num 2) 2)) ∨ (fineP (ev S T num 2) = false ∧ e = .returned (.tuple #[.slice none 0 0, .int .i64 1]))) ∧ Below w'.heap.size w' w'' := fun h2 w' h => by
        have hq2 := Reads_take hq h2
        rw [ev_take _ _ _ h2] at hq2
        exact ppack_any A 2 cap _ w' ((hq2.below h).more h.size) (ev_i64 hS hT (by omega) hnum) (by omega)
      have hff := ev_fine (num := num) hS hT (n := j) (by omega)
      have hff2 := ev_fine (num := num) hS hT (n := 2) (by omega)
      clear hi hz0 hz1 hz2
      have hpa : ∀ w', Below wr.heap.size wr w' → Calls Try.prog 18 #[] w' fun e w'' => e = .returned (.bool true) ∧ Below w'.heap.size w' w'' := fun w' _ => pawake_any w'
      obtain ⟨wo, rfl⟩ : ∃ wo : World, wo = wr := ⟨_, rfl⟩
      have hnf : fineP (ev S T num j) ≠ false := by rw [hff]; decide
      have hnf2 : fineP (ev S T num 2) ≠ false := by rw [hff2]; decide
      by_cases h2 : j < 2
      · have hL : (packB (ev S T num j) j).length ≤ 20 := by
          have h9 := numB_len (n := j) (by omega)
          rw [if_neg (by omega)] at h9
          rcases Nat.eq_zero_or_pos j with h0 | h0
          · subst h0
            simp only [packB, ev_length]
            omega
          · obtain rfl : j = 1 := by omega
            have b1 := numB_le _ (zig_lt _ (dd_bd (l := ev S T num 1) (i := 0) (by unfold fineP at hff; simp at hff; exact hff.2) (by rw [ev_length]; omega)))
            have b2 := numB_le _ (zig_lt _ (wrap_bd (nm (ev S T num 1) 0 - pn (ev S T num 1) 0)))
            simp only [packB, ev_length, List.length_append]
            unfold dn
            omega
        have hL' : ((packB (ev S T num j) j).length : Int) ≤ 20 := by omega
        have h2' : (j : Int) < 2 := by omega
        clear hown hq hp2
        go_wp2_with (first | (go_at_call 15; (with_reducible refine (hp _ (Below.refl _ _)).mono ?_); rintro e w2 ⟨(⟨_, u2, rfl, hu2⟩ | ⟨hf', _⟩), hb2⟩; rotate_left 1; (exact absurd hf' hnf); obtain ⟨A2, c2, rfl, -⟩ := hu2.slice) | (go_at_call 18; (with_reducible refine (hpa _ hb2).mono ?_); rintro e w3 ⟨rfl, hb3⟩))
        go_ret
        exact ⟨rfl, (hbel.trans (hb2.mono hs)).trans (hb3.mono (Nat.le_trans hs hb2.size))⟩
      · have hE := ev_even (S := S) (T := T) (num := num) (n := j) (by omega) hn
        obtain ⟨b0, o0, rfl, hb0, -⟩ := hq.plain (by omega) (by omega)
        have h2' : ¬(j : Int) < 2 := by omega
        have hp2 := hp2 (by omega)
        have hcap2 : 2 ≤ cap := by omega
        have hx2 : (if (248 : Int) ≤ 2 then (1 : Int) else 0) = 0 := if_neg (by omega)
        have hlb := packB_length (ev S T num j) (by rw [ev_length]; omega) (by unfold fineP at hff; simp at hff; exact hff.2) j (by rw [ev_length]; omega)
        have hlb2 := packB_length (ev S T num 2) (by rw [ev_length]; omega) (by unfold fineP at hff2; simp at hff2; exact hff2.2) 2 (by rw [ev_length]; omega)
        clear hown hq
        generalize hX : (if (248 : Int) ≤ (j : Int) then (1 : Int) else 0) = X at *
        have hX1 : 0 ≤ X ∧ X ≤ 1 := by rw [← hX]; split <;> omega
        have hex : ∀ w', Calls Try.prog 21 #[.int .i64 (j : Int)] w' fun e w'' => e = .returned (.int .i64 X) ∧ Below w'.heap.size w' w'' := fun w' => by rw [← hX]; exact extra_any _ w'
        have hex2 : ∀ w', Calls Try.prog 21 #[.int .i64 2] w' fun e w'' => e = .returned (.int .i64 0) ∧ Below w'.heap.size w' w'' := fun w' => extra_any 2 w'
        go_wp2_with (first | (go_at_call 15; (with_reducible refine (hp _ (Below.refl _ _)).mono ?_); rintro e w2 ⟨(⟨_, u2, rfl, hu2⟩ | ⟨hf', _⟩), hb2⟩; rotate_left 1; (exact absurd hf' hnf); obtain ⟨A2, c2, rfl, -⟩ := hu2.slice) | (go_at_call 18; (with_reducible refine (hpa _ hb2).mono ?_); rintro e w3 ⟨rfl, hb3⟩; have hb23 := hb2.trans (hb3.mono hb2.size)) | (go_at_call 15; (with_reducible refine (hp2 _ hb23).mono ?_); rintro e w4 ⟨(⟨_, u4, rfl, hu4⟩ | ⟨hf', _⟩), hb4⟩; rotate_left 1; (exact absurd hf' hnf2); obtain ⟨A4, c4, rfl, -⟩ := hu4.slice; have hb24 := hb23.trans (hb4.mono hb23.size)) | (go_at_call 21; (with_reducible refine (hex _).mono ?_); rintro e w5 ⟨rfl, hb5⟩; have hb25 := hb24.trans (hb5.mono hb24.size)) | (go_at_call 21; (with_reducible refine (hex2 _).mono ?_); rintro e w6 ⟨rfl, hb6⟩; have hb26 := hb25.trans (hb6.mono hb25.size)))
        go_ret
        exact ⟨rfl, hbel.trans (hb26.mono hs)⟩
section
open Go.ChangeShapes Go.WideShapes Go.ChangeAt
variable {H : Type} {enc : TypeId × Value → H}
set_option maxRecDepth 100000 in
theorem packEven_walk : LawWalk enc Try.prog 4 Try.f4 := by
  intro W base args ds ps hval hA hlt _
  rw [Try.params4] at hA hval
  obtain ⟨v0, v1, v2, v3, d0, d1, d2, d3, p0, p1, p2, p3, rfl, rfl, rfl, h0, h1, h2, h3⟩ := trodAll_four hA
  obtain ⟨a, rfl, _, _, ha⟩ := open_int Try.underlying2 (hval 0 _ v0 rfl rfl) h0
  obtain ⟨b, rfl, _, _, hb⟩ := open_int Try.underlying2 (hval 1 _ v1 rfl rfl) h1
  obtain ⟨n, rfl, _, _, hn⟩ := open_int Try.underlying5 (hval 2 _ v2 rfl rfl) h2
  obtain ⟨m, rfl, _, _, hm⟩ := open_int Try.underlying2 (hval 3 _ v3 rfl rfl) h3
  simp [Lit.wf, IntKind.min, IntKind.max, IntKind.signed, IntKind.bits] at ha hb hn hm
  obtain ⟨k, rfl⟩ := Int.eq_ofNat_of_zero_le hn.1
  exact law_packEven a b m k W ha hb hm (by omega)
set_option maxRecDepth 100000 in
theorem packEven_lifted (os : Os) (started : os.Started) (H : Type) (enc : TypeId × Value → H) :
    ReturnsInHanded {} Try.checked os 4 .any (Rows.packEvenSpec.pre6 enc Try.prog Try.f4 Rows.packEvenRow.domain false) (Rows.packEvenSpec.post enc Try.prog Try.f4 false true false false) :=
  law_lifted (C := Try.checked) own started (by kernel_rfl) Try.func4 laidOut (by kernel_rfl) rfl Try.underlying4 rfl
    (fun ds h => by obtain ⟨d0, d1, d2, d3, rfl⟩ := list4 h; rfl)
    (ChangeSpec.witness6 (enc := enc) (C := Try.checked) false ⟨#[], #[.int .i64 0, .int .i64 0, .int .u8 0, .int .i64 0], []⟩ 8 (by kernel_rfl) (by kernel_rfl) (by kernel_rfl) (by kernel_rfl))
    packEven_walk
theorem packEven_holds : Rows.PackEvenSaid :=
  OpenClaim.holds_of_wide 4 Try.f4 rfl rfl rfl rfl rfl rfl rfl ⟨rfl, rfl, rfl, rfl, rfl⟩ rfl rfl rfl rfl rfl (by kernel_rfl) Try.func4 (by kernel_rfl)
    (of_decide_eq_true (by kernel_rfl)) (by unfold Func.isWrapper; rw [if_neg (of_decide_eq_false (by kernel_rfl))]; exact ⟨rfl, rfl⟩)
    (fun os started H enc _ => packEven_lifted os started H enc)
#print axioms packEven_holds
end
end Go.Proofs.Ythajbeooemngpaa
