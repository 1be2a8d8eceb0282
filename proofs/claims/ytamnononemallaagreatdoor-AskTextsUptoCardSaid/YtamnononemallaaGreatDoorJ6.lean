import Derived.Test.YtamnononemallaaGreatDoorJ5
/-! The query that a text is: the document's Parse, its walk. -/
namespace Go.Proofs.YtamnononemallaaGreatDoor
open Go.RowKit
set_option linter.unusedVariables false
set_option linter.unusedSimpArgs false
set_option maxRecDepth 100000 in
set_option maxHeartbeats 40000000 in
theorem dparse_any (s : ByteArray) (hs : s.size ≤ 3000000000000) (w : World) :
    Calls Tryz.prog 7 #[.string s] w fun e w' => (∃ u, e = .returned (.tuple #[.agg #[.int .i64 (parQ s.data.toList).q.op, u, .int .i64 (parQ s.data.toList).q.f, .int .i64 (parQ s.data.toList).q.t, .int .i64 (parQ s.data.toList).q.s, .bool (parQ s.data.toList).q.n], .int .i64 (parQ s.data.toList).e]) ∧ Rz w' u (parQ s.data.toList).q.r) ∧ Below w.heap.size w w' := by
  have hsz := Lib.size_eq s
  obtain ⟨q, hq⟩ : ∃ q, w.heap.size = q := ⟨_, rfl⟩
  have hA0 := Blk.new w 24 #[.int .i64 0, .slice none 0 0, .int .i64 0, .int .i64 0, .int .i64 0, .bool false]
  rw [hq] at hA0
  have hb0 : Below w.heap.size w (w.alloc (.cells #[.int .i64 0, .slice none 0 0, .int .i64 0, .int .i64 0, .int .i64 0, .bool false] 24)) := Below.alloc (Below.refl _ _) (Nat.le_refl _) _
  by_cases h1 : 4096 < s.size
  · have d1 : (4096 : Int) < s.size := by omega
    have hO := hide (parQ_long (T := s.data.toList) (by omega))
    clear hsz h1
    go_enter Tryz.func7, Tryz.ntmps7
    go_wp2
    refine bodyPost_cell_tmp (g := q) (cs := #[.int .i64 0, .slice none 0 0, .int .i64 0, .int .i64 0, .int .i64 0, .bool false]) Tryz.results7 rfl (by first | with_reducible exact hA0 | with_reducible exact Blk.six hA0) Tryz.underlying24 rfl (by kernel_rfl) rfl ⟨⟨.slice none 0 0, by rw [hO.out]; rfl, by rw [hO.out]; exact Rz.nil _⟩, by first | with_reducible exact hb0 | (rw [hq]; with_reducible exact hb0) | (rw [hq]; with_reducible exact below_six hb0 (Nat.le_refl _) _ _ _ _ _ _)⟩
  have d1 : ¬ (4096 : Int) < s.size := by omega
  obtain ⟨N, hN⟩ : ∃ N, (headT s.data.toList).length = N := ⟨_, rfl⟩
  have hB0 : Blk ((w.alloc (.cells #[.int .i64 0, .slice none 0 0, .int .i64 0, .int .i64 0, .int .i64 0, .bool false] 24)).alloc (.cells #[.int .i64 (-1), (.slice none 0 0), .int .i64 0, .int .i64 0, .int .i64 0, .bool false] 24)) (q + 1) 24 #[.int .i64 (-1), (.slice none 0 0), .int .i64 0, .int .i64 0, .int .i64 0, .bool false] := hq ▸ Blk.made w _ _ _
  have hA1 := hA0.alloc (.cells #[.int .i64 (-1), (.slice none 0 0), .int .i64 0, .int .i64 0, .int .i64 0, .bool false] 24)
  have hb1 : Below w.heap.size w ((w.alloc (.cells #[.int .i64 0, .slice none 0 0, .int .i64 0, .int .i64 0, .int .i64 0, .bool false] 24)).alloc (.cells #[.int .i64 (-1), (.slice none 0 0), .int .i64 0, .int .i64 0, .int .i64 0, .bool false] 24)) := hb0.alloc (by simp) _
  have hTK := hide (show s.data.toList.take N = headT s.data.toList from by rw [← hN]; exact headT_take _)
  have hNl := headT_le s.data.toList
  rw [hN] at hNl
  have K0 := hide (⟨hsz, hN, hs⟩ : _ ∧ _ ∧ _)
  have hNi : (N : Int) ≤ s.size := by omega
  clear hsz hN hs h1 hNl
  go_enter Tryz.func7, Tryz.ntmps7
  go_wp2
  go_loopw [4] (fun s4 wr => ∃ i : Nat, i ≤ s.size ∧ s4 = .int .i64 (i : Int) ∧ (headT (s.data.toList.drop i)).length + i = N ∧ wr = w.alloc (.cells #[.int .i64 0, .slice none 0 0, .int .i64 0, .int .i64 0, .int .i64 0, .bool false] 24)) (fun s4 _ => ((s.size : Int) - intOf s4).toNat)
  case atStart => exact ⟨0, by omega, rfl, by rw [List.drop_zero]; exact K0.out.2.1, rfl⟩
  case round =>
    obtain ⟨i, hi, rfl, hiN, rfl⟩ := hrel
    by_cases hlt : i < s.size
    · have hii : decide ((i : Int) < s.size) = true := decide_eq_true (by omega)
      have hii' : (i : Int) < s.size := by omega
      have hde := drop9 hlt
      obtain ⟨x, hx⟩ : ∃ x : UInt8, s[i] = x := ⟨_, rfl⟩
      rw [hx] at hde
      by_cases hx3 : x.toNat = 123
      · have e1 : ((x.toNat : Int) != 123) = false := by simp; omega
        obtain rfl : x = 123 := UInt8.toNat_inj.1 hx3
        rw [hde, headT_open, Nat.zero_add] at hiN
        obtain rfl : N = i := hiN.symm
        have d2 : ((N : Int) == s.size) = false := by rw [beq_eq_false_iff_ne]; omega
        have d3 : (0 : Int) ≤ N := by omega
        clear hde hx3
        go_wp2
        refine abstr (fun W => Below q w W ∧ Blk W q 24 #[.int .i64 0, .slice none 0 0, .int .i64 0, .int .i64 0, .int .i64 0, .bool false] ∧ Blk W (q + 1) 24 #[.int .i64 (opN 0 (headT s.data.toList)), (.slice none 0 0), .int .i64 0, .int .i64 0, .int .i64 0, .bool false]) ⟨hq ▸ hb1, hA1, hB0⟩ (fun W hW => ?_)
        obtain ⟨hbW, hAW, hBW⟩ := hW
        clear hb0 hb1 hA0 hA1 hB0
        go_loopw [6] (fun s6 wr => ∃ j : Nat, j ≤ 6 ∧ s6 = .int .i64 (j : Int) ∧ Below q w wr ∧ Blk wr q 24 #[.int .i64 0, .slice none 0 0, .int .i64 0, .int .i64 0, .int .i64 0, .bool false] ∧ Blk wr (q + 1) 24 #[.int .i64 (opN j (headT s.data.toList)), (.slice none 0 0), .int .i64 0, .int .i64 0, .int .i64 0, .bool false]) (fun s6 _ => (6 - intOf s6).toNat)
        case atStart => exact ⟨0, by omega, rfl, hbW, hAW, hBW⟩
        case round =>
          clear hbW hAW hBW
          obtain ⟨j, hj, rfl, hbR, hAR, hBR⟩ := hrel
          have hqR : q ≤ wr.heap.size := by rw [← hq]; exact hbR.size
          by_cases hj5 : j < 6
          · have hji : (j : Int) ≤ 5 := by omega
            have hWd := fun W => dword_any (j : Int) W
            rw [wordOf_nat (by omega)] at hWd
            have hqe := eqB9 (s.extract 0 N) ⟨(wordB j).toArray⟩
            simp only [List.toList_toArray, Lib.extract_from_zero] at hqe
            rw [hTK.out] at hqe
            by_cases hw : headT s.data.toList = wordB j
            · rw [decide_eq_true hw] at hqe
              have hN1 := hide (opN_hit hw)
              generalize (⟨(wordB j).toArray⟩ : ByteArray) = wk at *
              clear hw
              generalize opN j (headT s.data.toList) = oj at *
              have kc := hBR.cell
              have kf := hBR.frozen
              go_wp2
              refine wp_region_ext_lit (by kernel_rfl) (by kernel_rfl) ?_
              (repeat (first | ((with_reducible refine wpQuiet_step (fun K hK => ?_)); go_simp; first | ((with_reducible refine hK _ ?_); clear hK K) | (apply Exists.intro; (with_reducible refine ⟨fun _ => ?_, hK _ ?_⟩); (go_at_call 31; exact Calls.ext_of (hWd _)); clear hK K)) | ((with_reducible refine quiet_skipN ?_ (fun K hK => ?_)); (rfl); go_simp; (with_reducible refine hK _ ?_); clear hK K)))
              (with_reducible refine wpQuiet_nil ?_); intro _ hw'; obtain ⟨X, hw''⟩ := hw'; subst hw''
              have hBX := hBR.ext X
              have kcX := hBX.cell
              have kfX := hBX.frozen
              go_wp2
              go_roundw
              case rel => exact ⟨j + 1, by omega, by go_num, (hbR.trans ((World.below_ext wr X).mono hqR)).setCell (Nat.le_succ q) _, (hAR.ext X).far (p := ⟨q + 1, 0, none⟩) (Nat.ne_of_lt (Nat.lt_succ_self q)) _, by rw [hN1.out]; exact hBX.set_ 0 _⟩
              case measure => first | (simp [intOf]; done) | (simp [intOf]; omega)
            · rw [decide_eq_false hw] at hqe
              have hN1 := hide (opN_miss hw)
              generalize (⟨(wordB j).toArray⟩ : ByteArray) = wk at *
              clear hw
              go_wp2
              refine wp_region_ext_lit (by kernel_rfl) (by kernel_rfl) ?_
              (repeat (first | ((with_reducible refine wpQuiet_step (fun K hK => ?_)); go_simp; first | ((with_reducible refine hK _ ?_); clear hK K) | (apply Exists.intro; (with_reducible refine ⟨fun _ => ?_, hK _ ?_⟩); (go_at_call 31; exact Calls.ext_of (hWd _)); clear hK K)) | ((with_reducible refine quiet_skipN ?_ (fun K hK => ?_)); (rfl); go_simp; (with_reducible refine hK _ ?_); clear hK K)))
              (with_reducible refine wpQuiet_nil ?_); intro _ hw'; obtain ⟨X, hw''⟩ := hw'; subst hw''
              go_wp2
              go_roundw
              case rel => exact ⟨j + 1, by omega, by go_num, hbR.trans ((World.below_ext wr X).mono hqR), hAR.ext X, by rw [hN1.out]; exact hBR.ext X⟩
              case measure => first | (simp [intOf]; done) | (simp [intOf]; omega)
          · obtain rfl : j = 6 := by omega
            cases ho : opW (headT s.data.toList) with
            | none =>
              have e9 : opN 6 (headT s.data.toList) = -1 := by unfold opN; rw [show opD 6 (headT s.data.toList) = none from ho]
              rw [e9] at hBR
              have hO := hide (parQ_noop (T := s.data.toList) (by have := K0.out; omega) ho)
              have kc := hBR.cell
              have ka := hAR.cell
              have kb := hAR.frozen
              clear ho e9
              go_wp2
              refine bodyPost_cell_tmp (g := q) (cs := #[.int .i64 0, .slice none 0 0, .int .i64 0, .int .i64 0, .int .i64 0, .bool false]) Tryz.results7 rfl (by first | with_reducible exact hAR | with_reducible exact Blk.six hAR) Tryz.underlying24 rfl (by kernel_rfl) rfl ⟨⟨.slice none 0 0, by rw [hO.out]; rfl, by rw [hO.out]; exact Rz.nil _⟩, by first | with_reducible exact hbR | (rw [hq]; with_reducible exact hbR) | (rw [hq]; with_reducible exact below_six hbR (Nat.le_refl _) _ _ _ _ _ _)⟩
            | some k =>
              have e9 : opN 6 (headT s.data.toList) = (k : Int) := by unfold opN; rw [show opD 6 (headT s.data.toList) = some k from ho]
              rw [e9] at hBR
              have hk5 := (opW_inv ho).2
              have d5 : ¬ ((k : Int) < 0) := by omega
              have hMP := fun W => rparse_any (s.extract N s.size) (by rw [ByteArray.size_extract]; omega) W
              rw [Lib.extract_to_end] at hMP
              have hnle := psq_le (s.data.toList.drop N)
              obtain ⟨⟨rs, n⟩, hps⟩ : ∃ p, psq (s.data.toList.drop N) = p := ⟨_, rfl⟩
              rw [hps] at hMP hnle
              rw [List.length_drop] at hnle
              dsimp only at hMP hnle
              have kc := hBR.cell
              have ka := hAR.cell
              have kb := hAR.frozen
              have h2N : (headT s.data.toList).length ≠ s.data.toList.length := by have := K0.out; omega
              by_cases hn : n = 0
              · subst hn
                have hO := hide (parQ_norule (T := s.data.toList) (by have := K0.out; omega) h2N ho (by rw [K0.out.2.1, hps]))
                clear ho hps hnle h2N
                go_wp2_with (go_at_call 32; (with_reducible refine (hMP _).mono ?_); rintro e w1 ⟨⟨u, rfl, hZ⟩, hb1⟩; have hA1 := hAR.below hb1 hAR.lt; have kf1 := hA1.frozen; have kg1 := hA1.cell; have hb01 := hbR.trans (hb1.mono hqR))
                refine bodyPost_cell_tmp (g := q) (cs := #[.int .i64 0, .slice none 0 0, .int .i64 0, .int .i64 0, .int .i64 0, .bool false]) Tryz.results7 rfl (by first | with_reducible exact hA1 | with_reducible exact Blk.six hA1) Tryz.underlying24 rfl (by kernel_rfl) rfl ⟨⟨.slice none 0 0, by rw [hO.out]; rfl, by rw [hO.out]; exact Rz.nil _⟩, by first | with_reducible exact hb01 | (rw [hq]; with_reducible exact hb01) | (rw [hq]; with_reducible exact below_six hb01 (Nat.le_refl _) _ _ _ _ _ _)⟩
              have hnn : ((n : Int) == 0) = false := by rw [beq_eq_false_iff_ne]; omega
              have i1 : (N : Int) + n ≤ s.size := by have := K0.out.1; omega
              have i2 : (0 : Int) ≤ (N : Int) + n := by omega
              have hQ := parQ_d (T := s.data.toList) (by have := K0.out; omega) h2N ho (rs := rs) (n := n) (by rw [K0.out.2.1, hps]) hn
              rw [K0.out.2.1] at hQ
              have hrR : rightR rs = true := by
                obtain ⟨_, _, _, h⟩ := psq_inv (T := s.data.toList.drop N) (l := rs) (n := n) hps hn
                exact h
              have KQ := hide hQ
              clear hQ ho hps hnle h2N e9
              by_cases hk0 : k = 0
              · subst hk0
                obtain ⟨x1, a1, hp1⟩ : ∃ x a, numF s.data.toList ((N + n : Nat) : Int) = ⟨x, a⟩ := ⟨_, _, rfl⟩
                obtain ⟨x2, a2, hp2⟩ : ∃ x a, numF s.data.toList a1 = ⟨x, a⟩ := ⟨_, _, rfl⟩
                have hEn : Ends s.data.toList 0 (N + n) x1 x2 0 a2 := ⟨fun _ => by rw [hp1]; dsimp only; rw [hp2]; exact ⟨rfl, rfl, rfl, rfl⟩, fun h => absurd rfl h⟩
                have hD1 := fun W => dnum_any s K0.out.2.2 ((N + n : Nat) : Int) W
                rw [hp1, Int.natCast_add] at hD1
                have hD2 := fun W => dnum_any s K0.out.2.2 a1 W
                rw [hp2] at hD2
                dsimp only at hD1 hD2
                have hle := hEn.le
                have hszl : ((s.data.toList).length : Int) = s.size := by rw [K0.out.1]
                rw [hszl] at hle
                have KE := hide hEn
                clear hEn hp1 hp2 hszl
                by_cases he : a2 < 0
                · have hO := hide (dq_neg KQ.out KE.out he)
                  have d9 : decide (a2 < 0) = true := decide_eq_true he
                  clear hle he
                  go_wp2_with (first
                    | (go_at_call 32; (with_reducible refine (hMP _).mono ?_); rintro e w1 ⟨⟨u, rfl, hZ⟩, hb1⟩; obtain ⟨Au, cu, rfl⟩ := hZ.shape; have hA1 := hAR.below hb1 hAR.lt; have hB1 := hBR.below hb1 hBR.lt; have kf1 := hB1.frozen; have kc1 := hB1.cell; have kg1 := hA1.frozen; have kd1 := hA1.cell; have hb01 := hbR.trans (hb1.mono hqR); have hne : ¬ (q = q + 1) := (by omega))
                    | (go_at_call 33; (with_reducible refine (hD1 _).mono ?_); rintro e v1 ⟨rfl, rfl⟩)
                    | (go_at_call 33; (with_reducible refine (hD2 _).mono ?_); rintro e v2 ⟨rfl, rfl⟩))
                  have hBs0 : Blk (w1.setCell ⟨q + 1, 1, none⟩ (.slice Au rs.length cu)) (q + 1) 24 #[.int .i64 0, (.slice Au rs.length cu), .int .i64 0, .int .i64 0, .int .i64 0, .bool false] := hB1.set_ 1 _
                  have hZs0 : Rz (w1.setCell ⟨q + 1, 1, none⟩ (.slice Au rs.length cu)) (.slice Au rs.length cu) rs := rz_set hZ hB1 1 _
                  have hAs0 : Blk (w1.setCell ⟨q + 1, 1, none⟩ (.slice Au rs.length cu)) q 24 #[.int .i64 0, .slice none 0 0, .int .i64 0, .int .i64 0, .int .i64 0, .bool false] := hA1.far (p := ⟨q + 1, 1, none⟩) (Nat.ne_of_lt (Nat.lt_succ_self q)) _
                  have hbs0 : Below q w (w1.setCell ⟨q + 1, 1, none⟩ (.slice Au rs.length cu)) := hb01.setCell (Nat.le_succ q) _
                  have hBs1 : Blk ((w1.setCell ⟨q + 1, 1, none⟩ (.slice Au rs.length cu)).setCell ⟨q + 1, 2, none⟩ (.int .i64 x1)) (q + 1) 24 #[.int .i64 0, (.slice Au rs.length cu), .int .i64 x1, .int .i64 0, .int .i64 0, .bool false] := hBs0.set_ 2 _
                  have hZs1 : Rz ((w1.setCell ⟨q + 1, 1, none⟩ (.slice Au rs.length cu)).setCell ⟨q + 1, 2, none⟩ (.int .i64 x1)) (.slice Au rs.length cu) rs := rz_set hZs0 hBs0 2 _
                  have hAs1 : Blk ((w1.setCell ⟨q + 1, 1, none⟩ (.slice Au rs.length cu)).setCell ⟨q + 1, 2, none⟩ (.int .i64 x1)) q 24 #[.int .i64 0, .slice none 0 0, .int .i64 0, .int .i64 0, .int .i64 0, .bool false] := hAs0.far (p := ⟨q + 1, 2, none⟩) (Nat.ne_of_lt (Nat.lt_succ_self q)) _
                  have hbs1 : Below q w ((w1.setCell ⟨q + 1, 1, none⟩ (.slice Au rs.length cu)).setCell ⟨q + 1, 2, none⟩ (.int .i64 x1)) := hbs0.setCell (Nat.le_succ q) _
                  have hBs2 : Blk (((w1.setCell ⟨q + 1, 1, none⟩ (.slice Au rs.length cu)).setCell ⟨q + 1, 2, none⟩ (.int .i64 x1)).setCell ⟨q + 1, 3, none⟩ (.int .i64 x2)) (q + 1) 24 #[.int .i64 0, (.slice Au rs.length cu), .int .i64 x1, .int .i64 x2, .int .i64 0, .bool false] := hBs1.set_ 3 _
                  have hZs2 : Rz (((w1.setCell ⟨q + 1, 1, none⟩ (.slice Au rs.length cu)).setCell ⟨q + 1, 2, none⟩ (.int .i64 x1)).setCell ⟨q + 1, 3, none⟩ (.int .i64 x2)) (.slice Au rs.length cu) rs := rz_set hZs1 hBs1 3 _
                  have hAs2 : Blk (((w1.setCell ⟨q + 1, 1, none⟩ (.slice Au rs.length cu)).setCell ⟨q + 1, 2, none⟩ (.int .i64 x1)).setCell ⟨q + 1, 3, none⟩ (.int .i64 x2)) q 24 #[.int .i64 0, .slice none 0 0, .int .i64 0, .int .i64 0, .int .i64 0, .bool false] := hAs1.far (p := ⟨q + 1, 3, none⟩) (Nat.ne_of_lt (Nat.lt_succ_self q)) _
                  have hbs2 : Below q w (((w1.setCell ⟨q + 1, 1, none⟩ (.slice Au rs.length cu)).setCell ⟨q + 1, 2, none⟩ (.int .i64 x1)).setCell ⟨q + 1, 3, none⟩ (.int .i64 x2)) := hbs1.setCell (Nat.le_succ q) _
                  refine bodyPost_cell_tmp (g := q) (cs := #[.int .i64 0, .slice none 0 0, .int .i64 0, .int .i64 0, .int .i64 0, .bool false]) Tryz.results7 rfl (Blk.six (u0 := .int .i64 0) (u1 := .slice none 0 0) (u2 := .int .i64 0) (u3 := .int .i64 0) (u4 := .int .i64 0) (u5 := .bool false) hAs2) Tryz.underlying24 rfl (by kernel_rfl) rfl ⟨⟨.slice none 0 0, by rw [hO.out]; rfl, by rw [hO.out]; exact Rz.nil _⟩, ?_⟩
                  rw [hq]
                  exact below_six hbs2 (Nat.le_refl _) _ _ _ _ _ _
                obtain ⟨E, rfl⟩ : ∃ E : Nat, a2 = E := ⟨a2.toNat, by omega⟩
                have d9 : decide ((E : Int) < 0) = false := decide_eq_false he
                have i5 : (E : Int) ≤ s.size := by omega
                have i6 : (0 : Int) ≤ (E : Int) := by omega
                have hne9 := eqB9 (s.extract E s.size) ⟨#[32, 110, 111, 116, 101, 115]⟩
                rw [Lib.extract_to_end, ByteArray.toList_eq (⟨#[32, 110, 111, 116, 101, 115]⟩ : ByteArray)] at hne9
                by_cases hnt : s.data.toList.drop E = 32 :: notesB
                · have hx9 : ((s.extract E s.size).toList == [32, 110, 111, 116, 101, 115]) = true := by rw [hne9]; exact decide_eq_true hnt
                  have HB := hide (show (true = true ∧ s.data.toList.drop ((E : Int)).toNat = 32 :: notesB) ∨ (true = false ∧ s.data.toList.drop ((E : Int)).toNat = []) from .inl ⟨rfl, by rw [Int.toNat_natCast]; exact hnt⟩)
                  clear hne9 hnt
                  have hE : parQ s.data.toList = if rightQ ⟨0, rs, x1, x2, 0, true⟩ = true then ⟨0, ⟨0, rs, x1, x2, 0, true⟩⟩ else ⟨90, zeroQ⟩ := dq_end (k := 0) KQ.out KE.out (by omega) HB.out
                  have hR := fun rv W h => dright_any ⟨0, rs, x1, x2, 0, true⟩ rv W h ⟨right_oks hrR, by dsimp only; omega, by dsimp only; omega, by dsimp only; omega, by dsimp only; omega⟩
                  cases hrq : rightQ ⟨0, rs, x1, x2, 0, true⟩ with
                  | false =>
                    rw [hrq] at hE hR
                    have hO := hide (show parQ s.data.toList = ⟨90, zeroQ⟩ from by rw [hE, if_neg (by decide)])
                    clear hE hrq
                    go_wp2_with (first
                      | (go_at_call 32; (with_reducible refine (hMP _).mono ?_); rintro e w1 ⟨⟨u, rfl, hZ⟩, hb1⟩; obtain ⟨Au, cu, rfl⟩ := hZ.shape; have hA1 := hAR.below hb1 hAR.lt; have hB1 := hBR.below hb1 hBR.lt; have kf1 := hB1.frozen; have kc1 := hB1.cell; have kg1 := hA1.frozen; have kd1 := hA1.cell; have hb01 := hbR.trans (hb1.mono hqR); have hne : ¬ (q = q + 1) := (by omega); have hBs0 : Blk (w1.setCell ⟨q + 1, 1, none⟩ (.slice Au rs.length cu)) (q + 1) 24 #[.int .i64 0, (.slice Au rs.length cu), .int .i64 0, .int .i64 0, .int .i64 0, .bool false] := hB1.set_ 1 _; have hZs0 : Rz (w1.setCell ⟨q + 1, 1, none⟩ (.slice Au rs.length cu)) (.slice Au rs.length cu) rs := rz_set hZ hB1 1 _; have hAs0 : Blk (w1.setCell ⟨q + 1, 1, none⟩ (.slice Au rs.length cu)) q 24 #[.int .i64 0, .slice none 0 0, .int .i64 0, .int .i64 0, .int .i64 0, .bool false] := hA1.far (p := ⟨q + 1, 1, none⟩) (Nat.ne_of_lt (Nat.lt_succ_self q)) _; have hbs0 : Below q w (w1.setCell ⟨q + 1, 1, none⟩ (.slice Au rs.length cu)) := hb01.setCell (Nat.le_succ q) _; have hBs1 : Blk ((w1.setCell ⟨q + 1, 1, none⟩ (.slice Au rs.length cu)).setCell ⟨q + 1, 2, none⟩ (.int .i64 x1)) (q + 1) 24 #[.int .i64 0, (.slice Au rs.length cu), .int .i64 x1, .int .i64 0, .int .i64 0, .bool false] := hBs0.set_ 2 _; have hZs1 : Rz ((w1.setCell ⟨q + 1, 1, none⟩ (.slice Au rs.length cu)).setCell ⟨q + 1, 2, none⟩ (.int .i64 x1)) (.slice Au rs.length cu) rs := rz_set hZs0 hBs0 2 _; have hAs1 : Blk ((w1.setCell ⟨q + 1, 1, none⟩ (.slice Au rs.length cu)).setCell ⟨q + 1, 2, none⟩ (.int .i64 x1)) q 24 #[.int .i64 0, .slice none 0 0, .int .i64 0, .int .i64 0, .int .i64 0, .bool false] := hAs0.far (p := ⟨q + 1, 2, none⟩) (Nat.ne_of_lt (Nat.lt_succ_self q)) _; have hbs1 : Below q w ((w1.setCell ⟨q + 1, 1, none⟩ (.slice Au rs.length cu)).setCell ⟨q + 1, 2, none⟩ (.int .i64 x1)) := hbs0.setCell (Nat.le_succ q) _; have hBs2 : Blk (((w1.setCell ⟨q + 1, 1, none⟩ (.slice Au rs.length cu)).setCell ⟨q + 1, 2, none⟩ (.int .i64 x1)).setCell ⟨q + 1, 3, none⟩ (.int .i64 x2)) (q + 1) 24 #[.int .i64 0, (.slice Au rs.length cu), .int .i64 x1, .int .i64 x2, .int .i64 0, .bool false] := hBs1.set_ 3 _; have hZs2 : Rz (((w1.setCell ⟨q + 1, 1, none⟩ (.slice Au rs.length cu)).setCell ⟨q + 1, 2, none⟩ (.int .i64 x1)).setCell ⟨q + 1, 3, none⟩ (.int .i64 x2)) (.slice Au rs.length cu) rs := rz_set hZs1 hBs1 3 _; have hAs2 : Blk (((w1.setCell ⟨q + 1, 1, none⟩ (.slice Au rs.length cu)).setCell ⟨q + 1, 2, none⟩ (.int .i64 x1)).setCell ⟨q + 1, 3, none⟩ (.int .i64 x2)) q 24 #[.int .i64 0, .slice none 0 0, .int .i64 0, .int .i64 0, .int .i64 0, .bool false] := hAs1.far (p := ⟨q + 1, 3, none⟩) (Nat.ne_of_lt (Nat.lt_succ_self q)) _; have hbs2 : Below q w (((w1.setCell ⟨q + 1, 1, none⟩ (.slice Au rs.length cu)).setCell ⟨q + 1, 2, none⟩ (.int .i64 x1)).setCell ⟨q + 1, 3, none⟩ (.int .i64 x2)) := hbs1.setCell (Nat.le_succ q) _; have hBs3 : Blk ((((w1.setCell ⟨q + 1, 1, none⟩ (.slice Au rs.length cu)).setCell ⟨q + 1, 2, none⟩ (.int .i64 x1)).setCell ⟨q + 1, 3, none⟩ (.int .i64 x2)).setCell ⟨q + 1, 5, none⟩ (.bool true)) (q + 1) 24 #[.int .i64 0, (.slice Au rs.length cu), .int .i64 x1, .int .i64 x2, .int .i64 0, .bool true] := hBs2.set_ 5 _; have hZs3 : Rz ((((w1.setCell ⟨q + 1, 1, none⟩ (.slice Au rs.length cu)).setCell ⟨q + 1, 2, none⟩ (.int .i64 x1)).setCell ⟨q + 1, 3, none⟩ (.int .i64 x2)).setCell ⟨q + 1, 5, none⟩ (.bool true)) (.slice Au rs.length cu) rs := rz_set hZs2 hBs2 5 _; have hAs3 : Blk ((((w1.setCell ⟨q + 1, 1, none⟩ (.slice Au rs.length cu)).setCell ⟨q + 1, 2, none⟩ (.int .i64 x1)).setCell ⟨q + 1, 3, none⟩ (.int .i64 x2)).setCell ⟨q + 1, 5, none⟩ (.bool true)) q 24 #[.int .i64 0, .slice none 0 0, .int .i64 0, .int .i64 0, .int .i64 0, .bool false] := hAs2.far (p := ⟨q + 1, 5, none⟩) (Nat.ne_of_lt (Nat.lt_succ_self q)) _; have hbs3 : Below q w ((((w1.setCell ⟨q + 1, 1, none⟩ (.slice Au rs.length cu)).setCell ⟨q + 1, 2, none⟩ (.int .i64 x1)).setCell ⟨q + 1, 3, none⟩ (.int .i64 x2)).setCell ⟨q + 1, 5, none⟩ (.bool true)) := hbs2.setCell (Nat.le_succ q) _)
                      | (go_at_call 33; (with_reducible refine (hD1 _).mono ?_); rintro e v1 ⟨rfl, rfl⟩)
                      | (go_at_call 33; (with_reducible refine (hD2 _).mono ?_); rintro e v2 ⟨rfl, rfl⟩)
                      | (go_at_call 11; (with_reducible refine (hR _ _ hZs3).mono ?_); rintro e w5 ⟨rfl, hb5⟩; have hA5 := hAs3.below hb5 hAs3.lt; have hB5 := hBs3.below hb5 hBs3.lt; have kc5 := hB5.cell; have ka5 := hA5.cell; have kb5 := hA5.frozen; have hb05 := hbs3.trans (hb5.mono (by have := hbs3.size; omega)); have hZ5 := hZs3.below hb5))
                    refine bodyPost_cell_tmp (g := q) (cs := #[.int .i64 0, .slice none 0 0, .int .i64 0, .int .i64 0, .int .i64 0, .bool false]) Tryz.results7 rfl (Blk.six (u0 := .int .i64 0) (u1 := .slice none 0 0) (u2 := .int .i64 0) (u3 := .int .i64 0) (u4 := .int .i64 0) (u5 := .bool false) hA5) Tryz.underlying24 rfl (by kernel_rfl) rfl ⟨⟨.slice none 0 0, by rw [hO.out]; rfl, by rw [hO.out]; exact Rz.nil _⟩, ?_⟩
                    rw [hq]
                    exact below_six hb05 (Nat.le_refl _) _ _ _ _ _ _
                  | true =>
                    rw [hrq] at hE hR
                    have hO := hide (show parQ s.data.toList = ⟨0, ⟨0, rs, x1, x2, 0, true⟩⟩ from by rw [hE, if_pos rfl])
                    clear hE hrq
                    go_wp2_with (first
                      | (go_at_call 32; (with_reducible refine (hMP _).mono ?_); rintro e w1 ⟨⟨u, rfl, hZ⟩, hb1⟩; obtain ⟨Au, cu, rfl⟩ := hZ.shape; have hA1 := hAR.below hb1 hAR.lt; have hB1 := hBR.below hb1 hBR.lt; have kf1 := hB1.frozen; have kc1 := hB1.cell; have kg1 := hA1.frozen; have kd1 := hA1.cell; have hb01 := hbR.trans (hb1.mono hqR); have hne : ¬ (q = q + 1) := (by omega); have hBs0 : Blk (w1.setCell ⟨q + 1, 1, none⟩ (.slice Au rs.length cu)) (q + 1) 24 #[.int .i64 0, (.slice Au rs.length cu), .int .i64 0, .int .i64 0, .int .i64 0, .bool false] := hB1.set_ 1 _; have hZs0 : Rz (w1.setCell ⟨q + 1, 1, none⟩ (.slice Au rs.length cu)) (.slice Au rs.length cu) rs := rz_set hZ hB1 1 _; have hAs0 : Blk (w1.setCell ⟨q + 1, 1, none⟩ (.slice Au rs.length cu)) q 24 #[.int .i64 0, .slice none 0 0, .int .i64 0, .int .i64 0, .int .i64 0, .bool false] := hA1.far (p := ⟨q + 1, 1, none⟩) (Nat.ne_of_lt (Nat.lt_succ_self q)) _; have hbs0 : Below q w (w1.setCell ⟨q + 1, 1, none⟩ (.slice Au rs.length cu)) := hb01.setCell (Nat.le_succ q) _; have hBs1 : Blk ((w1.setCell ⟨q + 1, 1, none⟩ (.slice Au rs.length cu)).setCell ⟨q + 1, 2, none⟩ (.int .i64 x1)) (q + 1) 24 #[.int .i64 0, (.slice Au rs.length cu), .int .i64 x1, .int .i64 0, .int .i64 0, .bool false] := hBs0.set_ 2 _; have hZs1 : Rz ((w1.setCell ⟨q + 1, 1, none⟩ (.slice Au rs.length cu)).setCell ⟨q + 1, 2, none⟩ (.int .i64 x1)) (.slice Au rs.length cu) rs := rz_set hZs0 hBs0 2 _; have hAs1 : Blk ((w1.setCell ⟨q + 1, 1, none⟩ (.slice Au rs.length cu)).setCell ⟨q + 1, 2, none⟩ (.int .i64 x1)) q 24 #[.int .i64 0, .slice none 0 0, .int .i64 0, .int .i64 0, .int .i64 0, .bool false] := hAs0.far (p := ⟨q + 1, 2, none⟩) (Nat.ne_of_lt (Nat.lt_succ_self q)) _; have hbs1 : Below q w ((w1.setCell ⟨q + 1, 1, none⟩ (.slice Au rs.length cu)).setCell ⟨q + 1, 2, none⟩ (.int .i64 x1)) := hbs0.setCell (Nat.le_succ q) _; have hBs2 : Blk (((w1.setCell ⟨q + 1, 1, none⟩ (.slice Au rs.length cu)).setCell ⟨q + 1, 2, none⟩ (.int .i64 x1)).setCell ⟨q + 1, 3, none⟩ (.int .i64 x2)) (q + 1) 24 #[.int .i64 0, (.slice Au rs.length cu), .int .i64 x1, .int .i64 x2, .int .i64 0, .bool false] := hBs1.set_ 3 _; have hZs2 : Rz (((w1.setCell ⟨q + 1, 1, none⟩ (.slice Au rs.length cu)).setCell ⟨q + 1, 2, none⟩ (.int .i64 x1)).setCell ⟨q + 1, 3, none⟩ (.int .i64 x2)) (.slice Au rs.length cu) rs := rz_set hZs1 hBs1 3 _; have hAs2 : Blk (((w1.setCell ⟨q + 1, 1, none⟩ (.slice Au rs.length cu)).setCell ⟨q + 1, 2, none⟩ (.int .i64 x1)).setCell ⟨q + 1, 3, none⟩ (.int .i64 x2)) q 24 #[.int .i64 0, .slice none 0 0, .int .i64 0, .int .i64 0, .int .i64 0, .bool false] := hAs1.far (p := ⟨q + 1, 3, none⟩) (Nat.ne_of_lt (Nat.lt_succ_self q)) _; have hbs2 : Below q w (((w1.setCell ⟨q + 1, 1, none⟩ (.slice Au rs.length cu)).setCell ⟨q + 1, 2, none⟩ (.int .i64 x1)).setCell ⟨q + 1, 3, none⟩ (.int .i64 x2)) := hbs1.setCell (Nat.le_succ q) _; have hBs3 : Blk ((((w1.setCell ⟨q + 1, 1, none⟩ (.slice Au rs.length cu)).setCell ⟨q + 1, 2, none⟩ (.int .i64 x1)).setCell ⟨q + 1, 3, none⟩ (.int .i64 x2)).setCell ⟨q + 1, 5, none⟩ (.bool true)) (q + 1) 24 #[.int .i64 0, (.slice Au rs.length cu), .int .i64 x1, .int .i64 x2, .int .i64 0, .bool true] := hBs2.set_ 5 _; have hZs3 : Rz ((((w1.setCell ⟨q + 1, 1, none⟩ (.slice Au rs.length cu)).setCell ⟨q + 1, 2, none⟩ (.int .i64 x1)).setCell ⟨q + 1, 3, none⟩ (.int .i64 x2)).setCell ⟨q + 1, 5, none⟩ (.bool true)) (.slice Au rs.length cu) rs := rz_set hZs2 hBs2 5 _; have hAs3 : Blk ((((w1.setCell ⟨q + 1, 1, none⟩ (.slice Au rs.length cu)).setCell ⟨q + 1, 2, none⟩ (.int .i64 x1)).setCell ⟨q + 1, 3, none⟩ (.int .i64 x2)).setCell ⟨q + 1, 5, none⟩ (.bool true)) q 24 #[.int .i64 0, .slice none 0 0, .int .i64 0, .int .i64 0, .int .i64 0, .bool false] := hAs2.far (p := ⟨q + 1, 5, none⟩) (Nat.ne_of_lt (Nat.lt_succ_self q)) _; have hbs3 : Below q w ((((w1.setCell ⟨q + 1, 1, none⟩ (.slice Au rs.length cu)).setCell ⟨q + 1, 2, none⟩ (.int .i64 x1)).setCell ⟨q + 1, 3, none⟩ (.int .i64 x2)).setCell ⟨q + 1, 5, none⟩ (.bool true)) := hbs2.setCell (Nat.le_succ q) _)
                      | (go_at_call 33; (with_reducible refine (hD1 _).mono ?_); rintro e v1 ⟨rfl, rfl⟩)
                      | (go_at_call 33; (with_reducible refine (hD2 _).mono ?_); rintro e v2 ⟨rfl, rfl⟩)
                      | (go_at_call 11; (with_reducible refine (hR _ _ hZs3).mono ?_); rintro e w5 ⟨rfl, hb5⟩; have hA5 := hAs3.below hb5 hAs3.lt; have hB5 := hBs3.below hb5 hBs3.lt; have kc5 := hB5.cell; have ka5 := hA5.cell; have kb5 := hA5.frozen; have hb05 := hbs3.trans (hb5.mono (by have := hbs3.size; omega)); have hZ5 := hZs3.below hb5))
                    refine bodyPost_cell_tmp (g := q) (cs := #[.int .i64 0, (.slice Au rs.length cu), .int .i64 x1, .int .i64 x2, .int .i64 0, .bool true]) Tryz.results7 rfl (by with_reducible exact Blk.six hA5) Tryz.underlying24 rfl (by kernel_rfl) rfl ⟨⟨.slice Au rs.length cu, by rw [hO.out]; rfl, ?_⟩, by (rw [hq]; with_reducible exact below_six hb05 (Nat.le_refl _) _ _ _ _ _ _)⟩
                    rw [hO.out]
                    exact rz_six hZ5 hA5
                · have hx9 : ((s.extract E s.size).toList == [32, 110, 111, 116, 101, 115]) = false := by rw [hne9]; exact decide_eq_false hnt
                  by_cases hES : E < s.size
                  · have hO := hide (dq_more KQ.out KE.out (by omega) (by rw [Int.toNat_natCast]; exact hnt) (by have := K0.out.1; omega))
                    have d10 : decide ((E : Int) < s.size) = true := decide_eq_true (by omega)
                    clear hne9 hnt hle
                    go_wp2_with (first
                      | (go_at_call 32; (with_reducible refine (hMP _).mono ?_); rintro e w1 ⟨⟨u, rfl, hZ⟩, hb1⟩; obtain ⟨Au, cu, rfl⟩ := hZ.shape; have hA1 := hAR.below hb1 hAR.lt; have hB1 := hBR.below hb1 hBR.lt; have kf1 := hB1.frozen; have kc1 := hB1.cell; have kg1 := hA1.frozen; have kd1 := hA1.cell; have hb01 := hbR.trans (hb1.mono hqR); have hne : ¬ (q = q + 1) := (by omega))
                      | (go_at_call 33; (with_reducible refine (hD1 _).mono ?_); rintro e v1 ⟨rfl, rfl⟩)
                      | (go_at_call 33; (with_reducible refine (hD2 _).mono ?_); rintro e v2 ⟨rfl, rfl⟩))
                    have hBs0 : Blk (w1.setCell ⟨q + 1, 1, none⟩ (.slice Au rs.length cu)) (q + 1) 24 #[.int .i64 0, (.slice Au rs.length cu), .int .i64 0, .int .i64 0, .int .i64 0, .bool false] := hB1.set_ 1 _
                    have hZs0 : Rz (w1.setCell ⟨q + 1, 1, none⟩ (.slice Au rs.length cu)) (.slice Au rs.length cu) rs := rz_set hZ hB1 1 _
                    have hAs0 : Blk (w1.setCell ⟨q + 1, 1, none⟩ (.slice Au rs.length cu)) q 24 #[.int .i64 0, .slice none 0 0, .int .i64 0, .int .i64 0, .int .i64 0, .bool false] := hA1.far (p := ⟨q + 1, 1, none⟩) (Nat.ne_of_lt (Nat.lt_succ_self q)) _
                    have hbs0 : Below q w (w1.setCell ⟨q + 1, 1, none⟩ (.slice Au rs.length cu)) := hb01.setCell (Nat.le_succ q) _
                    have hBs1 : Blk ((w1.setCell ⟨q + 1, 1, none⟩ (.slice Au rs.length cu)).setCell ⟨q + 1, 2, none⟩ (.int .i64 x1)) (q + 1) 24 #[.int .i64 0, (.slice Au rs.length cu), .int .i64 x1, .int .i64 0, .int .i64 0, .bool false] := hBs0.set_ 2 _
                    have hZs1 : Rz ((w1.setCell ⟨q + 1, 1, none⟩ (.slice Au rs.length cu)).setCell ⟨q + 1, 2, none⟩ (.int .i64 x1)) (.slice Au rs.length cu) rs := rz_set hZs0 hBs0 2 _
                    have hAs1 : Blk ((w1.setCell ⟨q + 1, 1, none⟩ (.slice Au rs.length cu)).setCell ⟨q + 1, 2, none⟩ (.int .i64 x1)) q 24 #[.int .i64 0, .slice none 0 0, .int .i64 0, .int .i64 0, .int .i64 0, .bool false] := hAs0.far (p := ⟨q + 1, 2, none⟩) (Nat.ne_of_lt (Nat.lt_succ_self q)) _
                    have hbs1 : Below q w ((w1.setCell ⟨q + 1, 1, none⟩ (.slice Au rs.length cu)).setCell ⟨q + 1, 2, none⟩ (.int .i64 x1)) := hbs0.setCell (Nat.le_succ q) _
                    have hBs2 : Blk (((w1.setCell ⟨q + 1, 1, none⟩ (.slice Au rs.length cu)).setCell ⟨q + 1, 2, none⟩ (.int .i64 x1)).setCell ⟨q + 1, 3, none⟩ (.int .i64 x2)) (q + 1) 24 #[.int .i64 0, (.slice Au rs.length cu), .int .i64 x1, .int .i64 x2, .int .i64 0, .bool false] := hBs1.set_ 3 _
                    have hZs2 : Rz (((w1.setCell ⟨q + 1, 1, none⟩ (.slice Au rs.length cu)).setCell ⟨q + 1, 2, none⟩ (.int .i64 x1)).setCell ⟨q + 1, 3, none⟩ (.int .i64 x2)) (.slice Au rs.length cu) rs := rz_set hZs1 hBs1 3 _
                    have hAs2 : Blk (((w1.setCell ⟨q + 1, 1, none⟩ (.slice Au rs.length cu)).setCell ⟨q + 1, 2, none⟩ (.int .i64 x1)).setCell ⟨q + 1, 3, none⟩ (.int .i64 x2)) q 24 #[.int .i64 0, .slice none 0 0, .int .i64 0, .int .i64 0, .int .i64 0, .bool false] := hAs1.far (p := ⟨q + 1, 3, none⟩) (Nat.ne_of_lt (Nat.lt_succ_self q)) _
                    have hbs2 : Below q w (((w1.setCell ⟨q + 1, 1, none⟩ (.slice Au rs.length cu)).setCell ⟨q + 1, 2, none⟩ (.int .i64 x1)).setCell ⟨q + 1, 3, none⟩ (.int .i64 x2)) := hbs1.setCell (Nat.le_succ q) _
                    have hBs3 : Blk ((((w1.setCell ⟨q + 1, 1, none⟩ (.slice Au rs.length cu)).setCell ⟨q + 1, 2, none⟩ (.int .i64 x1)).setCell ⟨q + 1, 3, none⟩ (.int .i64 x2)).setCell ⟨q + 1, 5, none⟩ (.bool false)) (q + 1) 24 #[.int .i64 0, (.slice Au rs.length cu), .int .i64 x1, .int .i64 x2, .int .i64 0, .bool false] := hBs2.set_ 5 _
                    have hZs3 : Rz ((((w1.setCell ⟨q + 1, 1, none⟩ (.slice Au rs.length cu)).setCell ⟨q + 1, 2, none⟩ (.int .i64 x1)).setCell ⟨q + 1, 3, none⟩ (.int .i64 x2)).setCell ⟨q + 1, 5, none⟩ (.bool false)) (.slice Au rs.length cu) rs := rz_set hZs2 hBs2 5 _
                    have hAs3 : Blk ((((w1.setCell ⟨q + 1, 1, none⟩ (.slice Au rs.length cu)).setCell ⟨q + 1, 2, none⟩ (.int .i64 x1)).setCell ⟨q + 1, 3, none⟩ (.int .i64 x2)).setCell ⟨q + 1, 5, none⟩ (.bool false)) q 24 #[.int .i64 0, .slice none 0 0, .int .i64 0, .int .i64 0, .int .i64 0, .bool false] := hAs2.far (p := ⟨q + 1, 5, none⟩) (Nat.ne_of_lt (Nat.lt_succ_self q)) _
                    have hbs3 : Below q w ((((w1.setCell ⟨q + 1, 1, none⟩ (.slice Au rs.length cu)).setCell ⟨q + 1, 2, none⟩ (.int .i64 x1)).setCell ⟨q + 1, 3, none⟩ (.int .i64 x2)).setCell ⟨q + 1, 5, none⟩ (.bool false)) := hbs2.setCell (Nat.le_succ q) _
                    refine bodyPost_cell_tmp (g := q) (cs := #[.int .i64 0, .slice none 0 0, .int .i64 0, .int .i64 0, .int .i64 0, .bool false]) Tryz.results7 rfl (Blk.six (u0 := .int .i64 0) (u1 := .slice none 0 0) (u2 := .int .i64 0) (u3 := .int .i64 0) (u4 := .int .i64 0) (u5 := .bool false) hAs3) Tryz.underlying24 rfl (by kernel_rfl) rfl ⟨⟨.slice none 0 0, by rw [hO.out]; rfl, by rw [hO.out]; exact Rz.nil _⟩, ?_⟩
                    rw [hq]
                    exact below_six hbs3 (Nat.le_refl _) _ _ _ _ _ _
                  · obtain rfl : E = s.size := by omega
                    have d10 : decide ((s.size : Int) < s.size) = false := decide_eq_false (by omega)
                    have HB := hide (show (false = true ∧ s.data.toList.drop ((s.size : Int)).toNat = 32 :: notesB) ∨ (false = false ∧ s.data.toList.drop ((s.size : Int)).toNat = []) from .inr ⟨rfl, by rw [Int.toNat_natCast, K0.out.1]; exact List.drop_eq_nil_of_le (Nat.le_refl _)⟩)
                    clear hne9 hnt
                    have hE : parQ s.data.toList = if rightQ ⟨0, rs, x1, x2, 0, false⟩ = true then ⟨0, ⟨0, rs, x1, x2, 0, false⟩⟩ else ⟨90, zeroQ⟩ := dq_end (k := 0) KQ.out KE.out (by omega) HB.out
                    have hR := fun rv W h => dright_any ⟨0, rs, x1, x2, 0, false⟩ rv W h ⟨right_oks hrR, by dsimp only; omega, by dsimp only; omega, by dsimp only; omega, by dsimp only; omega⟩
                    cases hrq : rightQ ⟨0, rs, x1, x2, 0, false⟩ with
                    | false =>
                      rw [hrq] at hE hR
                      have hO := hide (show parQ s.data.toList = ⟨90, zeroQ⟩ from by rw [hE, if_neg (by decide)])
                      clear hE hrq
                      go_wp2_with (first
                        | (go_at_call 32; (with_reducible refine (hMP _).mono ?_); rintro e w1 ⟨⟨u, rfl, hZ⟩, hb1⟩; obtain ⟨Au, cu, rfl⟩ := hZ.shape; have hA1 := hAR.below hb1 hAR.lt; have hB1 := hBR.below hb1 hBR.lt; have kf1 := hB1.frozen; have kc1 := hB1.cell; have kg1 := hA1.frozen; have kd1 := hA1.cell; have hb01 := hbR.trans (hb1.mono hqR); have hne : ¬ (q = q + 1) := (by omega); have hBs0 : Blk (w1.setCell ⟨q + 1, 1, none⟩ (.slice Au rs.length cu)) (q + 1) 24 #[.int .i64 0, (.slice Au rs.length cu), .int .i64 0, .int .i64 0, .int .i64 0, .bool false] := hB1.set_ 1 _; have hZs0 : Rz (w1.setCell ⟨q + 1, 1, none⟩ (.slice Au rs.length cu)) (.slice Au rs.length cu) rs := rz_set hZ hB1 1 _; have hAs0 : Blk (w1.setCell ⟨q + 1, 1, none⟩ (.slice Au rs.length cu)) q 24 #[.int .i64 0, .slice none 0 0, .int .i64 0, .int .i64 0, .int .i64 0, .bool false] := hA1.far (p := ⟨q + 1, 1, none⟩) (Nat.ne_of_lt (Nat.lt_succ_self q)) _; have hbs0 : Below q w (w1.setCell ⟨q + 1, 1, none⟩ (.slice Au rs.length cu)) := hb01.setCell (Nat.le_succ q) _; have hBs1 : Blk ((w1.setCell ⟨q + 1, 1, none⟩ (.slice Au rs.length cu)).setCell ⟨q + 1, 2, none⟩ (.int .i64 x1)) (q + 1) 24 #[.int .i64 0, (.slice Au rs.length cu), .int .i64 x1, .int .i64 0, .int .i64 0, .bool false] := hBs0.set_ 2 _; have hZs1 : Rz ((w1.setCell ⟨q + 1, 1, none⟩ (.slice Au rs.length cu)).setCell ⟨q + 1, 2, none⟩ (.int .i64 x1)) (.slice Au rs.length cu) rs := rz_set hZs0 hBs0 2 _; have hAs1 : Blk ((w1.setCell ⟨q + 1, 1, none⟩ (.slice Au rs.length cu)).setCell ⟨q + 1, 2, none⟩ (.int .i64 x1)) q 24 #[.int .i64 0, .slice none 0 0, .int .i64 0, .int .i64 0, .int .i64 0, .bool false] := hAs0.far (p := ⟨q + 1, 2, none⟩) (Nat.ne_of_lt (Nat.lt_succ_self q)) _; have hbs1 : Below q w ((w1.setCell ⟨q + 1, 1, none⟩ (.slice Au rs.length cu)).setCell ⟨q + 1, 2, none⟩ (.int .i64 x1)) := hbs0.setCell (Nat.le_succ q) _; have hBs2 : Blk (((w1.setCell ⟨q + 1, 1, none⟩ (.slice Au rs.length cu)).setCell ⟨q + 1, 2, none⟩ (.int .i64 x1)).setCell ⟨q + 1, 3, none⟩ (.int .i64 x2)) (q + 1) 24 #[.int .i64 0, (.slice Au rs.length cu), .int .i64 x1, .int .i64 x2, .int .i64 0, .bool false] := hBs1.set_ 3 _; have hZs2 : Rz (((w1.setCell ⟨q + 1, 1, none⟩ (.slice Au rs.length cu)).setCell ⟨q + 1, 2, none⟩ (.int .i64 x1)).setCell ⟨q + 1, 3, none⟩ (.int .i64 x2)) (.slice Au rs.length cu) rs := rz_set hZs1 hBs1 3 _; have hAs2 : Blk (((w1.setCell ⟨q + 1, 1, none⟩ (.slice Au rs.length cu)).setCell ⟨q + 1, 2, none⟩ (.int .i64 x1)).setCell ⟨q + 1, 3, none⟩ (.int .i64 x2)) q 24 #[.int .i64 0, .slice none 0 0, .int .i64 0, .int .i64 0, .int .i64 0, .bool false] := hAs1.far (p := ⟨q + 1, 3, none⟩) (Nat.ne_of_lt (Nat.lt_succ_self q)) _; have hbs2 : Below q w (((w1.setCell ⟨q + 1, 1, none⟩ (.slice Au rs.length cu)).setCell ⟨q + 1, 2, none⟩ (.int .i64 x1)).setCell ⟨q + 1, 3, none⟩ (.int .i64 x2)) := hbs1.setCell (Nat.le_succ q) _; have hBs3 : Blk ((((w1.setCell ⟨q + 1, 1, none⟩ (.slice Au rs.length cu)).setCell ⟨q + 1, 2, none⟩ (.int .i64 x1)).setCell ⟨q + 1, 3, none⟩ (.int .i64 x2)).setCell ⟨q + 1, 5, none⟩ (.bool false)) (q + 1) 24 #[.int .i64 0, (.slice Au rs.length cu), .int .i64 x1, .int .i64 x2, .int .i64 0, .bool false] := hBs2.set_ 5 _; have hZs3 : Rz ((((w1.setCell ⟨q + 1, 1, none⟩ (.slice Au rs.length cu)).setCell ⟨q + 1, 2, none⟩ (.int .i64 x1)).setCell ⟨q + 1, 3, none⟩ (.int .i64 x2)).setCell ⟨q + 1, 5, none⟩ (.bool false)) (.slice Au rs.length cu) rs := rz_set hZs2 hBs2 5 _; have hAs3 : Blk ((((w1.setCell ⟨q + 1, 1, none⟩ (.slice Au rs.length cu)).setCell ⟨q + 1, 2, none⟩ (.int .i64 x1)).setCell ⟨q + 1, 3, none⟩ (.int .i64 x2)).setCell ⟨q + 1, 5, none⟩ (.bool false)) q 24 #[.int .i64 0, .slice none 0 0, .int .i64 0, .int .i64 0, .int .i64 0, .bool false] := hAs2.far (p := ⟨q + 1, 5, none⟩) (Nat.ne_of_lt (Nat.lt_succ_self q)) _; have hbs3 : Below q w ((((w1.setCell ⟨q + 1, 1, none⟩ (.slice Au rs.length cu)).setCell ⟨q + 1, 2, none⟩ (.int .i64 x1)).setCell ⟨q + 1, 3, none⟩ (.int .i64 x2)).setCell ⟨q + 1, 5, none⟩ (.bool false)) := hbs2.setCell (Nat.le_succ q) _)
                        | (go_at_call 33; (with_reducible refine (hD1 _).mono ?_); rintro e v1 ⟨rfl, rfl⟩)
                        | (go_at_call 33; (with_reducible refine (hD2 _).mono ?_); rintro e v2 ⟨rfl, rfl⟩)
                        | (go_at_call 11; (with_reducible refine (hR _ _ hZs3).mono ?_); rintro e w5 ⟨rfl, hb5⟩; have hA5 := hAs3.below hb5 hAs3.lt; have hB5 := hBs3.below hb5 hBs3.lt; have kc5 := hB5.cell; have ka5 := hA5.cell; have kb5 := hA5.frozen; have hb05 := hbs3.trans (hb5.mono (by have := hbs3.size; omega)); have hZ5 := hZs3.below hb5))
                      refine bodyPost_cell_tmp (g := q) (cs := #[.int .i64 0, .slice none 0 0, .int .i64 0, .int .i64 0, .int .i64 0, .bool false]) Tryz.results7 rfl (Blk.six (u0 := .int .i64 0) (u1 := .slice none 0 0) (u2 := .int .i64 0) (u3 := .int .i64 0) (u4 := .int .i64 0) (u5 := .bool false) hA5) Tryz.underlying24 rfl (by kernel_rfl) rfl ⟨⟨.slice none 0 0, by rw [hO.out]; rfl, by rw [hO.out]; exact Rz.nil _⟩, ?_⟩
                      rw [hq]
                      exact below_six hb05 (Nat.le_refl _) _ _ _ _ _ _
                    | true =>
                      rw [hrq] at hE hR
                      have hO := hide (show parQ s.data.toList = ⟨0, ⟨0, rs, x1, x2, 0, false⟩⟩ from by rw [hE, if_pos rfl])
                      clear hE hrq
                      go_wp2_with (first
                        | (go_at_call 32; (with_reducible refine (hMP _).mono ?_); rintro e w1 ⟨⟨u, rfl, hZ⟩, hb1⟩; obtain ⟨Au, cu, rfl⟩ := hZ.shape; have hA1 := hAR.below hb1 hAR.lt; have hB1 := hBR.below hb1 hBR.lt; have kf1 := hB1.frozen; have kc1 := hB1.cell; have kg1 := hA1.frozen; have kd1 := hA1.cell; have hb01 := hbR.trans (hb1.mono hqR); have hne : ¬ (q = q + 1) := (by omega); have hBs0 : Blk (w1.setCell ⟨q + 1, 1, none⟩ (.slice Au rs.length cu)) (q + 1) 24 #[.int .i64 0, (.slice Au rs.length cu), .int .i64 0, .int .i64 0, .int .i64 0, .bool false] := hB1.set_ 1 _; have hZs0 : Rz (w1.setCell ⟨q + 1, 1, none⟩ (.slice Au rs.length cu)) (.slice Au rs.length cu) rs := rz_set hZ hB1 1 _; have hAs0 : Blk (w1.setCell ⟨q + 1, 1, none⟩ (.slice Au rs.length cu)) q 24 #[.int .i64 0, .slice none 0 0, .int .i64 0, .int .i64 0, .int .i64 0, .bool false] := hA1.far (p := ⟨q + 1, 1, none⟩) (Nat.ne_of_lt (Nat.lt_succ_self q)) _; have hbs0 : Below q w (w1.setCell ⟨q + 1, 1, none⟩ (.slice Au rs.length cu)) := hb01.setCell (Nat.le_succ q) _; have hBs1 : Blk ((w1.setCell ⟨q + 1, 1, none⟩ (.slice Au rs.length cu)).setCell ⟨q + 1, 2, none⟩ (.int .i64 x1)) (q + 1) 24 #[.int .i64 0, (.slice Au rs.length cu), .int .i64 x1, .int .i64 0, .int .i64 0, .bool false] := hBs0.set_ 2 _; have hZs1 : Rz ((w1.setCell ⟨q + 1, 1, none⟩ (.slice Au rs.length cu)).setCell ⟨q + 1, 2, none⟩ (.int .i64 x1)) (.slice Au rs.length cu) rs := rz_set hZs0 hBs0 2 _; have hAs1 : Blk ((w1.setCell ⟨q + 1, 1, none⟩ (.slice Au rs.length cu)).setCell ⟨q + 1, 2, none⟩ (.int .i64 x1)) q 24 #[.int .i64 0, .slice none 0 0, .int .i64 0, .int .i64 0, .int .i64 0, .bool false] := hAs0.far (p := ⟨q + 1, 2, none⟩) (Nat.ne_of_lt (Nat.lt_succ_self q)) _; have hbs1 : Below q w ((w1.setCell ⟨q + 1, 1, none⟩ (.slice Au rs.length cu)).setCell ⟨q + 1, 2, none⟩ (.int .i64 x1)) := hbs0.setCell (Nat.le_succ q) _; have hBs2 : Blk (((w1.setCell ⟨q + 1, 1, none⟩ (.slice Au rs.length cu)).setCell ⟨q + 1, 2, none⟩ (.int .i64 x1)).setCell ⟨q + 1, 3, none⟩ (.int .i64 x2)) (q + 1) 24 #[.int .i64 0, (.slice Au rs.length cu), .int .i64 x1, .int .i64 x2, .int .i64 0, .bool false] := hBs1.set_ 3 _; have hZs2 : Rz (((w1.setCell ⟨q + 1, 1, none⟩ (.slice Au rs.length cu)).setCell ⟨q + 1, 2, none⟩ (.int .i64 x1)).setCell ⟨q + 1, 3, none⟩ (.int .i64 x2)) (.slice Au rs.length cu) rs := rz_set hZs1 hBs1 3 _; have hAs2 : Blk (((w1.setCell ⟨q + 1, 1, none⟩ (.slice Au rs.length cu)).setCell ⟨q + 1, 2, none⟩ (.int .i64 x1)).setCell ⟨q + 1, 3, none⟩ (.int .i64 x2)) q 24 #[.int .i64 0, .slice none 0 0, .int .i64 0, .int .i64 0, .int .i64 0, .bool false] := hAs1.far (p := ⟨q + 1, 3, none⟩) (Nat.ne_of_lt (Nat.lt_succ_self q)) _; have hbs2 : Below q w (((w1.setCell ⟨q + 1, 1, none⟩ (.slice Au rs.length cu)).setCell ⟨q + 1, 2, none⟩ (.int .i64 x1)).setCell ⟨q + 1, 3, none⟩ (.int .i64 x2)) := hbs1.setCell (Nat.le_succ q) _; have hBs3 : Blk ((((w1.setCell ⟨q + 1, 1, none⟩ (.slice Au rs.length cu)).setCell ⟨q + 1, 2, none⟩ (.int .i64 x1)).setCell ⟨q + 1, 3, none⟩ (.int .i64 x2)).setCell ⟨q + 1, 5, none⟩ (.bool false)) (q + 1) 24 #[.int .i64 0, (.slice Au rs.length cu), .int .i64 x1, .int .i64 x2, .int .i64 0, .bool false] := hBs2.set_ 5 _; have hZs3 : Rz ((((w1.setCell ⟨q + 1, 1, none⟩ (.slice Au rs.length cu)).setCell ⟨q + 1, 2, none⟩ (.int .i64 x1)).setCell ⟨q + 1, 3, none⟩ (.int .i64 x2)).setCell ⟨q + 1, 5, none⟩ (.bool false)) (.slice Au rs.length cu) rs := rz_set hZs2 hBs2 5 _; have hAs3 : Blk ((((w1.setCell ⟨q + 1, 1, none⟩ (.slice Au rs.length cu)).setCell ⟨q + 1, 2, none⟩ (.int .i64 x1)).setCell ⟨q + 1, 3, none⟩ (.int .i64 x2)).setCell ⟨q + 1, 5, none⟩ (.bool false)) q 24 #[.int .i64 0, .slice none 0 0, .int .i64 0, .int .i64 0, .int .i64 0, .bool false] := hAs2.far (p := ⟨q + 1, 5, none⟩) (Nat.ne_of_lt (Nat.lt_succ_self q)) _; have hbs3 : Below q w ((((w1.setCell ⟨q + 1, 1, none⟩ (.slice Au rs.length cu)).setCell ⟨q + 1, 2, none⟩ (.int .i64 x1)).setCell ⟨q + 1, 3, none⟩ (.int .i64 x2)).setCell ⟨q + 1, 5, none⟩ (.bool false)) := hbs2.setCell (Nat.le_succ q) _)
                        | (go_at_call 33; (with_reducible refine (hD1 _).mono ?_); rintro e v1 ⟨rfl, rfl⟩)
                        | (go_at_call 33; (with_reducible refine (hD2 _).mono ?_); rintro e v2 ⟨rfl, rfl⟩)
                        | (go_at_call 11; (with_reducible refine (hR _ _ hZs3).mono ?_); rintro e w5 ⟨rfl, hb5⟩; have hA5 := hAs3.below hb5 hAs3.lt; have hB5 := hBs3.below hb5 hBs3.lt; have kc5 := hB5.cell; have ka5 := hA5.cell; have kb5 := hA5.frozen; have hb05 := hbs3.trans (hb5.mono (by have := hbs3.size; omega)); have hZ5 := hZs3.below hb5))
                      refine bodyPost_cell_tmp (g := q) (cs := #[.int .i64 0, (.slice Au rs.length cu), .int .i64 x1, .int .i64 x2, .int .i64 0, .bool false]) Tryz.results7 rfl (by with_reducible exact Blk.six hA5) Tryz.underlying24 rfl (by kernel_rfl) rfl ⟨⟨.slice Au rs.length cu, by rw [hO.out]; rfl, ?_⟩, by (rw [hq]; with_reducible exact below_six hb05 (Nat.le_refl _) _ _ _ _ _ _)⟩
                      rw [hO.out]
                      exact rz_six hZ5 hA5
              · have d8 : ((k : Int) == 0) = false := by simpa using hk0
                have d7 : ((k : Int) != 0) = true := by simpa using hk0
                obtain ⟨x1, a1, hp1⟩ : ∃ x a, numF s.data.toList ((N + n : Nat) : Int) = ⟨x, a⟩ := ⟨_, _, rfl⟩
                obtain ⟨x2, a2, hp2⟩ : ∃ x a, numF s.data.toList a1 = ⟨x, a⟩ := ⟨_, _, rfl⟩
                obtain ⟨x3, a3, hp3⟩ : ∃ x a, numF s.data.toList a2 = ⟨x, a⟩ := ⟨_, _, rfl⟩
                have hEn : Ends s.data.toList k (N + n) x1 x2 x3 a3 := ⟨fun h => absurd h hk0, fun _ => by rw [hp1]; dsimp only; rw [hp2]; dsimp only; rw [hp3]; exact ⟨rfl, rfl, rfl, rfl⟩⟩
                have hD1 := fun W => dnum_any s K0.out.2.2 ((N + n : Nat) : Int) W
                rw [hp1, Int.natCast_add] at hD1
                have hD2 := fun W => dnum_any s K0.out.2.2 a1 W
                rw [hp2] at hD2
                have hD3 := fun W => dnum_any s K0.out.2.2 a2 W
                rw [hp3] at hD3
                dsimp only at hD1 hD2 hD3
                have hle := hEn.le
                have hszl : ((s.data.toList).length : Int) = s.size := by rw [K0.out.1]
                rw [hszl] at hle
                have KE := hide hEn
                clear hEn hp1 hp2 hp3 hszl
                by_cases he : a3 < 0
                · have hO := hide (dq_neg KQ.out KE.out he)
                  have d9 : decide (a3 < 0) = true := decide_eq_true he
                  clear hle he
                  go_wp2_with (first
                    | (go_at_call 32; (with_reducible refine (hMP _).mono ?_); rintro e w1 ⟨⟨u, rfl, hZ⟩, hb1⟩; obtain ⟨Au, cu, rfl⟩ := hZ.shape; have hA1 := hAR.below hb1 hAR.lt; have hB1 := hBR.below hb1 hBR.lt; have kf1 := hB1.frozen; have kc1 := hB1.cell; have kg1 := hA1.frozen; have kd1 := hA1.cell; have hb01 := hbR.trans (hb1.mono hqR); have hne : ¬ (q = q + 1) := (by omega))
                    | (go_at_call 33; (with_reducible refine (hD1 _).mono ?_); rintro e v1 ⟨rfl, rfl⟩)
                    | (go_at_call 33; (with_reducible refine (hD2 _).mono ?_); rintro e v2 ⟨rfl, rfl⟩)
                    | (go_at_call 33; (with_reducible refine (hD3 _).mono ?_); rintro e v3 ⟨rfl, rfl⟩))
                  have hBs0 : Blk (w1.setCell ⟨q + 1, 1, none⟩ (.slice Au rs.length cu)) (q + 1) 24 #[.int .i64 (k : Int), (.slice Au rs.length cu), .int .i64 0, .int .i64 0, .int .i64 0, .bool false] := hB1.set_ 1 _
                  have hZs0 : Rz (w1.setCell ⟨q + 1, 1, none⟩ (.slice Au rs.length cu)) (.slice Au rs.length cu) rs := rz_set hZ hB1 1 _
                  have hAs0 : Blk (w1.setCell ⟨q + 1, 1, none⟩ (.slice Au rs.length cu)) q 24 #[.int .i64 0, .slice none 0 0, .int .i64 0, .int .i64 0, .int .i64 0, .bool false] := hA1.far (p := ⟨q + 1, 1, none⟩) (Nat.ne_of_lt (Nat.lt_succ_self q)) _
                  have hbs0 : Below q w (w1.setCell ⟨q + 1, 1, none⟩ (.slice Au rs.length cu)) := hb01.setCell (Nat.le_succ q) _
                  have hBs1 : Blk ((w1.setCell ⟨q + 1, 1, none⟩ (.slice Au rs.length cu)).setCell ⟨q + 1, 2, none⟩ (.int .i64 x1)) (q + 1) 24 #[.int .i64 (k : Int), (.slice Au rs.length cu), .int .i64 x1, .int .i64 0, .int .i64 0, .bool false] := hBs0.set_ 2 _
                  have hZs1 : Rz ((w1.setCell ⟨q + 1, 1, none⟩ (.slice Au rs.length cu)).setCell ⟨q + 1, 2, none⟩ (.int .i64 x1)) (.slice Au rs.length cu) rs := rz_set hZs0 hBs0 2 _
                  have hAs1 : Blk ((w1.setCell ⟨q + 1, 1, none⟩ (.slice Au rs.length cu)).setCell ⟨q + 1, 2, none⟩ (.int .i64 x1)) q 24 #[.int .i64 0, .slice none 0 0, .int .i64 0, .int .i64 0, .int .i64 0, .bool false] := hAs0.far (p := ⟨q + 1, 2, none⟩) (Nat.ne_of_lt (Nat.lt_succ_self q)) _
                  have hbs1 : Below q w ((w1.setCell ⟨q + 1, 1, none⟩ (.slice Au rs.length cu)).setCell ⟨q + 1, 2, none⟩ (.int .i64 x1)) := hbs0.setCell (Nat.le_succ q) _
                  have hBs2 : Blk (((w1.setCell ⟨q + 1, 1, none⟩ (.slice Au rs.length cu)).setCell ⟨q + 1, 2, none⟩ (.int .i64 x1)).setCell ⟨q + 1, 3, none⟩ (.int .i64 x2)) (q + 1) 24 #[.int .i64 (k : Int), (.slice Au rs.length cu), .int .i64 x1, .int .i64 x2, .int .i64 0, .bool false] := hBs1.set_ 3 _
                  have hZs2 : Rz (((w1.setCell ⟨q + 1, 1, none⟩ (.slice Au rs.length cu)).setCell ⟨q + 1, 2, none⟩ (.int .i64 x1)).setCell ⟨q + 1, 3, none⟩ (.int .i64 x2)) (.slice Au rs.length cu) rs := rz_set hZs1 hBs1 3 _
                  have hAs2 : Blk (((w1.setCell ⟨q + 1, 1, none⟩ (.slice Au rs.length cu)).setCell ⟨q + 1, 2, none⟩ (.int .i64 x1)).setCell ⟨q + 1, 3, none⟩ (.int .i64 x2)) q 24 #[.int .i64 0, .slice none 0 0, .int .i64 0, .int .i64 0, .int .i64 0, .bool false] := hAs1.far (p := ⟨q + 1, 3, none⟩) (Nat.ne_of_lt (Nat.lt_succ_self q)) _
                  have hbs2 : Below q w (((w1.setCell ⟨q + 1, 1, none⟩ (.slice Au rs.length cu)).setCell ⟨q + 1, 2, none⟩ (.int .i64 x1)).setCell ⟨q + 1, 3, none⟩ (.int .i64 x2)) := hbs1.setCell (Nat.le_succ q) _
                  have hBs3 : Blk ((((w1.setCell ⟨q + 1, 1, none⟩ (.slice Au rs.length cu)).setCell ⟨q + 1, 2, none⟩ (.int .i64 x1)).setCell ⟨q + 1, 3, none⟩ (.int .i64 x2)).setCell ⟨q + 1, 4, none⟩ (.int .i64 x3)) (q + 1) 24 #[.int .i64 (k : Int), (.slice Au rs.length cu), .int .i64 x1, .int .i64 x2, .int .i64 x3, .bool false] := hBs2.set_ 4 _
                  have hZs3 : Rz ((((w1.setCell ⟨q + 1, 1, none⟩ (.slice Au rs.length cu)).setCell ⟨q + 1, 2, none⟩ (.int .i64 x1)).setCell ⟨q + 1, 3, none⟩ (.int .i64 x2)).setCell ⟨q + 1, 4, none⟩ (.int .i64 x3)) (.slice Au rs.length cu) rs := rz_set hZs2 hBs2 4 _
                  have hAs3 : Blk ((((w1.setCell ⟨q + 1, 1, none⟩ (.slice Au rs.length cu)).setCell ⟨q + 1, 2, none⟩ (.int .i64 x1)).setCell ⟨q + 1, 3, none⟩ (.int .i64 x2)).setCell ⟨q + 1, 4, none⟩ (.int .i64 x3)) q 24 #[.int .i64 0, .slice none 0 0, .int .i64 0, .int .i64 0, .int .i64 0, .bool false] := hAs2.far (p := ⟨q + 1, 4, none⟩) (Nat.ne_of_lt (Nat.lt_succ_self q)) _
                  have hbs3 : Below q w ((((w1.setCell ⟨q + 1, 1, none⟩ (.slice Au rs.length cu)).setCell ⟨q + 1, 2, none⟩ (.int .i64 x1)).setCell ⟨q + 1, 3, none⟩ (.int .i64 x2)).setCell ⟨q + 1, 4, none⟩ (.int .i64 x3)) := hbs2.setCell (Nat.le_succ q) _
                  refine bodyPost_cell_tmp (g := q) (cs := #[.int .i64 0, .slice none 0 0, .int .i64 0, .int .i64 0, .int .i64 0, .bool false]) Tryz.results7 rfl (Blk.six (u0 := .int .i64 0) (u1 := .slice none 0 0) (u2 := .int .i64 0) (u3 := .int .i64 0) (u4 := .int .i64 0) (u5 := .bool false) hAs3) Tryz.underlying24 rfl (by kernel_rfl) rfl ⟨⟨.slice none 0 0, by rw [hO.out]; rfl, by rw [hO.out]; exact Rz.nil _⟩, ?_⟩
                  rw [hq]
                  exact below_six hbs3 (Nat.le_refl _) _ _ _ _ _ _
                obtain ⟨E, rfl⟩ : ∃ E : Nat, a3 = E := ⟨a3.toNat, by omega⟩
                have d9 : decide ((E : Int) < 0) = false := decide_eq_false he
                have i5 : (E : Int) ≤ s.size := by omega
                have i6 : (0 : Int) ≤ (E : Int) := by omega
                have hne9 := eqB9 (s.extract E s.size) ⟨#[32, 110, 111, 116, 101, 115]⟩
                rw [Lib.extract_to_end, ByteArray.toList_eq (⟨#[32, 110, 111, 116, 101, 115]⟩ : ByteArray)] at hne9
                by_cases hnt : s.data.toList.drop E = 32 :: notesB
                · have hx9 : ((s.extract E s.size).toList == [32, 110, 111, 116, 101, 115]) = true := by rw [hne9]; exact decide_eq_true hnt
                  have HB := hide (show (true = true ∧ s.data.toList.drop ((E : Int)).toNat = 32 :: notesB) ∨ (true = false ∧ s.data.toList.drop ((E : Int)).toNat = []) from .inl ⟨rfl, by rw [Int.toNat_natCast]; exact hnt⟩)
                  clear hne9 hnt
                  have hE : parQ s.data.toList = if rightQ ⟨(k : Int), rs, x1, x2, x3, true⟩ = true then ⟨0, ⟨(k : Int), rs, x1, x2, x3, true⟩⟩ else ⟨90, zeroQ⟩ := dq_end (k := k) KQ.out KE.out (by omega) HB.out
                  have hR := fun rv W h => dright_any ⟨(k : Int), rs, x1, x2, x3, true⟩ rv W h ⟨right_oks hrR, by dsimp only; omega, by dsimp only; omega, by dsimp only; omega, by dsimp only; omega⟩
                  cases hrq : rightQ ⟨(k : Int), rs, x1, x2, x3, true⟩ with
                  | false =>
                    rw [hrq] at hE hR
                    have hO := hide (show parQ s.data.toList = ⟨90, zeroQ⟩ from by rw [hE, if_neg (by decide)])
                    clear hE hrq
                    go_wp2_with (first
                      | (go_at_call 32; (with_reducible refine (hMP _).mono ?_); rintro e w1 ⟨⟨u, rfl, hZ⟩, hb1⟩; obtain ⟨Au, cu, rfl⟩ := hZ.shape; have hA1 := hAR.below hb1 hAR.lt; have hB1 := hBR.below hb1 hBR.lt; have kf1 := hB1.frozen; have kc1 := hB1.cell; have kg1 := hA1.frozen; have kd1 := hA1.cell; have hb01 := hbR.trans (hb1.mono hqR); have hne : ¬ (q = q + 1) := (by omega); have hBs0 : Blk (w1.setCell ⟨q + 1, 1, none⟩ (.slice Au rs.length cu)) (q + 1) 24 #[.int .i64 (k : Int), (.slice Au rs.length cu), .int .i64 0, .int .i64 0, .int .i64 0, .bool false] := hB1.set_ 1 _; have hZs0 : Rz (w1.setCell ⟨q + 1, 1, none⟩ (.slice Au rs.length cu)) (.slice Au rs.length cu) rs := rz_set hZ hB1 1 _; have hAs0 : Blk (w1.setCell ⟨q + 1, 1, none⟩ (.slice Au rs.length cu)) q 24 #[.int .i64 0, .slice none 0 0, .int .i64 0, .int .i64 0, .int .i64 0, .bool false] := hA1.far (p := ⟨q + 1, 1, none⟩) (Nat.ne_of_lt (Nat.lt_succ_self q)) _; have hbs0 : Below q w (w1.setCell ⟨q + 1, 1, none⟩ (.slice Au rs.length cu)) := hb01.setCell (Nat.le_succ q) _; have hBs1 : Blk ((w1.setCell ⟨q + 1, 1, none⟩ (.slice Au rs.length cu)).setCell ⟨q + 1, 2, none⟩ (.int .i64 x1)) (q + 1) 24 #[.int .i64 (k : Int), (.slice Au rs.length cu), .int .i64 x1, .int .i64 0, .int .i64 0, .bool false] := hBs0.set_ 2 _; have hZs1 : Rz ((w1.setCell ⟨q + 1, 1, none⟩ (.slice Au rs.length cu)).setCell ⟨q + 1, 2, none⟩ (.int .i64 x1)) (.slice Au rs.length cu) rs := rz_set hZs0 hBs0 2 _; have hAs1 : Blk ((w1.setCell ⟨q + 1, 1, none⟩ (.slice Au rs.length cu)).setCell ⟨q + 1, 2, none⟩ (.int .i64 x1)) q 24 #[.int .i64 0, .slice none 0 0, .int .i64 0, .int .i64 0, .int .i64 0, .bool false] := hAs0.far (p := ⟨q + 1, 2, none⟩) (Nat.ne_of_lt (Nat.lt_succ_self q)) _; have hbs1 : Below q w ((w1.setCell ⟨q + 1, 1, none⟩ (.slice Au rs.length cu)).setCell ⟨q + 1, 2, none⟩ (.int .i64 x1)) := hbs0.setCell (Nat.le_succ q) _; have hBs2 : Blk (((w1.setCell ⟨q + 1, 1, none⟩ (.slice Au rs.length cu)).setCell ⟨q + 1, 2, none⟩ (.int .i64 x1)).setCell ⟨q + 1, 3, none⟩ (.int .i64 x2)) (q + 1) 24 #[.int .i64 (k : Int), (.slice Au rs.length cu), .int .i64 x1, .int .i64 x2, .int .i64 0, .bool false] := hBs1.set_ 3 _; have hZs2 : Rz (((w1.setCell ⟨q + 1, 1, none⟩ (.slice Au rs.length cu)).setCell ⟨q + 1, 2, none⟩ (.int .i64 x1)).setCell ⟨q + 1, 3, none⟩ (.int .i64 x2)) (.slice Au rs.length cu) rs := rz_set hZs1 hBs1 3 _; have hAs2 : Blk (((w1.setCell ⟨q + 1, 1, none⟩ (.slice Au rs.length cu)).setCell ⟨q + 1, 2, none⟩ (.int .i64 x1)).setCell ⟨q + 1, 3, none⟩ (.int .i64 x2)) q 24 #[.int .i64 0, .slice none 0 0, .int .i64 0, .int .i64 0, .int .i64 0, .bool false] := hAs1.far (p := ⟨q + 1, 3, none⟩) (Nat.ne_of_lt (Nat.lt_succ_self q)) _; have hbs2 : Below q w (((w1.setCell ⟨q + 1, 1, none⟩ (.slice Au rs.length cu)).setCell ⟨q + 1, 2, none⟩ (.int .i64 x1)).setCell ⟨q + 1, 3, none⟩ (.int .i64 x2)) := hbs1.setCell (Nat.le_succ q) _; have hBs3 : Blk ((((w1.setCell ⟨q + 1, 1, none⟩ (.slice Au rs.length cu)).setCell ⟨q + 1, 2, none⟩ (.int .i64 x1)).setCell ⟨q + 1, 3, none⟩ (.int .i64 x2)).setCell ⟨q + 1, 4, none⟩ (.int .i64 x3)) (q + 1) 24 #[.int .i64 (k : Int), (.slice Au rs.length cu), .int .i64 x1, .int .i64 x2, .int .i64 x3, .bool false] := hBs2.set_ 4 _; have hZs3 : Rz ((((w1.setCell ⟨q + 1, 1, none⟩ (.slice Au rs.length cu)).setCell ⟨q + 1, 2, none⟩ (.int .i64 x1)).setCell ⟨q + 1, 3, none⟩ (.int .i64 x2)).setCell ⟨q + 1, 4, none⟩ (.int .i64 x3)) (.slice Au rs.length cu) rs := rz_set hZs2 hBs2 4 _; have hAs3 : Blk ((((w1.setCell ⟨q + 1, 1, none⟩ (.slice Au rs.length cu)).setCell ⟨q + 1, 2, none⟩ (.int .i64 x1)).setCell ⟨q + 1, 3, none⟩ (.int .i64 x2)).setCell ⟨q + 1, 4, none⟩ (.int .i64 x3)) q 24 #[.int .i64 0, .slice none 0 0, .int .i64 0, .int .i64 0, .int .i64 0, .bool false] := hAs2.far (p := ⟨q + 1, 4, none⟩) (Nat.ne_of_lt (Nat.lt_succ_self q)) _; have hbs3 : Below q w ((((w1.setCell ⟨q + 1, 1, none⟩ (.slice Au rs.length cu)).setCell ⟨q + 1, 2, none⟩ (.int .i64 x1)).setCell ⟨q + 1, 3, none⟩ (.int .i64 x2)).setCell ⟨q + 1, 4, none⟩ (.int .i64 x3)) := hbs2.setCell (Nat.le_succ q) _; have hBs4 : Blk (((((w1.setCell ⟨q + 1, 1, none⟩ (.slice Au rs.length cu)).setCell ⟨q + 1, 2, none⟩ (.int .i64 x1)).setCell ⟨q + 1, 3, none⟩ (.int .i64 x2)).setCell ⟨q + 1, 4, none⟩ (.int .i64 x3)).setCell ⟨q + 1, 5, none⟩ (.bool true)) (q + 1) 24 #[.int .i64 (k : Int), (.slice Au rs.length cu), .int .i64 x1, .int .i64 x2, .int .i64 x3, .bool true] := hBs3.set_ 5 _; have hZs4 : Rz (((((w1.setCell ⟨q + 1, 1, none⟩ (.slice Au rs.length cu)).setCell ⟨q + 1, 2, none⟩ (.int .i64 x1)).setCell ⟨q + 1, 3, none⟩ (.int .i64 x2)).setCell ⟨q + 1, 4, none⟩ (.int .i64 x3)).setCell ⟨q + 1, 5, none⟩ (.bool true)) (.slice Au rs.length cu) rs := rz_set hZs3 hBs3 5 _; have hAs4 : Blk (((((w1.setCell ⟨q + 1, 1, none⟩ (.slice Au rs.length cu)).setCell ⟨q + 1, 2, none⟩ (.int .i64 x1)).setCell ⟨q + 1, 3, none⟩ (.int .i64 x2)).setCell ⟨q + 1, 4, none⟩ (.int .i64 x3)).setCell ⟨q + 1, 5, none⟩ (.bool true)) q 24 #[.int .i64 0, .slice none 0 0, .int .i64 0, .int .i64 0, .int .i64 0, .bool false] := hAs3.far (p := ⟨q + 1, 5, none⟩) (Nat.ne_of_lt (Nat.lt_succ_self q)) _; have hbs4 : Below q w (((((w1.setCell ⟨q + 1, 1, none⟩ (.slice Au rs.length cu)).setCell ⟨q + 1, 2, none⟩ (.int .i64 x1)).setCell ⟨q + 1, 3, none⟩ (.int .i64 x2)).setCell ⟨q + 1, 4, none⟩ (.int .i64 x3)).setCell ⟨q + 1, 5, none⟩ (.bool true)) := hbs3.setCell (Nat.le_succ q) _)
                      | (go_at_call 33; (with_reducible refine (hD1 _).mono ?_); rintro e v1 ⟨rfl, rfl⟩)
                      | (go_at_call 33; (with_reducible refine (hD2 _).mono ?_); rintro e v2 ⟨rfl, rfl⟩)
                      | (go_at_call 33; (with_reducible refine (hD3 _).mono ?_); rintro e v3 ⟨rfl, rfl⟩)
                      | (go_at_call 11; (with_reducible refine (hR _ _ hZs4).mono ?_); rintro e w5 ⟨rfl, hb5⟩; have hA5 := hAs4.below hb5 hAs4.lt; have hB5 := hBs4.below hb5 hBs4.lt; have kc5 := hB5.cell; have ka5 := hA5.cell; have kb5 := hA5.frozen; have hb05 := hbs4.trans (hb5.mono (by have := hbs4.size; omega)); have hZ5 := hZs4.below hb5))
                    refine bodyPost_cell_tmp (g := q) (cs := #[.int .i64 0, .slice none 0 0, .int .i64 0, .int .i64 0, .int .i64 0, .bool false]) Tryz.results7 rfl (Blk.six (u0 := .int .i64 0) (u1 := .slice none 0 0) (u2 := .int .i64 0) (u3 := .int .i64 0) (u4 := .int .i64 0) (u5 := .bool false) hA5) Tryz.underlying24 rfl (by kernel_rfl) rfl ⟨⟨.slice none 0 0, by rw [hO.out]; rfl, by rw [hO.out]; exact Rz.nil _⟩, ?_⟩
                    rw [hq]
                    exact below_six hb05 (Nat.le_refl _) _ _ _ _ _ _
                  | true =>
                    rw [hrq] at hE hR
                    have hO := hide (show parQ s.data.toList = ⟨0, ⟨(k : Int), rs, x1, x2, x3, true⟩⟩ from by rw [hE, if_pos rfl])
                    clear hE hrq
                    go_wp2_with (first
                      | (go_at_call 32; (with_reducible refine (hMP _).mono ?_); rintro e w1 ⟨⟨u, rfl, hZ⟩, hb1⟩; obtain ⟨Au, cu, rfl⟩ := hZ.shape; have hA1 := hAR.below hb1 hAR.lt; have hB1 := hBR.below hb1 hBR.lt; have kf1 := hB1.frozen; have kc1 := hB1.cell; have kg1 := hA1.frozen; have kd1 := hA1.cell; have hb01 := hbR.trans (hb1.mono hqR); have hne : ¬ (q = q + 1) := (by omega); have hBs0 : Blk (w1.setCell ⟨q + 1, 1, none⟩ (.slice Au rs.length cu)) (q + 1) 24 #[.int .i64 (k : Int), (.slice Au rs.length cu), .int .i64 0, .int .i64 0, .int .i64 0, .bool false] := hB1.set_ 1 _; have hZs0 : Rz (w1.setCell ⟨q + 1, 1, none⟩ (.slice Au rs.length cu)) (.slice Au rs.length cu) rs := rz_set hZ hB1 1 _; have hAs0 : Blk (w1.setCell ⟨q + 1, 1, none⟩ (.slice Au rs.length cu)) q 24 #[.int .i64 0, .slice none 0 0, .int .i64 0, .int .i64 0, .int .i64 0, .bool false] := hA1.far (p := ⟨q + 1, 1, none⟩) (Nat.ne_of_lt (Nat.lt_succ_self q)) _; have hbs0 : Below q w (w1.setCell ⟨q + 1, 1, none⟩ (.slice Au rs.length cu)) := hb01.setCell (Nat.le_succ q) _; have hBs1 : Blk ((w1.setCell ⟨q + 1, 1, none⟩ (.slice Au rs.length cu)).setCell ⟨q + 1, 2, none⟩ (.int .i64 x1)) (q + 1) 24 #[.int .i64 (k : Int), (.slice Au rs.length cu), .int .i64 x1, .int .i64 0, .int .i64 0, .bool false] := hBs0.set_ 2 _; have hZs1 : Rz ((w1.setCell ⟨q + 1, 1, none⟩ (.slice Au rs.length cu)).setCell ⟨q + 1, 2, none⟩ (.int .i64 x1)) (.slice Au rs.length cu) rs := rz_set hZs0 hBs0 2 _; have hAs1 : Blk ((w1.setCell ⟨q + 1, 1, none⟩ (.slice Au rs.length cu)).setCell ⟨q + 1, 2, none⟩ (.int .i64 x1)) q 24 #[.int .i64 0, .slice none 0 0, .int .i64 0, .int .i64 0, .int .i64 0, .bool false] := hAs0.far (p := ⟨q + 1, 2, none⟩) (Nat.ne_of_lt (Nat.lt_succ_self q)) _; have hbs1 : Below q w ((w1.setCell ⟨q + 1, 1, none⟩ (.slice Au rs.length cu)).setCell ⟨q + 1, 2, none⟩ (.int .i64 x1)) := hbs0.setCell (Nat.le_succ q) _; have hBs2 : Blk (((w1.setCell ⟨q + 1, 1, none⟩ (.slice Au rs.length cu)).setCell ⟨q + 1, 2, none⟩ (.int .i64 x1)).setCell ⟨q + 1, 3, none⟩ (.int .i64 x2)) (q + 1) 24 #[.int .i64 (k : Int), (.slice Au rs.length cu), .int .i64 x1, .int .i64 x2, .int .i64 0, .bool false] := hBs1.set_ 3 _; have hZs2 : Rz (((w1.setCell ⟨q + 1, 1, none⟩ (.slice Au rs.length cu)).setCell ⟨q + 1, 2, none⟩ (.int .i64 x1)).setCell ⟨q + 1, 3, none⟩ (.int .i64 x2)) (.slice Au rs.length cu) rs := rz_set hZs1 hBs1 3 _; have hAs2 : Blk (((w1.setCell ⟨q + 1, 1, none⟩ (.slice Au rs.length cu)).setCell ⟨q + 1, 2, none⟩ (.int .i64 x1)).setCell ⟨q + 1, 3, none⟩ (.int .i64 x2)) q 24 #[.int .i64 0, .slice none 0 0, .int .i64 0, .int .i64 0, .int .i64 0, .bool false] := hAs1.far (p := ⟨q + 1, 3, none⟩) (Nat.ne_of_lt (Nat.lt_succ_self q)) _; have hbs2 : Below q w (((w1.setCell ⟨q + 1, 1, none⟩ (.slice Au rs.length cu)).setCell ⟨q + 1, 2, none⟩ (.int .i64 x1)).setCell ⟨q + 1, 3, none⟩ (.int .i64 x2)) := hbs1.setCell (Nat.le_succ q) _; have hBs3 : Blk ((((w1.setCell ⟨q + 1, 1, none⟩ (.slice Au rs.length cu)).setCell ⟨q + 1, 2, none⟩ (.int .i64 x1)).setCell ⟨q + 1, 3, none⟩ (.int .i64 x2)).setCell ⟨q + 1, 4, none⟩ (.int .i64 x3)) (q + 1) 24 #[.int .i64 (k : Int), (.slice Au rs.length cu), .int .i64 x1, .int .i64 x2, .int .i64 x3, .bool false] := hBs2.set_ 4 _; have hZs3 : Rz ((((w1.setCell ⟨q + 1, 1, none⟩ (.slice Au rs.length cu)).setCell ⟨q + 1, 2, none⟩ (.int .i64 x1)).setCell ⟨q + 1, 3, none⟩ (.int .i64 x2)).setCell ⟨q + 1, 4, none⟩ (.int .i64 x3)) (.slice Au rs.length cu) rs := rz_set hZs2 hBs2 4 _; have hAs3 : Blk ((((w1.setCell ⟨q + 1, 1, none⟩ (.slice Au rs.length cu)).setCell ⟨q + 1, 2, none⟩ (.int .i64 x1)).setCell ⟨q + 1, 3, none⟩ (.int .i64 x2)).setCell ⟨q + 1, 4, none⟩ (.int .i64 x3)) q 24 #[.int .i64 0, .slice none 0 0, .int .i64 0, .int .i64 0, .int .i64 0, .bool false] := hAs2.far (p := ⟨q + 1, 4, none⟩) (Nat.ne_of_lt (Nat.lt_succ_self q)) _; have hbs3 : Below q w ((((w1.setCell ⟨q + 1, 1, none⟩ (.slice Au rs.length cu)).setCell ⟨q + 1, 2, none⟩ (.int .i64 x1)).setCell ⟨q + 1, 3, none⟩ (.int .i64 x2)).setCell ⟨q + 1, 4, none⟩ (.int .i64 x3)) := hbs2.setCell (Nat.le_succ q) _; have hBs4 : Blk (((((w1.setCell ⟨q + 1, 1, none⟩ (.slice Au rs.length cu)).setCell ⟨q + 1, 2, none⟩ (.int .i64 x1)).setCell ⟨q + 1, 3, none⟩ (.int .i64 x2)).setCell ⟨q + 1, 4, none⟩ (.int .i64 x3)).setCell ⟨q + 1, 5, none⟩ (.bool true)) (q + 1) 24 #[.int .i64 (k : Int), (.slice Au rs.length cu), .int .i64 x1, .int .i64 x2, .int .i64 x3, .bool true] := hBs3.set_ 5 _; have hZs4 : Rz (((((w1.setCell ⟨q + 1, 1, none⟩ (.slice Au rs.length cu)).setCell ⟨q + 1, 2, none⟩ (.int .i64 x1)).setCell ⟨q + 1, 3, none⟩ (.int .i64 x2)).setCell ⟨q + 1, 4, none⟩ (.int .i64 x3)).setCell ⟨q + 1, 5, none⟩ (.bool true)) (.slice Au rs.length cu) rs := rz_set hZs3 hBs3 5 _; have hAs4 : Blk (((((w1.setCell ⟨q + 1, 1, none⟩ (.slice Au rs.length cu)).setCell ⟨q + 1, 2, none⟩ (.int .i64 x1)).setCell ⟨q + 1, 3, none⟩ (.int .i64 x2)).setCell ⟨q + 1, 4, none⟩ (.int .i64 x3)).setCell ⟨q + 1, 5, none⟩ (.bool true)) q 24 #[.int .i64 0, .slice none 0 0, .int .i64 0, .int .i64 0, .int .i64 0, .bool false] := hAs3.far (p := ⟨q + 1, 5, none⟩) (Nat.ne_of_lt (Nat.lt_succ_self q)) _; have hbs4 : Below q w (((((w1.setCell ⟨q + 1, 1, none⟩ (.slice Au rs.length cu)).setCell ⟨q + 1, 2, none⟩ (.int .i64 x1)).setCell ⟨q + 1, 3, none⟩ (.int .i64 x2)).setCell ⟨q + 1, 4, none⟩ (.int .i64 x3)).setCell ⟨q + 1, 5, none⟩ (.bool true)) := hbs3.setCell (Nat.le_succ q) _)
                      | (go_at_call 33; (with_reducible refine (hD1 _).mono ?_); rintro e v1 ⟨rfl, rfl⟩)
                      | (go_at_call 33; (with_reducible refine (hD2 _).mono ?_); rintro e v2 ⟨rfl, rfl⟩)
                      | (go_at_call 33; (with_reducible refine (hD3 _).mono ?_); rintro e v3 ⟨rfl, rfl⟩)
                      | (go_at_call 11; (with_reducible refine (hR _ _ hZs4).mono ?_); rintro e w5 ⟨rfl, hb5⟩; have hA5 := hAs4.below hb5 hAs4.lt; have hB5 := hBs4.below hb5 hBs4.lt; have kc5 := hB5.cell; have ka5 := hA5.cell; have kb5 := hA5.frozen; have hb05 := hbs4.trans (hb5.mono (by have := hbs4.size; omega)); have hZ5 := hZs4.below hb5))
                    refine bodyPost_cell_tmp (g := q) (cs := #[.int .i64 (k : Int), (.slice Au rs.length cu), .int .i64 x1, .int .i64 x2, .int .i64 x3, .bool true]) Tryz.results7 rfl (by with_reducible exact Blk.six hA5) Tryz.underlying24 rfl (by kernel_rfl) rfl ⟨⟨.slice Au rs.length cu, by rw [hO.out]; rfl, ?_⟩, by (rw [hq]; with_reducible exact below_six hb05 (Nat.le_refl _) _ _ _ _ _ _)⟩
                    rw [hO.out]
                    exact rz_six hZ5 hA5
                · have hx9 : ((s.extract E s.size).toList == [32, 110, 111, 116, 101, 115]) = false := by rw [hne9]; exact decide_eq_false hnt
                  by_cases hES : E < s.size
                  · have hO := hide (dq_more KQ.out KE.out (by omega) (by rw [Int.toNat_natCast]; exact hnt) (by have := K0.out.1; omega))
                    have d10 : decide ((E : Int) < s.size) = true := decide_eq_true (by omega)
                    clear hne9 hnt hle
                    go_wp2_with (first
                      | (go_at_call 32; (with_reducible refine (hMP _).mono ?_); rintro e w1 ⟨⟨u, rfl, hZ⟩, hb1⟩; obtain ⟨Au, cu, rfl⟩ := hZ.shape; have hA1 := hAR.below hb1 hAR.lt; have hB1 := hBR.below hb1 hBR.lt; have kf1 := hB1.frozen; have kc1 := hB1.cell; have kg1 := hA1.frozen; have kd1 := hA1.cell; have hb01 := hbR.trans (hb1.mono hqR); have hne : ¬ (q = q + 1) := (by omega))
                      | (go_at_call 33; (with_reducible refine (hD1 _).mono ?_); rintro e v1 ⟨rfl, rfl⟩)
                      | (go_at_call 33; (with_reducible refine (hD2 _).mono ?_); rintro e v2 ⟨rfl, rfl⟩)
                      | (go_at_call 33; (with_reducible refine (hD3 _).mono ?_); rintro e v3 ⟨rfl, rfl⟩))
                    have hBs0 : Blk (w1.setCell ⟨q + 1, 1, none⟩ (.slice Au rs.length cu)) (q + 1) 24 #[.int .i64 (k : Int), (.slice Au rs.length cu), .int .i64 0, .int .i64 0, .int .i64 0, .bool false] := hB1.set_ 1 _
                    have hZs0 : Rz (w1.setCell ⟨q + 1, 1, none⟩ (.slice Au rs.length cu)) (.slice Au rs.length cu) rs := rz_set hZ hB1 1 _
                    have hAs0 : Blk (w1.setCell ⟨q + 1, 1, none⟩ (.slice Au rs.length cu)) q 24 #[.int .i64 0, .slice none 0 0, .int .i64 0, .int .i64 0, .int .i64 0, .bool false] := hA1.far (p := ⟨q + 1, 1, none⟩) (Nat.ne_of_lt (Nat.lt_succ_self q)) _
                    have hbs0 : Below q w (w1.setCell ⟨q + 1, 1, none⟩ (.slice Au rs.length cu)) := hb01.setCell (Nat.le_succ q) _
                    have hBs1 : Blk ((w1.setCell ⟨q + 1, 1, none⟩ (.slice Au rs.length cu)).setCell ⟨q + 1, 2, none⟩ (.int .i64 x1)) (q + 1) 24 #[.int .i64 (k : Int), (.slice Au rs.length cu), .int .i64 x1, .int .i64 0, .int .i64 0, .bool false] := hBs0.set_ 2 _
                    have hZs1 : Rz ((w1.setCell ⟨q + 1, 1, none⟩ (.slice Au rs.length cu)).setCell ⟨q + 1, 2, none⟩ (.int .i64 x1)) (.slice Au rs.length cu) rs := rz_set hZs0 hBs0 2 _
                    have hAs1 : Blk ((w1.setCell ⟨q + 1, 1, none⟩ (.slice Au rs.length cu)).setCell ⟨q + 1, 2, none⟩ (.int .i64 x1)) q 24 #[.int .i64 0, .slice none 0 0, .int .i64 0, .int .i64 0, .int .i64 0, .bool false] := hAs0.far (p := ⟨q + 1, 2, none⟩) (Nat.ne_of_lt (Nat.lt_succ_self q)) _
                    have hbs1 : Below q w ((w1.setCell ⟨q + 1, 1, none⟩ (.slice Au rs.length cu)).setCell ⟨q + 1, 2, none⟩ (.int .i64 x1)) := hbs0.setCell (Nat.le_succ q) _
                    have hBs2 : Blk (((w1.setCell ⟨q + 1, 1, none⟩ (.slice Au rs.length cu)).setCell ⟨q + 1, 2, none⟩ (.int .i64 x1)).setCell ⟨q + 1, 3, none⟩ (.int .i64 x2)) (q + 1) 24 #[.int .i64 (k : Int), (.slice Au rs.length cu), .int .i64 x1, .int .i64 x2, .int .i64 0, .bool false] := hBs1.set_ 3 _
                    have hZs2 : Rz (((w1.setCell ⟨q + 1, 1, none⟩ (.slice Au rs.length cu)).setCell ⟨q + 1, 2, none⟩ (.int .i64 x1)).setCell ⟨q + 1, 3, none⟩ (.int .i64 x2)) (.slice Au rs.length cu) rs := rz_set hZs1 hBs1 3 _
                    have hAs2 : Blk (((w1.setCell ⟨q + 1, 1, none⟩ (.slice Au rs.length cu)).setCell ⟨q + 1, 2, none⟩ (.int .i64 x1)).setCell ⟨q + 1, 3, none⟩ (.int .i64 x2)) q 24 #[.int .i64 0, .slice none 0 0, .int .i64 0, .int .i64 0, .int .i64 0, .bool false] := hAs1.far (p := ⟨q + 1, 3, none⟩) (Nat.ne_of_lt (Nat.lt_succ_self q)) _
                    have hbs2 : Below q w (((w1.setCell ⟨q + 1, 1, none⟩ (.slice Au rs.length cu)).setCell ⟨q + 1, 2, none⟩ (.int .i64 x1)).setCell ⟨q + 1, 3, none⟩ (.int .i64 x2)) := hbs1.setCell (Nat.le_succ q) _
                    have hBs3 : Blk ((((w1.setCell ⟨q + 1, 1, none⟩ (.slice Au rs.length cu)).setCell ⟨q + 1, 2, none⟩ (.int .i64 x1)).setCell ⟨q + 1, 3, none⟩ (.int .i64 x2)).setCell ⟨q + 1, 4, none⟩ (.int .i64 x3)) (q + 1) 24 #[.int .i64 (k : Int), (.slice Au rs.length cu), .int .i64 x1, .int .i64 x2, .int .i64 x3, .bool false] := hBs2.set_ 4 _
                    have hZs3 : Rz ((((w1.setCell ⟨q + 1, 1, none⟩ (.slice Au rs.length cu)).setCell ⟨q + 1, 2, none⟩ (.int .i64 x1)).setCell ⟨q + 1, 3, none⟩ (.int .i64 x2)).setCell ⟨q + 1, 4, none⟩ (.int .i64 x3)) (.slice Au rs.length cu) rs := rz_set hZs2 hBs2 4 _
                    have hAs3 : Blk ((((w1.setCell ⟨q + 1, 1, none⟩ (.slice Au rs.length cu)).setCell ⟨q + 1, 2, none⟩ (.int .i64 x1)).setCell ⟨q + 1, 3, none⟩ (.int .i64 x2)).setCell ⟨q + 1, 4, none⟩ (.int .i64 x3)) q 24 #[.int .i64 0, .slice none 0 0, .int .i64 0, .int .i64 0, .int .i64 0, .bool false] := hAs2.far (p := ⟨q + 1, 4, none⟩) (Nat.ne_of_lt (Nat.lt_succ_self q)) _
                    have hbs3 : Below q w ((((w1.setCell ⟨q + 1, 1, none⟩ (.slice Au rs.length cu)).setCell ⟨q + 1, 2, none⟩ (.int .i64 x1)).setCell ⟨q + 1, 3, none⟩ (.int .i64 x2)).setCell ⟨q + 1, 4, none⟩ (.int .i64 x3)) := hbs2.setCell (Nat.le_succ q) _
                    have hBs4 : Blk (((((w1.setCell ⟨q + 1, 1, none⟩ (.slice Au rs.length cu)).setCell ⟨q + 1, 2, none⟩ (.int .i64 x1)).setCell ⟨q + 1, 3, none⟩ (.int .i64 x2)).setCell ⟨q + 1, 4, none⟩ (.int .i64 x3)).setCell ⟨q + 1, 5, none⟩ (.bool false)) (q + 1) 24 #[.int .i64 (k : Int), (.slice Au rs.length cu), .int .i64 x1, .int .i64 x2, .int .i64 x3, .bool false] := hBs3.set_ 5 _
                    have hZs4 : Rz (((((w1.setCell ⟨q + 1, 1, none⟩ (.slice Au rs.length cu)).setCell ⟨q + 1, 2, none⟩ (.int .i64 x1)).setCell ⟨q + 1, 3, none⟩ (.int .i64 x2)).setCell ⟨q + 1, 4, none⟩ (.int .i64 x3)).setCell ⟨q + 1, 5, none⟩ (.bool false)) (.slice Au rs.length cu) rs := rz_set hZs3 hBs3 5 _
                    have hAs4 : Blk (((((w1.setCell ⟨q + 1, 1, none⟩ (.slice Au rs.length cu)).setCell ⟨q + 1, 2, none⟩ (.int .i64 x1)).setCell ⟨q + 1, 3, none⟩ (.int .i64 x2)).setCell ⟨q + 1, 4, none⟩ (.int .i64 x3)).setCell ⟨q + 1, 5, none⟩ (.bool false)) q 24 #[.int .i64 0, .slice none 0 0, .int .i64 0, .int .i64 0, .int .i64 0, .bool false] := hAs3.far (p := ⟨q + 1, 5, none⟩) (Nat.ne_of_lt (Nat.lt_succ_self q)) _
                    have hbs4 : Below q w (((((w1.setCell ⟨q + 1, 1, none⟩ (.slice Au rs.length cu)).setCell ⟨q + 1, 2, none⟩ (.int .i64 x1)).setCell ⟨q + 1, 3, none⟩ (.int .i64 x2)).setCell ⟨q + 1, 4, none⟩ (.int .i64 x3)).setCell ⟨q + 1, 5, none⟩ (.bool false)) := hbs3.setCell (Nat.le_succ q) _
                    refine bodyPost_cell_tmp (g := q) (cs := #[.int .i64 0, .slice none 0 0, .int .i64 0, .int .i64 0, .int .i64 0, .bool false]) Tryz.results7 rfl (Blk.six (u0 := .int .i64 0) (u1 := .slice none 0 0) (u2 := .int .i64 0) (u3 := .int .i64 0) (u4 := .int .i64 0) (u5 := .bool false) hAs4) Tryz.underlying24 rfl (by kernel_rfl) rfl ⟨⟨.slice none 0 0, by rw [hO.out]; rfl, by rw [hO.out]; exact Rz.nil _⟩, ?_⟩
                    rw [hq]
                    exact below_six hbs4 (Nat.le_refl _) _ _ _ _ _ _
                  · obtain rfl : E = s.size := by omega
                    have d10 : decide ((s.size : Int) < s.size) = false := decide_eq_false (by omega)
                    have HB := hide (show (false = true ∧ s.data.toList.drop ((s.size : Int)).toNat = 32 :: notesB) ∨ (false = false ∧ s.data.toList.drop ((s.size : Int)).toNat = []) from .inr ⟨rfl, by rw [Int.toNat_natCast, K0.out.1]; exact List.drop_eq_nil_of_le (Nat.le_refl _)⟩)
                    clear hne9 hnt
                    have hE : parQ s.data.toList = if rightQ ⟨(k : Int), rs, x1, x2, x3, false⟩ = true then ⟨0, ⟨(k : Int), rs, x1, x2, x3, false⟩⟩ else ⟨90, zeroQ⟩ := dq_end (k := k) KQ.out KE.out (by omega) HB.out
                    have hR := fun rv W h => dright_any ⟨(k : Int), rs, x1, x2, x3, false⟩ rv W h ⟨right_oks hrR, by dsimp only; omega, by dsimp only; omega, by dsimp only; omega, by dsimp only; omega⟩
                    cases hrq : rightQ ⟨(k : Int), rs, x1, x2, x3, false⟩ with
                    | false =>
                      rw [hrq] at hE hR
                      have hO := hide (show parQ s.data.toList = ⟨90, zeroQ⟩ from by rw [hE, if_neg (by decide)])
                      clear hE hrq
                      go_wp2_with (first
                        | (go_at_call 32; (with_reducible refine (hMP _).mono ?_); rintro e w1 ⟨⟨u, rfl, hZ⟩, hb1⟩; obtain ⟨Au, cu, rfl⟩ := hZ.shape; have hA1 := hAR.below hb1 hAR.lt; have hB1 := hBR.below hb1 hBR.lt; have kf1 := hB1.frozen; have kc1 := hB1.cell; have kg1 := hA1.frozen; have kd1 := hA1.cell; have hb01 := hbR.trans (hb1.mono hqR); have hne : ¬ (q = q + 1) := (by omega); have hBs0 : Blk (w1.setCell ⟨q + 1, 1, none⟩ (.slice Au rs.length cu)) (q + 1) 24 #[.int .i64 (k : Int), (.slice Au rs.length cu), .int .i64 0, .int .i64 0, .int .i64 0, .bool false] := hB1.set_ 1 _; have hZs0 : Rz (w1.setCell ⟨q + 1, 1, none⟩ (.slice Au rs.length cu)) (.slice Au rs.length cu) rs := rz_set hZ hB1 1 _; have hAs0 : Blk (w1.setCell ⟨q + 1, 1, none⟩ (.slice Au rs.length cu)) q 24 #[.int .i64 0, .slice none 0 0, .int .i64 0, .int .i64 0, .int .i64 0, .bool false] := hA1.far (p := ⟨q + 1, 1, none⟩) (Nat.ne_of_lt (Nat.lt_succ_self q)) _; have hbs0 : Below q w (w1.setCell ⟨q + 1, 1, none⟩ (.slice Au rs.length cu)) := hb01.setCell (Nat.le_succ q) _; have hBs1 : Blk ((w1.setCell ⟨q + 1, 1, none⟩ (.slice Au rs.length cu)).setCell ⟨q + 1, 2, none⟩ (.int .i64 x1)) (q + 1) 24 #[.int .i64 (k : Int), (.slice Au rs.length cu), .int .i64 x1, .int .i64 0, .int .i64 0, .bool false] := hBs0.set_ 2 _; have hZs1 : Rz ((w1.setCell ⟨q + 1, 1, none⟩ (.slice Au rs.length cu)).setCell ⟨q + 1, 2, none⟩ (.int .i64 x1)) (.slice Au rs.length cu) rs := rz_set hZs0 hBs0 2 _; have hAs1 : Blk ((w1.setCell ⟨q + 1, 1, none⟩ (.slice Au rs.length cu)).setCell ⟨q + 1, 2, none⟩ (.int .i64 x1)) q 24 #[.int .i64 0, .slice none 0 0, .int .i64 0, .int .i64 0, .int .i64 0, .bool false] := hAs0.far (p := ⟨q + 1, 2, none⟩) (Nat.ne_of_lt (Nat.lt_succ_self q)) _; have hbs1 : Below q w ((w1.setCell ⟨q + 1, 1, none⟩ (.slice Au rs.length cu)).setCell ⟨q + 1, 2, none⟩ (.int .i64 x1)) := hbs0.setCell (Nat.le_succ q) _; have hBs2 : Blk (((w1.setCell ⟨q + 1, 1, none⟩ (.slice Au rs.length cu)).setCell ⟨q + 1, 2, none⟩ (.int .i64 x1)).setCell ⟨q + 1, 3, none⟩ (.int .i64 x2)) (q + 1) 24 #[.int .i64 (k : Int), (.slice Au rs.length cu), .int .i64 x1, .int .i64 x2, .int .i64 0, .bool false] := hBs1.set_ 3 _; have hZs2 : Rz (((w1.setCell ⟨q + 1, 1, none⟩ (.slice Au rs.length cu)).setCell ⟨q + 1, 2, none⟩ (.int .i64 x1)).setCell ⟨q + 1, 3, none⟩ (.int .i64 x2)) (.slice Au rs.length cu) rs := rz_set hZs1 hBs1 3 _; have hAs2 : Blk (((w1.setCell ⟨q + 1, 1, none⟩ (.slice Au rs.length cu)).setCell ⟨q + 1, 2, none⟩ (.int .i64 x1)).setCell ⟨q + 1, 3, none⟩ (.int .i64 x2)) q 24 #[.int .i64 0, .slice none 0 0, .int .i64 0, .int .i64 0, .int .i64 0, .bool false] := hAs1.far (p := ⟨q + 1, 3, none⟩) (Nat.ne_of_lt (Nat.lt_succ_self q)) _; have hbs2 : Below q w (((w1.setCell ⟨q + 1, 1, none⟩ (.slice Au rs.length cu)).setCell ⟨q + 1, 2, none⟩ (.int .i64 x1)).setCell ⟨q + 1, 3, none⟩ (.int .i64 x2)) := hbs1.setCell (Nat.le_succ q) _; have hBs3 : Blk ((((w1.setCell ⟨q + 1, 1, none⟩ (.slice Au rs.length cu)).setCell ⟨q + 1, 2, none⟩ (.int .i64 x1)).setCell ⟨q + 1, 3, none⟩ (.int .i64 x2)).setCell ⟨q + 1, 4, none⟩ (.int .i64 x3)) (q + 1) 24 #[.int .i64 (k : Int), (.slice Au rs.length cu), .int .i64 x1, .int .i64 x2, .int .i64 x3, .bool false] := hBs2.set_ 4 _; have hZs3 : Rz ((((w1.setCell ⟨q + 1, 1, none⟩ (.slice Au rs.length cu)).setCell ⟨q + 1, 2, none⟩ (.int .i64 x1)).setCell ⟨q + 1, 3, none⟩ (.int .i64 x2)).setCell ⟨q + 1, 4, none⟩ (.int .i64 x3)) (.slice Au rs.length cu) rs := rz_set hZs2 hBs2 4 _; have hAs3 : Blk ((((w1.setCell ⟨q + 1, 1, none⟩ (.slice Au rs.length cu)).setCell ⟨q + 1, 2, none⟩ (.int .i64 x1)).setCell ⟨q + 1, 3, none⟩ (.int .i64 x2)).setCell ⟨q + 1, 4, none⟩ (.int .i64 x3)) q 24 #[.int .i64 0, .slice none 0 0, .int .i64 0, .int .i64 0, .int .i64 0, .bool false] := hAs2.far (p := ⟨q + 1, 4, none⟩) (Nat.ne_of_lt (Nat.lt_succ_self q)) _; have hbs3 : Below q w ((((w1.setCell ⟨q + 1, 1, none⟩ (.slice Au rs.length cu)).setCell ⟨q + 1, 2, none⟩ (.int .i64 x1)).setCell ⟨q + 1, 3, none⟩ (.int .i64 x2)).setCell ⟨q + 1, 4, none⟩ (.int .i64 x3)) := hbs2.setCell (Nat.le_succ q) _; have hBs4 : Blk (((((w1.setCell ⟨q + 1, 1, none⟩ (.slice Au rs.length cu)).setCell ⟨q + 1, 2, none⟩ (.int .i64 x1)).setCell ⟨q + 1, 3, none⟩ (.int .i64 x2)).setCell ⟨q + 1, 4, none⟩ (.int .i64 x3)).setCell ⟨q + 1, 5, none⟩ (.bool false)) (q + 1) 24 #[.int .i64 (k : Int), (.slice Au rs.length cu), .int .i64 x1, .int .i64 x2, .int .i64 x3, .bool false] := hBs3.set_ 5 _; have hZs4 : Rz (((((w1.setCell ⟨q + 1, 1, none⟩ (.slice Au rs.length cu)).setCell ⟨q + 1, 2, none⟩ (.int .i64 x1)).setCell ⟨q + 1, 3, none⟩ (.int .i64 x2)).setCell ⟨q + 1, 4, none⟩ (.int .i64 x3)).setCell ⟨q + 1, 5, none⟩ (.bool false)) (.slice Au rs.length cu) rs := rz_set hZs3 hBs3 5 _; have hAs4 : Blk (((((w1.setCell ⟨q + 1, 1, none⟩ (.slice Au rs.length cu)).setCell ⟨q + 1, 2, none⟩ (.int .i64 x1)).setCell ⟨q + 1, 3, none⟩ (.int .i64 x2)).setCell ⟨q + 1, 4, none⟩ (.int .i64 x3)).setCell ⟨q + 1, 5, none⟩ (.bool false)) q 24 #[.int .i64 0, .slice none 0 0, .int .i64 0, .int .i64 0, .int .i64 0, .bool false] := hAs3.far (p := ⟨q + 1, 5, none⟩) (Nat.ne_of_lt (Nat.lt_succ_self q)) _; have hbs4 : Below q w (((((w1.setCell ⟨q + 1, 1, none⟩ (.slice Au rs.length cu)).setCell ⟨q + 1, 2, none⟩ (.int .i64 x1)).setCell ⟨q + 1, 3, none⟩ (.int .i64 x2)).setCell ⟨q + 1, 4, none⟩ (.int .i64 x3)).setCell ⟨q + 1, 5, none⟩ (.bool false)) := hbs3.setCell (Nat.le_succ q) _)
                        | (go_at_call 33; (with_reducible refine (hD1 _).mono ?_); rintro e v1 ⟨rfl, rfl⟩)
                        | (go_at_call 33; (with_reducible refine (hD2 _).mono ?_); rintro e v2 ⟨rfl, rfl⟩)
                        | (go_at_call 33; (with_reducible refine (hD3 _).mono ?_); rintro e v3 ⟨rfl, rfl⟩)
                        | (go_at_call 11; (with_reducible refine (hR _ _ hZs4).mono ?_); rintro e w5 ⟨rfl, hb5⟩; have hA5 := hAs4.below hb5 hAs4.lt; have hB5 := hBs4.below hb5 hBs4.lt; have kc5 := hB5.cell; have ka5 := hA5.cell; have kb5 := hA5.frozen; have hb05 := hbs4.trans (hb5.mono (by have := hbs4.size; omega)); have hZ5 := hZs4.below hb5))
                      refine bodyPost_cell_tmp (g := q) (cs := #[.int .i64 0, .slice none 0 0, .int .i64 0, .int .i64 0, .int .i64 0, .bool false]) Tryz.results7 rfl (Blk.six (u0 := .int .i64 0) (u1 := .slice none 0 0) (u2 := .int .i64 0) (u3 := .int .i64 0) (u4 := .int .i64 0) (u5 := .bool false) hA5) Tryz.underlying24 rfl (by kernel_rfl) rfl ⟨⟨.slice none 0 0, by rw [hO.out]; rfl, by rw [hO.out]; exact Rz.nil _⟩, ?_⟩
                      rw [hq]
                      exact below_six hb05 (Nat.le_refl _) _ _ _ _ _ _
                    | true =>
                      rw [hrq] at hE hR
                      have hO := hide (show parQ s.data.toList = ⟨0, ⟨(k : Int), rs, x1, x2, x3, false⟩⟩ from by rw [hE, if_pos rfl])
                      clear hE hrq
                      go_wp2_with (first
                        | (go_at_call 32; (with_reducible refine (hMP _).mono ?_); rintro e w1 ⟨⟨u, rfl, hZ⟩, hb1⟩; obtain ⟨Au, cu, rfl⟩ := hZ.shape; have hA1 := hAR.below hb1 hAR.lt; have hB1 := hBR.below hb1 hBR.lt; have kf1 := hB1.frozen; have kc1 := hB1.cell; have kg1 := hA1.frozen; have kd1 := hA1.cell; have hb01 := hbR.trans (hb1.mono hqR); have hne : ¬ (q = q + 1) := (by omega); have hBs0 : Blk (w1.setCell ⟨q + 1, 1, none⟩ (.slice Au rs.length cu)) (q + 1) 24 #[.int .i64 (k : Int), (.slice Au rs.length cu), .int .i64 0, .int .i64 0, .int .i64 0, .bool false] := hB1.set_ 1 _; have hZs0 : Rz (w1.setCell ⟨q + 1, 1, none⟩ (.slice Au rs.length cu)) (.slice Au rs.length cu) rs := rz_set hZ hB1 1 _; have hAs0 : Blk (w1.setCell ⟨q + 1, 1, none⟩ (.slice Au rs.length cu)) q 24 #[.int .i64 0, .slice none 0 0, .int .i64 0, .int .i64 0, .int .i64 0, .bool false] := hA1.far (p := ⟨q + 1, 1, none⟩) (Nat.ne_of_lt (Nat.lt_succ_self q)) _; have hbs0 : Below q w (w1.setCell ⟨q + 1, 1, none⟩ (.slice Au rs.length cu)) := hb01.setCell (Nat.le_succ q) _; have hBs1 : Blk ((w1.setCell ⟨q + 1, 1, none⟩ (.slice Au rs.length cu)).setCell ⟨q + 1, 2, none⟩ (.int .i64 x1)) (q + 1) 24 #[.int .i64 (k : Int), (.slice Au rs.length cu), .int .i64 x1, .int .i64 0, .int .i64 0, .bool false] := hBs0.set_ 2 _; have hZs1 : Rz ((w1.setCell ⟨q + 1, 1, none⟩ (.slice Au rs.length cu)).setCell ⟨q + 1, 2, none⟩ (.int .i64 x1)) (.slice Au rs.length cu) rs := rz_set hZs0 hBs0 2 _; have hAs1 : Blk ((w1.setCell ⟨q + 1, 1, none⟩ (.slice Au rs.length cu)).setCell ⟨q + 1, 2, none⟩ (.int .i64 x1)) q 24 #[.int .i64 0, .slice none 0 0, .int .i64 0, .int .i64 0, .int .i64 0, .bool false] := hAs0.far (p := ⟨q + 1, 2, none⟩) (Nat.ne_of_lt (Nat.lt_succ_self q)) _; have hbs1 : Below q w ((w1.setCell ⟨q + 1, 1, none⟩ (.slice Au rs.length cu)).setCell ⟨q + 1, 2, none⟩ (.int .i64 x1)) := hbs0.setCell (Nat.le_succ q) _; have hBs2 : Blk (((w1.setCell ⟨q + 1, 1, none⟩ (.slice Au rs.length cu)).setCell ⟨q + 1, 2, none⟩ (.int .i64 x1)).setCell ⟨q + 1, 3, none⟩ (.int .i64 x2)) (q + 1) 24 #[.int .i64 (k : Int), (.slice Au rs.length cu), .int .i64 x1, .int .i64 x2, .int .i64 0, .bool false] := hBs1.set_ 3 _; have hZs2 : Rz (((w1.setCell ⟨q + 1, 1, none⟩ (.slice Au rs.length cu)).setCell ⟨q + 1, 2, none⟩ (.int .i64 x1)).setCell ⟨q + 1, 3, none⟩ (.int .i64 x2)) (.slice Au rs.length cu) rs := rz_set hZs1 hBs1 3 _; have hAs2 : Blk (((w1.setCell ⟨q + 1, 1, none⟩ (.slice Au rs.length cu)).setCell ⟨q + 1, 2, none⟩ (.int .i64 x1)).setCell ⟨q + 1, 3, none⟩ (.int .i64 x2)) q 24 #[.int .i64 0, .slice none 0 0, .int .i64 0, .int .i64 0, .int .i64 0, .bool false] := hAs1.far (p := ⟨q + 1, 3, none⟩) (Nat.ne_of_lt (Nat.lt_succ_self q)) _; have hbs2 : Below q w (((w1.setCell ⟨q + 1, 1, none⟩ (.slice Au rs.length cu)).setCell ⟨q + 1, 2, none⟩ (.int .i64 x1)).setCell ⟨q + 1, 3, none⟩ (.int .i64 x2)) := hbs1.setCell (Nat.le_succ q) _; have hBs3 : Blk ((((w1.setCell ⟨q + 1, 1, none⟩ (.slice Au rs.length cu)).setCell ⟨q + 1, 2, none⟩ (.int .i64 x1)).setCell ⟨q + 1, 3, none⟩ (.int .i64 x2)).setCell ⟨q + 1, 4, none⟩ (.int .i64 x3)) (q + 1) 24 #[.int .i64 (k : Int), (.slice Au rs.length cu), .int .i64 x1, .int .i64 x2, .int .i64 x3, .bool false] := hBs2.set_ 4 _; have hZs3 : Rz ((((w1.setCell ⟨q + 1, 1, none⟩ (.slice Au rs.length cu)).setCell ⟨q + 1, 2, none⟩ (.int .i64 x1)).setCell ⟨q + 1, 3, none⟩ (.int .i64 x2)).setCell ⟨q + 1, 4, none⟩ (.int .i64 x3)) (.slice Au rs.length cu) rs := rz_set hZs2 hBs2 4 _; have hAs3 : Blk ((((w1.setCell ⟨q + 1, 1, none⟩ (.slice Au rs.length cu)).setCell ⟨q + 1, 2, none⟩ (.int .i64 x1)).setCell ⟨q + 1, 3, none⟩ (.int .i64 x2)).setCell ⟨q + 1, 4, none⟩ (.int .i64 x3)) q 24 #[.int .i64 0, .slice none 0 0, .int .i64 0, .int .i64 0, .int .i64 0, .bool false] := hAs2.far (p := ⟨q + 1, 4, none⟩) (Nat.ne_of_lt (Nat.lt_succ_self q)) _; have hbs3 : Below q w ((((w1.setCell ⟨q + 1, 1, none⟩ (.slice Au rs.length cu)).setCell ⟨q + 1, 2, none⟩ (.int .i64 x1)).setCell ⟨q + 1, 3, none⟩ (.int .i64 x2)).setCell ⟨q + 1, 4, none⟩ (.int .i64 x3)) := hbs2.setCell (Nat.le_succ q) _; have hBs4 : Blk (((((w1.setCell ⟨q + 1, 1, none⟩ (.slice Au rs.length cu)).setCell ⟨q + 1, 2, none⟩ (.int .i64 x1)).setCell ⟨q + 1, 3, none⟩ (.int .i64 x2)).setCell ⟨q + 1, 4, none⟩ (.int .i64 x3)).setCell ⟨q + 1, 5, none⟩ (.bool false)) (q + 1) 24 #[.int .i64 (k : Int), (.slice Au rs.length cu), .int .i64 x1, .int .i64 x2, .int .i64 x3, .bool false] := hBs3.set_ 5 _; have hZs4 : Rz (((((w1.setCell ⟨q + 1, 1, none⟩ (.slice Au rs.length cu)).setCell ⟨q + 1, 2, none⟩ (.int .i64 x1)).setCell ⟨q + 1, 3, none⟩ (.int .i64 x2)).setCell ⟨q + 1, 4, none⟩ (.int .i64 x3)).setCell ⟨q + 1, 5, none⟩ (.bool false)) (.slice Au rs.length cu) rs := rz_set hZs3 hBs3 5 _; have hAs4 : Blk (((((w1.setCell ⟨q + 1, 1, none⟩ (.slice Au rs.length cu)).setCell ⟨q + 1, 2, none⟩ (.int .i64 x1)).setCell ⟨q + 1, 3, none⟩ (.int .i64 x2)).setCell ⟨q + 1, 4, none⟩ (.int .i64 x3)).setCell ⟨q + 1, 5, none⟩ (.bool false)) q 24 #[.int .i64 0, .slice none 0 0, .int .i64 0, .int .i64 0, .int .i64 0, .bool false] := hAs3.far (p := ⟨q + 1, 5, none⟩) (Nat.ne_of_lt (Nat.lt_succ_self q)) _; have hbs4 : Below q w (((((w1.setCell ⟨q + 1, 1, none⟩ (.slice Au rs.length cu)).setCell ⟨q + 1, 2, none⟩ (.int .i64 x1)).setCell ⟨q + 1, 3, none⟩ (.int .i64 x2)).setCell ⟨q + 1, 4, none⟩ (.int .i64 x3)).setCell ⟨q + 1, 5, none⟩ (.bool false)) := hbs3.setCell (Nat.le_succ q) _)
                        | (go_at_call 33; (with_reducible refine (hD1 _).mono ?_); rintro e v1 ⟨rfl, rfl⟩)
                        | (go_at_call 33; (with_reducible refine (hD2 _).mono ?_); rintro e v2 ⟨rfl, rfl⟩)
                        | (go_at_call 33; (with_reducible refine (hD3 _).mono ?_); rintro e v3 ⟨rfl, rfl⟩)
                        | (go_at_call 11; (with_reducible refine (hR _ _ hZs4).mono ?_); rintro e w5 ⟨rfl, hb5⟩; have hA5 := hAs4.below hb5 hAs4.lt; have hB5 := hBs4.below hb5 hBs4.lt; have kc5 := hB5.cell; have ka5 := hA5.cell; have kb5 := hA5.frozen; have hb05 := hbs4.trans (hb5.mono (by have := hbs4.size; omega)); have hZ5 := hZs4.below hb5))
                      refine bodyPost_cell_tmp (g := q) (cs := #[.int .i64 (k : Int), (.slice Au rs.length cu), .int .i64 x1, .int .i64 x2, .int .i64 x3, .bool false]) Tryz.results7 rfl (by with_reducible exact Blk.six hA5) Tryz.underlying24 rfl (by kernel_rfl) rfl ⟨⟨.slice Au rs.length cu, by rw [hO.out]; rfl, ?_⟩, by (rw [hq]; with_reducible exact below_six hb05 (Nat.le_refl _) _ _ _ _ _ _)⟩
                      rw [hO.out]
                      exact rz_six hZ5 hA5
      · have e1 : ((x.toNat : Int) != 123) = true := by simp; omega
        rw [hde, headT_cons (fun e => hx3 (by rw [e]; rfl))] at hiN
        have hH := hide (show (headT (s.data.toList.drop (i + 1))).length + (i + 1) = N from by omega)
        clear hde hiN hx3
        go_wp2
        go_roundw
        case rel => exact ⟨i + 1, by omega, by go_num, hH.out, by trivial⟩
        case measure => first | (simp [intOf]; done) | (simp [intOf]; omega)
    · obtain rfl : i = s.size := by omega
      have hii : decide ((s.size : Int) < s.size) = false := decide_eq_false (by omega)
      rw [List.drop_eq_nil_of_le (by rw [K0.out.1]; exact Nat.le_refl _)] at hiN
      obtain rfl : N = s.size := by simpa [headT] using hiN.symm
      have d2 : ((s.size : Int) == s.size) = true := by simp
      have d3 : (0 : Int) ≤ (s.size : Int) := by omega
      clear hiN
      go_wp2
      refine abstr (fun W => Below q w W ∧ Blk W q 24 #[.int .i64 0, .slice none 0 0, .int .i64 0, .int .i64 0, .int .i64 0, .bool false] ∧ Blk W (q + 1) 24 #[.int .i64 (opN 0 (headT s.data.toList)), (.slice none 0 0), .int .i64 0, .int .i64 0, .int .i64 0, .bool false]) ⟨hq ▸ hb1, hA1, hB0⟩ (fun W hW => ?_)
      obtain ⟨hbW, hAW, hBW⟩ := hW
      clear hb0 hb1 hA0 hA1 hB0
      go_loopw [6] (fun s6 wr => ∃ j : Nat, j ≤ 6 ∧ s6 = .int .i64 (j : Int) ∧ Below q w wr ∧ Blk wr q 24 #[.int .i64 0, .slice none 0 0, .int .i64 0, .int .i64 0, .int .i64 0, .bool false] ∧ Blk wr (q + 1) 24 #[.int .i64 (opN j (headT s.data.toList)), (.slice none 0 0), .int .i64 0, .int .i64 0, .int .i64 0, .bool false]) (fun s6 _ => (6 - intOf s6).toNat)
      case atStart => exact ⟨0, by omega, rfl, hbW, hAW, hBW⟩
      case round =>
        clear hbW hAW hBW
        obtain ⟨j, hj, rfl, hbR, hAR, hBR⟩ := hrel
        have hqR : q ≤ wr.heap.size := by rw [← hq]; exact hbR.size
        by_cases hj5 : j < 6
        · have hji : (j : Int) ≤ 5 := by omega
          have hWd := fun W => dword_any (j : Int) W
          rw [wordOf_nat (by omega)] at hWd
          have hqe := eqB9 (s.extract 0 s.size) ⟨(wordB j).toArray⟩
          simp only [List.toList_toArray, Lib.extract_from_zero] at hqe
          rw [hTK.out, ext_all] at hqe
          by_cases hw : headT s.data.toList = wordB j
          · rw [decide_eq_true hw] at hqe
            have hN1 := hide (opN_hit hw)
            generalize (⟨(wordB j).toArray⟩ : ByteArray) = wk at *
            clear hw
            generalize opN j (headT s.data.toList) = oj at *
            have kc := hBR.cell
            have kf := hBR.frozen
            go_wp2
            refine wp_region_ext_lit (by kernel_rfl) (by kernel_rfl) ?_
            (repeat (first | ((with_reducible refine wpQuiet_step (fun K hK => ?_)); go_simp; first | ((with_reducible refine hK _ ?_); clear hK K) | (apply Exists.intro; (with_reducible refine ⟨fun _ => ?_, hK _ ?_⟩); (go_at_call 31; exact Calls.ext_of (hWd _)); clear hK K)) | ((with_reducible refine quiet_skipN ?_ (fun K hK => ?_)); (rfl); go_simp; (with_reducible refine hK _ ?_); clear hK K)))
            (with_reducible refine wpQuiet_nil ?_); intro _ hw'; obtain ⟨X, hw''⟩ := hw'; subst hw''
            have hBX := hBR.ext X
            have kcX := hBX.cell
            have kfX := hBX.frozen
            go_wp2
            go_roundw
            case rel => exact ⟨j + 1, by omega, by go_num, (hbR.trans ((World.below_ext wr X).mono hqR)).setCell (Nat.le_succ q) _, (hAR.ext X).far (p := ⟨q + 1, 0, none⟩) (Nat.ne_of_lt (Nat.lt_succ_self q)) _, by rw [hN1.out]; exact hBX.set_ 0 _⟩
            case measure => first | (simp [intOf]; done) | (simp [intOf]; omega)
          · rw [decide_eq_false hw] at hqe
            have hN1 := hide (opN_miss hw)
            generalize (⟨(wordB j).toArray⟩ : ByteArray) = wk at *
            clear hw
            go_wp2
            refine wp_region_ext_lit (by kernel_rfl) (by kernel_rfl) ?_
            (repeat (first | ((with_reducible refine wpQuiet_step (fun K hK => ?_)); go_simp; first | ((with_reducible refine hK _ ?_); clear hK K) | (apply Exists.intro; (with_reducible refine ⟨fun _ => ?_, hK _ ?_⟩); (go_at_call 31; exact Calls.ext_of (hWd _)); clear hK K)) | ((with_reducible refine quiet_skipN ?_ (fun K hK => ?_)); (rfl); go_simp; (with_reducible refine hK _ ?_); clear hK K)))
            (with_reducible refine wpQuiet_nil ?_); intro _ hw'; obtain ⟨X, hw''⟩ := hw'; subst hw''
            go_wp2
            go_roundw
            case rel => exact ⟨j + 1, by omega, by go_num, hbR.trans ((World.below_ext wr X).mono hqR), hAR.ext X, by rw [hN1.out]; exact hBR.ext X⟩
            case measure => first | (simp [intOf]; done) | (simp [intOf]; omega)
        · obtain rfl : j = 6 := by omega
          have hO := hide (parQ_nohead (T := s.data.toList) (by have := K0.out; omega) (by have := K0.out; omega))
          have kc := hBR.cell
          have ka := hAR.cell
          have kb := hAR.frozen
          go_wp2
          refine bodyPost_cell_tmp (g := q) (cs := #[.int .i64 0, .slice none 0 0, .int .i64 0, .int .i64 0, .int .i64 0, .bool false]) Tryz.results7 rfl (by first | with_reducible exact hAR | with_reducible exact Blk.six hAR) Tryz.underlying24 rfl (by kernel_rfl) rfl ⟨⟨.slice none 0 0, by rw [hO.out]; rfl, by rw [hO.out]; exact Rz.nil _⟩, by first | with_reducible exact hbR | (rw [hq]; with_reducible exact hbR) | (rw [hq]; with_reducible exact below_six hbR (Nat.le_refl _) _ _ _ _ _ _)⟩
end Go.Proofs.YtamnononemallaaGreatDoor
