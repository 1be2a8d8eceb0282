import Derived.Test.YtamnononemallaaDoorJ3
/-! The query that a text is: the program's Parse, its walk. -/
namespace Go.Proofs.YtamnononemallaaDoor
open Go.RowKit
set_option linter.unusedVariables false
set_option linter.unusedSimpArgs false
set_option maxRecDepth 100000 in
set_option maxHeartbeats 40000000 in
theorem aparse_any (s : ByteArray) (w : World) (hx : Sx w) :
    Calls Tryd.prog 7 #[.string s] w fun e w' => (∃ u, e = .returned (.tuple #[.agg #[.int .i64 (parQ s.data.toList).q.op, u, .int .i64 (parQ s.data.toList).q.f, .int .i64 (parQ s.data.toList).q.t, .int .i64 (parQ s.data.toList).q.s, .bool (parQ s.data.toList).q.n], .int .i64 (parQ s.data.toList).e]) ∧ Rz w' u (parQ s.data.toList).q.r) ∧ Below w.heap.size w w' := by
  have hsz := Lib.size_eq s
  obtain ⟨q, hq⟩ : ∃ q, w.heap.size = q := ⟨_, rfl⟩
  have hA0 := Blk.new w 27 #[.int .i64 0, .slice none 0 0, .int .i64 0, .int .i64 0, .int .i64 0, .bool false]
  rw [hq] at hA0
  have hb0 : Below w.heap.size w (w.alloc (.cells #[.int .i64 0, .slice none 0 0, .int .i64 0, .int .i64 0, .int .i64 0, .bool false] 27)) := Below.alloc (Below.refl _ _) (Nat.le_refl _) _
  by_cases h1 : 4096 < s.size
  · have d1 : (4096 : Int) < s.size := by omega
    have hO := hide (parQ_long (T := s.data.toList) (by omega))
    clear hsz h1
    go_enter Tryd.func7, Tryd.ntmps7
    go_wp2
    refine bodyPost_cell_tmp (g := q) (cs := #[.int .i64 0, .slice none 0 0, .int .i64 0, .int .i64 0, .int .i64 0, .bool false]) Tryd.results7 rfl (by first | with_reducible exact hA0 | with_reducible exact Blk.six hA0) Tryd.underlying27 rfl (by kernel_rfl) rfl ⟨⟨.slice none 0 0, by rw [hO.out]; rfl, by rw [hO.out]; exact Rz.nil _⟩, by first | with_reducible exact hb0 | (rw [hq]; with_reducible exact hb0) | (rw [hq]; with_reducible exact below_six hb0 (Nat.le_refl _) _ _ _ _ _ _) | with_reducible exact below_six hb0 (Nat.le_of_eq hq) _ _ _ _ _ _⟩
  have d1 : ¬ (4096 : Int) < s.size := by omega
  have hB0 : Blk ((w.alloc (.cells #[.int .i64 0, .slice none 0 0, .int .i64 0, .int .i64 0, .int .i64 0, .bool false] 27)).alloc (.cells #[.int .i64 0, .slice none 0 0, .int .i64 0, .int .i64 0, .int .i64 0, .bool false] 27)) (q + 1) 27 #[.int .i64 0, .slice none 0 0, .int .i64 0, .int .i64 0, .int .i64 0, .bool false] := hq ▸ Blk.made w _ _ _
  have hA1 := hA0.alloc (.cells #[.int .i64 0, .slice none 0 0, .int .i64 0, .int .i64 0, .int .i64 0, .bool false] 27)
  have hb1 : Below w.heap.size w ((w.alloc (.cells #[.int .i64 0, .slice none 0 0, .int .i64 0, .int .i64 0, .int .i64 0, .bool false] 27)).alloc (.cells #[.int .i64 0, .slice none 0 0, .int .i64 0, .int .i64 0, .int .i64 0, .bool false] 27)) := hb0.alloc (by simp) _
  have hI : ∀ W : World, Calls Tryd.prog 16 #[.string s, .int .u8 123] W fun e w' => e = .returned (.int .i64 (Lib.indexByte s.data.toList 123)) ∧ w' = W := fun W => Tryd.strings_IndexByte s 123 W
  rw [indexByte_head] at hI
  by_cases h2 : (headT s.data.toList).length = s.data.toList.length
  · rw [if_pos h2] at hI
    have hO := hide (parQ_nohead (T := s.data.toList) (by omega) h2)
    clear hsz h1 h2
    go_enter Tryd.func7, Tryd.ntmps7
    go_wp2_with (go_at_call 16; (with_reducible refine (hI _).mono ?_); rintro e w1 ⟨rfl, rfl⟩)
    refine bodyPost_cell_tmp (g := q) (cs := #[.int .i64 0, .slice none 0 0, .int .i64 0, .int .i64 0, .int .i64 0, .bool false]) Tryd.results7 rfl (by first | with_reducible exact hA1 | with_reducible exact Blk.six hA1) Tryd.underlying27 rfl (by kernel_rfl) rfl ⟨⟨.slice none 0 0, by rw [hO.out]; rfl, by rw [hO.out]; exact Rz.nil _⟩, by first | with_reducible exact hb1 | (rw [hq]; with_reducible exact hb1) | (rw [hq]; with_reducible exact below_six hb1 (Nat.le_refl _) _ _ _ _ _ _) | with_reducible exact below_six hb1 (Nat.le_of_eq hq) _ _ _ _ _ _⟩
  rw [if_neg h2] at hI
  have hle := headT_le s.data.toList
  have htk := headT_take s.data.toList
  obtain ⟨n0, hn0⟩ : ∃ n0, (headT s.data.toList).length = n0 := ⟨_, rfl⟩
  have d2 : ¬ ((n0 : Int) < 0) := by omega
  have d3 : (n0 : Int) ≤ s.size := by omega
  have d4 : (0 : Int) ≤ n0 := by omega
  have hIx := fun W hW => index_any (s.extract 0 n0) W hW
  rw [Lib.extract_from_zero, ← hn0, htk, hn0] at hIx
  rw [hn0] at hI
  have K0 := hide (⟨hsz, h1, h2, hle, htk, hn0⟩ : _ ∧ _ ∧ _ ∧ _ ∧ _ ∧ _)
  clear hsz h1 h2 hle htk hn0
  go_enter Tryd.func7, Tryd.ntmps7
  go_wp2_with (go_at_call 16; (with_reducible refine (hI _).mono ?_); rintro e w1 ⟨rfl, rfl⟩)
  refine abstr (fun W => Below q w W ∧ Blk W q 27 #[.int .i64 0, .slice none 0 0, .int .i64 0, .int .i64 0, .int .i64 0, .bool false] ∧ Blk W (q + 1) 27 #[.int .i64 0, .slice none 0 0, .int .i64 0, .int .i64 0, .int .i64 0, .bool false]) ⟨hq ▸ hb1, hA1, hB0⟩ (fun W hW => ?_)
  obtain ⟨hbW, hAW, hBW⟩ := hW
  clear hb0 hb1 hA0 hA1 hB0 hI
  refine First.wp_region_first_ext [0, 3] [1, 2, 5] [(true, true, 0), (true, false, 1), (true, false, 2), (true, true, 3), (false, false, 4), (true, false, 5), (false, false, 6)] (by kernel_rfl) (by kernel_rfl) (fun X => ?_); simp only [List.map_cons, List.map_nil, List.getD_cons_zero, List.getD_cons_succ]
  (repeat (first | (refine wfp fun K hK => ?_; go_simp; refine hK _ _ ?_; clear hK K) | (refine wff fun K hK => ?_; go_simp; refine hK _ _ ?_; clear hK K)))
  refine First.wpF_must (fun K hK => ?_)
  go_wp2_with (go_at_call 17; (with_reducible refine (hIx _ (hx.below (by rw [hq]; exact hbW.trans ((World.below_ext _ _).mono (hq ▸ hbW.size))))).mono ?_); rintro e w1 ⟨rfl, rfl⟩)
  (refine hK _ _ (fun hnd => by first | exact Bool.noConfusion hnd | assumption | with_reducible (first | exact grown_alloc _ _ | exact First.Grown.refl _ | exact First.Grown.cat _ _ _ | exact First.Grown.ext _ _)) ?_; clear hK K)
  have hBX := hBW.ext X
  have kc := hBX.cell
  have kf := hBX.frozen
  (repeat (first | (refine wfp fun K hK => ?_; go_simp; refine hK _ _ ?_; clear hK K) | (refine wff fun K hK => ?_; go_simp; refine hK _ _ ?_; clear hK K)))
  refine First.wpF_must (fun K hK => ?_)
  go_wp2
  (refine hK _ _ (fun hnd => by first | exact Bool.noConfusion hnd | assumption | with_reducible (first | exact grown_alloc _ _ | exact First.Grown.refl _ | exact First.Grown.cat _ _ _ | exact First.Grown.ext _ _)) ?_; clear hK K)
  refine First.wpF_nil ?_
  generalize hOO : opI (headT s.data.toList) = O at *
  refine abstr (fun U => Below q w U ∧ Blk U q 27 #[.int .i64 0, .slice none 0 0, .int .i64 0, .int .i64 0, .int .i64 0, .bool false] ∧ Blk U (q + 1) 27 #[.int .i64 O, .slice none 0 0, .int .i64 0, .int .i64 0, .int .i64 0, .bool false])
    ⟨(hbW.trans ((World.below_ext W X).mono (hq ▸ hbW.size))).setCell (Nat.le_succ q) _, (hAW.ext X).far (p := ⟨q + 1, 0, none⟩) (Nat.ne_of_lt (Nat.lt_succ_self q)) _, hBX.set_ 0 _⟩ (fun U hU => ?_)
  obtain ⟨hbU, hAU, hBU⟩ := hU
  have kc := hBU.cell
  have kf := hAU.frozen
  have kg := hAU.cell
  clear hbW hAW hBW hBX
  cases ho : opW (headT s.data.toList) with
  | none =>
    obtain rfl : O = -1 := by rw [← hOO, opI, ho]
    have hO := hide (parQ_noop (T := s.data.toList) (by have := K0.out; omega) ho)
    clear K0 ho hOO
    go_wp2
    refine bodyPost_cell_tmp (g := q) (cs := #[.int .i64 0, .slice none 0 0, .int .i64 0, .int .i64 0, .int .i64 0, .bool false]) Tryd.results7 rfl (by first | with_reducible exact hAU | with_reducible exact Blk.six hAU) Tryd.underlying27 rfl (by kernel_rfl) rfl ⟨⟨.slice none 0 0, by rw [hO.out]; rfl, by rw [hO.out]; exact Rz.nil _⟩, by first | with_reducible exact hbU | (rw [hq]; with_reducible exact hbU) | (rw [hq]; with_reducible exact below_six hbU (Nat.le_refl _) _ _ _ _ _ _) | with_reducible exact below_six hbU (Nat.le_of_eq hq) _ _ _ _ _ _⟩
  | some k =>
    obtain rfl : O = (k : Int) := by rw [← hOO, opI, ho]
    have hk5 := (opW_inv ho).2
    have d5 : ¬ ((k : Int) < 0) := by omega
    obtain ⟨hsz, h1, h2, hle, htk, hn0⟩ := K0.out
    have hqU : q ≤ U.heap.size := by rw [← hq]; exact hbU.size
    have hS : ∀ W, Below q w W → Sx W := fun W h => hx.below (by rw [hq]; exact h)
    have hMP := fun W hW => mparse_any (s.extract n0 s.size) (by rw [ByteArray.size_extract]; omega) W hW
    rw [Lib.extract_to_end] at hMP
    have hnle := psq_le (s.data.toList.drop n0)
    obtain ⟨⟨rs, n⟩, hps⟩ : ∃ p, psq (s.data.toList.drop n0) = p := ⟨_, rfl⟩
    rw [hps] at hMP hnle
    rw [List.length_drop] at hnle
    dsimp only at hMP hnle
    by_cases hn : n = 0
    · subst hn
      have hO := hide (parQ_norule (T := s.data.toList) (by omega) h2 ho (by rw [hn0, hps]))
      clear K0 ho hOO hps hnle h1 h2 hle htk hn0 hsz
      go_wp2_with (go_at_call 18; (with_reducible refine (hMP _ (hS _ hbU).sg).mono ?_); rintro e w1 ⟨⟨u, rfl, hZ⟩, hb1⟩; have hA1 := hAU.below hb1 hAU.lt; have kf1 := hA1.frozen; have kg1 := hA1.cell; have hb01 := hbU.trans (hb1.mono hqU))
      refine bodyPost_cell_tmp (g := q) (cs := #[.int .i64 0, .slice none 0 0, .int .i64 0, .int .i64 0, .int .i64 0, .bool false]) Tryd.results7 rfl (by first | with_reducible exact hA1 | with_reducible exact Blk.six hA1) Tryd.underlying27 rfl (by kernel_rfl) rfl ⟨⟨.slice none 0 0, by rw [hO.out]; rfl, by rw [hO.out]; exact Rz.nil _⟩, by first | with_reducible exact hb01 | (rw [hq]; with_reducible exact hb01) | (rw [hq]; with_reducible exact below_six hb01 (Nat.le_refl _) _ _ _ _ _ _) | with_reducible exact below_six hb01 (Nat.le_of_eq hq) _ _ _ _ _ _⟩
    have hnn : ((n : Int) == 0) = false := by rw [beq_eq_false_iff_ne]; omega
    have i1 : (n0 : Int) + n ≤ s.size := by omega
    have i2 : (0 : Int) ≤ (n0 : Int) + n := by omega
    have hQ := parQ_at (T := s.data.toList) (by omega) h2 ho (rs := rs) (n := n) (by rw [hn0, hps]) hn
    rw [hn0] at hQ
    have hrR : rightR rs = true := by
      obtain ⟨_, _, _, h⟩ := psq_inv (T := s.data.toList.drop n0) (l := rs) (n := n) hps hn
      exact h
    obtain ⟨rr, ok, hCP, hrr, hok⟩ := cutp_any (s.extract (n0 + n) s.size)
    rw [Lib.extract_to_end] at hok
    rw [ByteArray.size_extract] at hrr
    obtain ⟨L, hL, hLs, hSp⟩ := splitq_any rr (by omega)
    obtain ⟨m, hm⟩ : ∃ m, L.length = m + 1 := ⟨L.length - 1, by
      have : (L.map (·.data.toList)).length ≠ 0 := by rw [hL]; exact fun e => blkL_ne _ (List.eq_nil_of_length_eq_zero e)
      rw [List.length_map] at this
      omega⟩
    obtain ⟨x, hxm⟩ : ∃ x, L[m]? = some x := ⟨_, List.getElem?_eq_getElem (by omega)⟩
    have hmL : m ≤ 4096 := by
      have := blkL_len rr.data.toList
      rw [← hL, List.length_map, hm, ← Lib.size_eq] at this
      omega
    have hxe : (x.toList == [110, 111, 116, 101, 115]) = decide (x.data.toList = notesB) := by
      have := eqB9 x ⟨#[110, 111, 116, 101, 115]⟩
      rwa [ByteArray.toList_eq (⟨#[110, 111, 116, 101, 115]⟩ : ByteArray)] at this
    have hwd := wds_some hL hm hxm
    have hbad1 : ok = false → parQ s.data.toList = ⟨90, zeroQ⟩ := fun e => by
      rcases hok with ⟨e1, _⟩ | ⟨_, e1⟩
      · rw [e] at e1; cases e1
      · rw [hQ, askP_nopre e1]
    have hbad2 : ok = true → ∀ M nb, Wds (32 :: rr.data.toList) L M nb → M ≠ (if k = 0 then 2 else 3) → parQ s.data.toList = ⟨90, zeroQ⟩ := fun e M nb hw hne => by
      rcases hok with ⟨_, e1⟩ | ⟨e1, _⟩
      · rw [hQ, e1, hw.bad hne]
      · rw [e] at e1; cases e1
    have hgood : ok = true → s.data.toList.drop (n0 + n) = 32 :: rr.data.toList := fun e => by
      rcases hok with ⟨_, e1⟩ | ⟨e1, _⟩
      · exact e1
      · rw [e] at e1; cases e1
    have hcx : ((L.map Value.string).toArray)[m]? = some (.string x) := by simp [hxm]
    rw [hm] at hSp
    have KL := hide (⟨hL, hLs, hm, hxm⟩ : _ ∧ _ ∧ _ ∧ _)
    have KQ := hide hQ
    have KR := hide (show rr.size ≤ 4096 from by omega)
    have KS2 := hide (⟨hok, hrr⟩ : _ ∧ _)
    have KS := hide (⟨hsz, hnle⟩ : _ ∧ _)
    clear hsz hnle
    clear hok hQ hLs hL K0 ho hOO hps h1 h2 hle htk hn0 hrr
    generalize hLV : (L.map Value.string).toArray = LV at *
    by_cases hnb : x.data.toList = notesB
    · have hw := hwd.1 hnb
      have hx1 : (x.toList == [110, 111, 116, 101, 115]) = true := by rw [hxe]; exact decide_eq_true hnb
      cases ok with
      | false =>
        have hO := hide (hbad1 rfl)
        clear hwd hbad2 hgood KL KQ KS KS2 hw hxe hnb hbad1 hm hn
        by_cases hk0 : k = 0
        · subst hk0
          go_wp2_with (first
            | (go_at_call 18; (with_reducible refine (hMP _ (hS _ hbU).sg).mono ?_); rintro e w1 ⟨⟨u, rfl, hZ⟩, hb1⟩; obtain ⟨Au, cu, rfl⟩ := hZ.shape; have hA1 := hAU.below hb1 hAU.lt; have hB1 := hBU.below hb1 hBU.lt; have kf1 := hB1.frozen; have kc1 := hB1.cell; have kg1 := hA1.frozen; have kd1 := hA1.cell; have hb01 := hbU.trans (hb1.mono hqU); have hl1 := hB1.lt; have hl2 : q + 1 < w1.heap.size + 1 := Nat.lt_succ_of_lt hl1; have hl3 : q + 1 < w1.heap.size + 1 + 1 := Nat.lt_succ_of_lt hl2; have hl4 := hA1.lt; have hl5 : q < w1.heap.size + 1 := Nat.lt_succ_of_lt hl4; have hne1 : ¬ (q + 1 = w1.heap.size) := Nat.ne_of_lt hl1; have hne2 : ¬ (q = w1.heap.size) := Nat.ne_of_lt hl4)
            | (go_at_call 19; (with_reducible refine (hCP _).mono ?_); rintro e w2 ⟨rfl, rfl⟩)
            | (go_at_call 20; (with_reducible refine (hSp _ (hS _ (hb01.setCell (Nat.le_succ q) _))).mono ?_); rintro e w3 ⟨rfl, rfl⟩))
          have hU1 : Blk (w1.setCell ⟨q + 1, 1, none⟩ (.slice Au rs.length cu)) (q + 1) 27 #[.int .i64 0, (.slice Au rs.length cu), .int .i64 0, .int .i64 0, .int .i64 0, .bool false] := hB1.set_ 1 _
          have hD1 := Blk.new (w1.setCell ⟨q + 1, 1, none⟩ (.slice Au rs.length cu)) 9 LV
          rw [World.size_setCell] at hD1
          refine abstr (fun V => Below q w V ∧ Blk V q 27 #[.int .i64 0, .slice none 0 0, .int .i64 0, .int .i64 0, .int .i64 0, .bool false] ∧ Blk V (q + 1) 27 #[.int .i64 0, (.slice Au rs.length cu), .int .i64 0, .int .i64 0, .int .i64 0, .bool false] ∧ Blk V w1.heap.size 9 LV ∧ Rz V (.slice Au rs.length cu) rs)
            ⟨(hb01.setCell (Nat.le_succ q) _).alloc (by rw [World.size_setCell]; omega) _, (hA1.far (p := ⟨q + 1, 1, none⟩) (Nat.ne_of_lt (Nat.lt_succ_self q)) _).alloc _, hU1.alloc _, hD1, (rz_set hZ hB1 1 _).alloc _⟩ (fun V hV => ?_)
          have hgq : w1.heap.size ≠ q + 1 := by omega
          clear hA1 hB1 kf1 kc1 kg1 kd1 hb01 hl1 hl2 hl3 hl4 hl5 hne1 hne2 hZ hb1 hU1 hD1
          generalize w1.heap.size = g at *
          obtain ⟨hbV, hAV, hBV, hDV, hZV⟩ := hV
          have kc1 := hBV.cell
          have kf1 := hBV.frozen
          refine wp_region_only (q + 1) [4] [0, 1, 2, 3, 5] [(true, false, 0), (true, false, 1), (true, false, 2), (true, false, 3), (true, true, 4), (true, false, 5), (false, true, 6), (false, false, 7)] (by kernel_rfl) (by kernel_rfl) (fun Y => ?_); simp only [List.map_cons, List.map_nil, List.getD_cons_zero, List.getD_cons_succ]
          (repeat (first | (refine wfp fun K hK => ?_; go_simp; refine hK _ _ ?_; clear hK K) | (refine wff fun K hK => ?_; go_simp; refine hK _ _ ?_; clear hK K)))
          have wi : IntKind.i64.wrap (m : Int) = m := by rw [IntKind.wrap_i64]; omega
          (refine first_read rfl (v := .slice (some ⟨g, 0, none⟩) m (m + 1)) (fun w' hw' => ?_) (fun K hK => ?_); rotate_left 1; go_simp; refine hK _ _ ?_; clear hK K; rotate_left 1; focus (go_simp <;> (rw [if_pos (by omega)]; exact ⟨rfl, rfl⟩)))
          have hBY := hBV.ext Y
          have kcY := hBY.cell
          have kfY := hBY.frozen
          (repeat (first | (refine wfp fun K hK => ?_; go_simp; refine hK _ _ ?_; clear hK K) | (refine wff fun K hK => ?_; go_simp; refine hK _ _ ?_; clear hK K)))
          refine First.wpF_must (fun K hK => ?_)
          go_wp2
          (refine hK _ _ (fun hnd => by first | exact Bool.noConfusion hnd | exact Only.refl _ _ | ((repeat (refine Only.set_ ?_ (.inl rfl) _)); exact Only.refl _ _)) ?_; clear hK K)
          refine First.wpF_must (fun K hK => ?_)
          go_wp2
          (refine hK _ _ (fun hnd => by first | exact Bool.noConfusion hnd | exact Only.refl _ _ | ((repeat (refine Only.set_ ?_ (.inl rfl) _)); exact Only.refl _ _)) ?_; clear hK K)
          refine First.wpF_nil ?_
          refine abstr (fun Z => Below q w Z ∧ Blk Z q 27 #[.int .i64 0, .slice none 0 0, .int .i64 0, .int .i64 0, .int .i64 0, .bool false] ∧ Blk Z (q + 1) 27 #[.int .i64 0, (.slice Au rs.length cu), .int .i64 0, .int .i64 0, .int .i64 0, .bool true] ∧ Blk Z g 9 LV ∧ Rz Z (.slice Au rs.length cu) rs)
            ⟨(hbV.trans ((World.below_ext V Y).mono (by rw [← hq]; exact hbV.size))).setCell (Nat.le_succ q) _, (hAV.ext Y).far (p := ⟨q + 1, 5, none⟩) (Nat.ne_of_lt (Nat.lt_succ_self q)) _, hBY.set_ 5 _, (hDV.ext Y).far (p := ⟨q + 1, 5, none⟩) hgq _, rz_set (hZV.ext Y) hBY 5 _⟩ (fun Z hZ9 => ?_)
          clear hbV hAV hBV hDV hZV hBY kcY kfY kc1 kf1
          obtain ⟨hbF, hF1, hBZ, hDZ, hZZ⟩ := hZ9
          have kc2 := hBZ.cell
          have kf2 := hBZ.frozen
          have kg2 := hF1.cell
          have kh2 := hF1.frozen
          have hl1 := hBZ.lt
          have hl2 := hF1.lt
          go_wp2
          have hB6 := (Blk.six (u0 := .int .i64 0) (u1 := .slice none 0 0) (u2 := .int .i64 0) (u3 := .int .i64 0) (u4 := .int .i64 0) (u5 := .bool false) hF1).alloc (.cells #[.pointer (some ⟨q + 1, 2, none⟩), .pointer (some ⟨q + 1, 3, none⟩), .pointer (some ⟨q + 1, 4, none⟩)] 52)
          refine bodyPost_cell_tmp (g := q) (cs := #[.int .i64 0, .slice none 0 0, .int .i64 0, .int .i64 0, .int .i64 0, .bool false]) Tryd.results7 rfl hB6 Tryd.underlying27 rfl (by kernel_rfl) rfl ⟨⟨.slice none 0 0, by rw [hO.out]; rfl, by rw [hO.out]; exact Rz.nil _⟩, ?_⟩
          rw [hq]
          refine Below.alloc (below_six hbF (Nat.le_refl _) _ _ _ _ _ _) ?_ _ <;> (simp only [World.size_alloc, World.size_setCell, World.size_ext]; omega)
        · have d9 : ((k : Int) == 0) = false := by simpa using hk0
          go_wp2_with (first
            | (go_at_call 18; (with_reducible refine (hMP _ (hS _ hbU).sg).mono ?_); rintro e w1 ⟨⟨u, rfl, hZ⟩, hb1⟩; obtain ⟨Au, cu, rfl⟩ := hZ.shape; have hA1 := hAU.below hb1 hAU.lt; have hB1 := hBU.below hb1 hBU.lt; have kf1 := hB1.frozen; have kc1 := hB1.cell; have kg1 := hA1.frozen; have kd1 := hA1.cell; have hb01 := hbU.trans (hb1.mono hqU); have hl1 := hB1.lt; have hl2 : q + 1 < w1.heap.size + 1 := Nat.lt_succ_of_lt hl1; have hl3 : q + 1 < w1.heap.size + 1 + 1 := Nat.lt_succ_of_lt hl2; have hl4 := hA1.lt; have hl5 : q < w1.heap.size + 1 := Nat.lt_succ_of_lt hl4; have hne1 : ¬ (q + 1 = w1.heap.size) := Nat.ne_of_lt hl1; have hne2 : ¬ (q = w1.heap.size) := Nat.ne_of_lt hl4)
            | (go_at_call 19; (with_reducible refine (hCP _).mono ?_); rintro e w2 ⟨rfl, rfl⟩)
            | (go_at_call 20; (with_reducible refine (hSp _ (hS _ (hb01.setCell (Nat.le_succ q) _))).mono ?_); rintro e w3 ⟨rfl, rfl⟩))
          have hU1 : Blk (w1.setCell ⟨q + 1, 1, none⟩ (.slice Au rs.length cu)) (q + 1) 27 #[.int .i64 (k : Int), (.slice Au rs.length cu), .int .i64 0, .int .i64 0, .int .i64 0, .bool false] := hB1.set_ 1 _
          have hD1 := Blk.new (w1.setCell ⟨q + 1, 1, none⟩ (.slice Au rs.length cu)) 9 LV
          rw [World.size_setCell] at hD1
          refine abstr (fun V => Below q w V ∧ Blk V q 27 #[.int .i64 0, .slice none 0 0, .int .i64 0, .int .i64 0, .int .i64 0, .bool false] ∧ Blk V (q + 1) 27 #[.int .i64 (k : Int), (.slice Au rs.length cu), .int .i64 0, .int .i64 0, .int .i64 0, .bool false] ∧ Blk V w1.heap.size 9 LV ∧ Rz V (.slice Au rs.length cu) rs)
            ⟨(hb01.setCell (Nat.le_succ q) _).alloc (by rw [World.size_setCell]; omega) _, (hA1.far (p := ⟨q + 1, 1, none⟩) (Nat.ne_of_lt (Nat.lt_succ_self q)) _).alloc _, hU1.alloc _, hD1, (rz_set hZ hB1 1 _).alloc _⟩ (fun V hV => ?_)
          have hgq : w1.heap.size ≠ q + 1 := by omega
          clear hA1 hB1 kf1 kc1 kg1 kd1 hb01 hl1 hl2 hl3 hl4 hl5 hne1 hne2 hZ hb1 hU1 hD1
          generalize w1.heap.size = g at *
          obtain ⟨hbV, hAV, hBV, hDV, hZV⟩ := hV
          have kc1 := hBV.cell
          have kf1 := hBV.frozen
          refine wp_region_only (q + 1) [4] [0, 1, 2, 3, 5] [(true, false, 0), (true, false, 1), (true, false, 2), (true, false, 3), (true, true, 4), (true, false, 5), (false, true, 6), (false, false, 7)] (by kernel_rfl) (by kernel_rfl) (fun Y => ?_); simp only [List.map_cons, List.map_nil, List.getD_cons_zero, List.getD_cons_succ]
          (repeat (first | (refine wfp fun K hK => ?_; go_simp; refine hK _ _ ?_; clear hK K) | (refine wff fun K hK => ?_; go_simp; refine hK _ _ ?_; clear hK K)))
          have wi : IntKind.i64.wrap (m : Int) = m := by rw [IntKind.wrap_i64]; omega
          (refine first_read rfl (v := .slice (some ⟨g, 0, none⟩) m (m + 1)) (fun w' hw' => ?_) (fun K hK => ?_); rotate_left 1; go_simp; refine hK _ _ ?_; clear hK K; rotate_left 1; focus (go_simp <;> (rw [if_pos (by omega)]; exact ⟨rfl, rfl⟩)))
          have hBY := hBV.ext Y
          have kcY := hBY.cell
          have kfY := hBY.frozen
          (repeat (first | (refine wfp fun K hK => ?_; go_simp; refine hK _ _ ?_; clear hK K) | (refine wff fun K hK => ?_; go_simp; refine hK _ _ ?_; clear hK K)))
          refine First.wpF_must (fun K hK => ?_)
          go_wp2
          (refine hK _ _ (fun hnd => by first | exact Bool.noConfusion hnd | exact Only.refl _ _ | ((repeat (refine Only.set_ ?_ (.inl rfl) _)); exact Only.refl _ _)) ?_; clear hK K)
          refine First.wpF_must (fun K hK => ?_)
          go_wp2
          (refine hK _ _ (fun hnd => by first | exact Bool.noConfusion hnd | exact Only.refl _ _ | ((repeat (refine Only.set_ ?_ (.inl rfl) _)); exact Only.refl _ _)) ?_; clear hK K)
          refine First.wpF_nil ?_
          refine abstr (fun Z => Below q w Z ∧ Blk Z q 27 #[.int .i64 0, .slice none 0 0, .int .i64 0, .int .i64 0, .int .i64 0, .bool false] ∧ Blk Z (q + 1) 27 #[.int .i64 (k : Int), (.slice Au rs.length cu), .int .i64 0, .int .i64 0, .int .i64 0, .bool true] ∧ Blk Z g 9 LV ∧ Rz Z (.slice Au rs.length cu) rs)
            ⟨(hbV.trans ((World.below_ext V Y).mono (by rw [← hq]; exact hbV.size))).setCell (Nat.le_succ q) _, (hAV.ext Y).far (p := ⟨q + 1, 5, none⟩) (Nat.ne_of_lt (Nat.lt_succ_self q)) _, hBY.set_ 5 _, (hDV.ext Y).far (p := ⟨q + 1, 5, none⟩) hgq _, rz_set (hZV.ext Y) hBY 5 _⟩ (fun Z hZ9 => ?_)
          clear hbV hAV hBV hDV hZV hBY kcY kfY kc1 kf1
          obtain ⟨hbF, hF1, hBZ, hDZ, hZZ⟩ := hZ9
          have kc2 := hBZ.cell
          have kf2 := hBZ.frozen
          have kg2 := hF1.cell
          have kh2 := hF1.frozen
          have hl1 := hBZ.lt
          have hl2 := hF1.lt
          go_wp2
          have hB6 := (Blk.six (u0 := .int .i64 0) (u1 := .slice none 0 0) (u2 := .int .i64 0) (u3 := .int .i64 0) (u4 := .int .i64 0) (u5 := .bool false) hF1).alloc (.cells #[.pointer (some ⟨q + 1, 2, none⟩), .pointer (some ⟨q + 1, 3, none⟩), .pointer (some ⟨q + 1, 4, none⟩)] 52)
          refine bodyPost_cell_tmp (g := q) (cs := #[.int .i64 0, .slice none 0 0, .int .i64 0, .int .i64 0, .int .i64 0, .bool false]) Tryd.results7 rfl hB6 Tryd.underlying27 rfl (by kernel_rfl) rfl ⟨⟨.slice none 0 0, by rw [hO.out]; rfl, by rw [hO.out]; exact Rz.nil _⟩, ?_⟩
          rw [hq]
          refine Below.alloc (below_six hbF (Nat.le_refl _) _ _ _ _ _ _) ?_ _ <;> (simp only [World.size_alloc, World.size_setCell, World.size_ext]; omega)
      | true =>
        by_cases hk0 : k = 0
        · by_cases hM : m = 2
          · obtain rfl : m = 2 := by omega
            subst hk0
            have hQ2 := KQ.out
            rw [hgood rfl, if_pos rfl] at hQ2
            have KQ3 := hide hQ2
            clear KQ
            have KQ := KQ3
            clear hwd hbad2 hbad1 hgood hxe hnb hn hM hQ2 KQ3
            go_wp2_with (first
              | (go_at_call 18; (with_reducible refine (hMP _ (hS _ hbU).sg).mono ?_); rintro e w1 ⟨⟨u, rfl, hZ⟩, hb1⟩; obtain ⟨Au, cu, rfl⟩ := hZ.shape; have hA1 := hAU.below hb1 hAU.lt; have hB1 := hBU.below hb1 hBU.lt; have kf1 := hB1.frozen; have kc1 := hB1.cell; have kg1 := hA1.frozen; have kd1 := hA1.cell; have hb01 := hbU.trans (hb1.mono hqU); have hl1 := hB1.lt; have hl2 : q + 1 < w1.heap.size + 1 := Nat.lt_succ_of_lt hl1; have hl3 : q + 1 < w1.heap.size + 1 + 1 := Nat.lt_succ_of_lt hl2; have hl4 := hA1.lt; have hl5 : q < w1.heap.size + 1 := Nat.lt_succ_of_lt hl4; have hne1 : ¬ (q + 1 = w1.heap.size) := Nat.ne_of_lt hl1; have hne2 : ¬ (q = w1.heap.size) := Nat.ne_of_lt hl4)
              | (go_at_call 19; (with_reducible refine (hCP _).mono ?_); rintro e w2 ⟨rfl, rfl⟩)
              | (go_at_call 20; (with_reducible refine (hSp _ (hS _ (hb01.setCell (Nat.le_succ q) _))).mono ?_); rintro e w3 ⟨rfl, rfl⟩))
            have hU1 : Blk (w1.setCell ⟨q + 1, 1, none⟩ (.slice Au rs.length cu)) (q + 1) 27 #[.int .i64 0, (.slice Au rs.length cu), .int .i64 0, .int .i64 0, .int .i64 0, .bool false] := hB1.set_ 1 _
            have hD1 := Blk.new (w1.setCell ⟨q + 1, 1, none⟩ (.slice Au rs.length cu)) 9 LV
            rw [World.size_setCell] at hD1
            refine abstr (fun V => Below q w V ∧ Blk V q 27 #[.int .i64 0, .slice none 0 0, .int .i64 0, .int .i64 0, .int .i64 0, .bool false] ∧ Blk V (q + 1) 27 #[.int .i64 0, (.slice Au rs.length cu), .int .i64 0, .int .i64 0, .int .i64 0, .bool false] ∧ Blk V w1.heap.size 9 LV ∧ Rz V (.slice Au rs.length cu) rs)
              ⟨(hb01.setCell (Nat.le_succ q) _).alloc (by rw [World.size_setCell]; omega) _, (hA1.far (p := ⟨q + 1, 1, none⟩) (Nat.ne_of_lt (Nat.lt_succ_self q)) _).alloc _, hU1.alloc _, hD1, (rz_set hZ hB1 1 _).alloc _⟩ (fun V hV => ?_)
            have hgq : w1.heap.size ≠ q + 1 := by omega
            clear hA1 hB1 kf1 kc1 kg1 kd1 hb01 hl1 hl2 hl3 hl4 hl5 hne1 hne2 hZ hb1 hU1 hD1
            generalize w1.heap.size = g at *
            obtain ⟨hbV, hAV, hBV, hDV, hZV⟩ := hV
            have kc1 := hBV.cell
            have kf1 := hBV.frozen
            refine wp_region_only (q + 1) [4] [0, 1, 2, 3, 5] [(true, false, 0), (true, false, 1), (true, false, 2), (true, false, 3), (true, true, 4), (true, false, 5), (false, true, 6), (false, false, 7)] (by kernel_rfl) (by kernel_rfl) (fun Y => ?_); simp only [List.map_cons, List.map_nil, List.getD_cons_zero, List.getD_cons_succ]
            (repeat (first | (refine wfp fun K hK => ?_; go_simp; refine hK _ _ ?_; clear hK K) | (refine wff fun K hK => ?_; go_simp; refine hK _ _ ?_; clear hK K)))
            have wi : IntKind.i64.wrap (2 : Int) = 2 := by rw [IntKind.wrap_i64]; omega
            (refine first_read rfl (v := .slice (some ⟨g, 0, none⟩) 2 3) (fun w' hw' => ?_) (fun K hK => ?_); rotate_left 1; go_simp; refine hK _ _ ?_; clear hK K; rotate_left 1; focus (go_simp <;> (rw [if_pos (by omega)]; exact ⟨rfl, rfl⟩)))
            have hBY := hBV.ext Y
            have kcY := hBY.cell
            have kfY := hBY.frozen
            (repeat (first | (refine wfp fun K hK => ?_; go_simp; refine hK _ _ ?_; clear hK K) | (refine wff fun K hK => ?_; go_simp; refine hK _ _ ?_; clear hK K)))
            refine First.wpF_must (fun K hK => ?_)
            go_wp2
            (refine hK _ _ (fun hnd => by first | exact Bool.noConfusion hnd | exact Only.refl _ _ | ((repeat (refine Only.set_ ?_ (.inl rfl) _)); exact Only.refl _ _)) ?_; clear hK K)
            refine First.wpF_must (fun K hK => ?_)
            go_wp2
            (refine hK _ _ (fun hnd => by first | exact Bool.noConfusion hnd | exact Only.refl _ _ | ((repeat (refine Only.set_ ?_ (.inl rfl) _)); exact Only.refl _ _)) ?_; clear hK K)
            refine First.wpF_nil ?_
            refine abstr (fun Z => Below q w Z ∧ Blk Z q 27 #[.int .i64 0, .slice none 0 0, .int .i64 0, .int .i64 0, .int .i64 0, .bool false] ∧ Blk Z (q + 1) 27 #[.int .i64 0, (.slice Au rs.length cu), .int .i64 0, .int .i64 0, .int .i64 0, .bool true] ∧ Blk Z g 9 LV ∧ Rz Z (.slice Au rs.length cu) rs)
              ⟨(hbV.trans ((World.below_ext V Y).mono (by rw [← hq]; exact hbV.size))).setCell (Nat.le_succ q) _, (hAV.ext Y).far (p := ⟨q + 1, 5, none⟩) (Nat.ne_of_lt (Nat.lt_succ_self q)) _, hBY.set_ 5 _, (hDV.ext Y).far (p := ⟨q + 1, 5, none⟩) hgq _, rz_set (hZV.ext Y) hBY 5 _⟩ (fun Z hZ9 => ?_)
            clear hbV hAV hBV hDV hZV hBY kcY kfY kc1 kf1
            obtain ⟨hbF, hF1, hBZ, hDZ, hZZ⟩ := hZ9
            have kc2 := hBZ.cell
            have kf2 := hBZ.frozen
            have kg2 := hF1.cell
            have kh2 := hF1.frozen
            have hl1 := hBZ.lt
            have hl2 := hF1.lt
            go_wp2
            have hP1 := Blk.new Z 52 #[.pointer (some ⟨q + 1, 2, none⟩), .pointer (some ⟨q + 1, 3, none⟩), .pointer (some ⟨q + 1, 4, none⟩)]
            have hqZ : q ≤ Z.heap.size := by rw [← hq]; exact hbF.size
            refine abstr (fun V => Below q w V ∧ Blk V q 27 #[.int .i64 0, .slice none 0 0, .int .i64 0, .int .i64 0, .int .i64 0, .bool false] ∧ Blk V (q + 1) 27 #[.int .i64 0, (.slice Au rs.length cu), .int .i64 0, .int .i64 0, .int .i64 0, .bool true] ∧ Blk V g 9 LV ∧ Blk V Z.heap.size 52 #[.pointer (some ⟨q + 1, 2, none⟩), .pointer (some ⟨q + 1, 3, none⟩), .pointer (some ⟨q + 1, 4, none⟩)] ∧ Rz V (.slice Au rs.length cu) rs)
              ⟨hbF.alloc hqZ _, hF1.alloc _, hBZ.alloc _, hDZ.alloc _, hP1, hZZ.alloc _⟩ (fun V hV => ?_)
            have hgq1 : Z.heap.size ≠ q + 1 := by omega
            clear hbF hF1 hBZ hDZ hZZ kc2 kf2 kg2 kh2 hl1 hl2 hP1 hqZ
            generalize Z.heap.size = p3 at *
            obtain ⟨hbV, hAV, hBV, hDV, hPV, hZV⟩ := hV
            go_loopw [95, 9] (fun s95 s9 wr => ∃ (i : Nat) (a b c : Int) (bo : Bool), i ≤ 2 ∧ s95 = .int .i64 (i : Int) ∧ s9 = .bool bo ∧ Nd L i a b c ∧ Below q w wr ∧ Blk wr q 27 #[.int .i64 0, .slice none 0 0, .int .i64 0, .int .i64 0, .int .i64 0, .bool false] ∧ Blk wr (q + 1) 27 #[.int .i64 0, (.slice Au rs.length cu), .int .i64 a, .int .i64 b, .int .i64 c, .bool true] ∧ Blk wr g 9 LV ∧ Blk wr p3 52 #[.pointer (some ⟨q + 1, 2, none⟩), .pointer (some ⟨q + 1, 3, none⟩), .pointer (some ⟨q + 1, 4, none⟩)] ∧ Rz wr (.slice Au rs.length cu) rs) (fun s95 _ _ => (2 - intOf s95).toNat)
            case atStart => exact ⟨0, 0, 0, 0, true, by omega, rfl, rfl, Nd.zero L, hbV, hAV, hBV, hDV, hPV, hZV⟩
            case round =>
              clear hbV hAV hBV hDV hPV hZV
              obtain ⟨i, a, b, c, bo, hi, rfl, rfl, hN, hbR, hAR, hBR, hDR, hPR, hZR⟩ := hrel
              have kc := hBR.cell
              have kf := hBR.frozen
              have ka := hAR.cell
              have kb := hAR.frozen
              have kd := hDR.cell
              have kp := hPR.cell
              have hqR : q ≤ wr.heap.size := by rw [← hq]; exact hbR.size
              by_cases hlt : i < 2
              · have hi3 : i = 0 ∨ i = 1 := by omega
                have hii : (i : Int) < 2 := by omega
                clear hlt
                rcases hi3 with rfl | rfl
                · obtain rfl : a = 0 := hN.2.1
                  obtain rfl : b = 0 := hN.2.2.1
                  obtain rfl : c = 0 := hN.2.2.2
                  obtain ⟨y, hy⟩ : ∃ y, L[0]? = some y := ⟨_, List.getElem?_eq_getElem (by have := KL.out.2.2.1; omega)⟩
                  have hcy : LV[0]? = some (.string y) := by rw [← hLV]; simp [hy]
                  have hNu := fun W hW => anum_any y (by have := KL.out.2.1 y (List.mem_of_getElem? hy); have := KR.out; omega) W hW
                  have hnB : nB L 0 = intP y.data.toList := by unfold nB; rw [List.getD_eq_getElem?_getD, hy]; rfl
                  rw [← hnB] at hNu
                  obtain ⟨⟨v, bb⟩, hnv⟩ : ∃ p, nB L 0 = p := ⟨_, rfl⟩
                  rw [hnv] at hNu
                  dsimp only at hNu
                  cases bb with
                  | false =>
                    have hO := hide (q_fail (K := 2) (k := 0) KQ.out (.inl ⟨rfl, rfl⟩) hw (j := 0) (by omega) (by rw [hnv]))
                    clear hN hnB hnv
                    go_wp2_with (go_at_call 21; (with_reducible refine (hNu _ (hS _ hbR)).mono ?_); rintro e w4 ⟨rfl, hb4⟩; have hA4 := hAR.below hb4 hAR.lt; have hB4 := hBR.below hb4 hBR.lt; have kc4 := hB4.cell; have kf4 := hB4.frozen; have ka4 := hA4.cell; have kb4 := hA4.frozen; have hb04 := hbR.trans (hb4.mono hqR))
                    have hA6 := hA4.far (p := ⟨q + 1, 2, none⟩) (Nat.ne_of_lt (Nat.lt_succ_self q)) (.int .i64 v)
                    have hb06 := hb04.setCell (p := ⟨q + 1, 2, none⟩) (Nat.le_succ q) (.int .i64 v)
                    refine bodyPost_cell_tmp (g := q) (cs := #[.int .i64 0, .slice none 0 0, .int .i64 0, .int .i64 0, .int .i64 0, .bool false]) Tryd.results7 rfl (by first | with_reducible exact hA6 | with_reducible exact Blk.six hA6) Tryd.underlying27 rfl (by kernel_rfl) rfl ⟨⟨.slice none 0 0, by rw [hO.out]; rfl, by rw [hO.out]; exact Rz.nil _⟩, by first | with_reducible exact hb06 | (rw [hq]; with_reducible exact hb06) | (rw [hq]; with_reducible exact below_six hb06 (Nat.le_refl _) _ _ _ _ _ _) | with_reducible exact below_six hb06 (Nat.le_of_eq hq) _ _ _ _ _ _⟩
                  | true =>
                    have hND := hide (Nd.one hnv)
                    clear hN hnB hnv
                    go_wp2_with (go_at_call 21; (with_reducible refine (hNu _ (hS _ hbR)).mono ?_); rintro e w4 ⟨rfl, hb4⟩; have hA4 := hAR.below hb4 hAR.lt; have hB4 := hBR.below hb4 hBR.lt; have hD4 := hDR.below hb4 hDR.lt; have hP4 := hPR.below hb4 hPR.lt; have hZ4 := hZR.below hb4; have kc4 := hB4.cell; have kf4 := hB4.frozen; have ka4 := hA4.cell; have kb4 := hA4.frozen; have hb04 := hbR.trans (hb4.mono hqR))
                    go_roundw
                    case rel =>
                      have hB6 : Blk (w4.setCell ⟨q + 1, 2, none⟩ (.int .i64 v)) (q + 1) 27 #[.int .i64 0, (.slice Au rs.length cu), .int .i64 v, .int .i64 0, .int .i64 0, .bool true] := hB4.set_ 2 _
                      exact ⟨0 + 1, v, 0, 0, true, by omega, by go_num, rfl, hND.out, hb04.setCell (Nat.le_succ q) _, hA4.far (p := ⟨q + 1, 2, none⟩) (Nat.ne_of_lt (Nat.lt_succ_self q)) _, hB6, hD4.far (p := ⟨q + 1, 2, none⟩) hgq _, hP4.far (p := ⟨q + 1, 2, none⟩) hgq1 _, rz_set hZ4 hB4 2 _⟩
                    case measure => first | (simp [intOf]; done) | (simp [intOf]; omega)
                · obtain rfl : b = 0 := hN.2.2.1
                  obtain rfl : c = 0 := hN.2.2.2
                  obtain ⟨y, hy⟩ : ∃ y, L[1]? = some y := ⟨_, List.getElem?_eq_getElem (by have := KL.out.2.2.1; omega)⟩
                  have hcy : LV[1]? = some (.string y) := by rw [← hLV]; simp [hy]
                  have hNu := fun W hW => anum_any y (by have := KL.out.2.1 y (List.mem_of_getElem? hy); have := KR.out; omega) W hW
                  have hnB : nB L 1 = intP y.data.toList := by unfold nB; rw [List.getD_eq_getElem?_getD, hy]; rfl
                  rw [← hnB] at hNu
                  obtain ⟨⟨v, bb⟩, hnv⟩ : ∃ p, nB L 1 = p := ⟨_, rfl⟩
                  rw [hnv] at hNu
                  dsimp only at hNu
                  cases bb with
                  | false =>
                    have hO := hide (q_fail (K := 2) (k := 0) KQ.out (.inl ⟨rfl, rfl⟩) hw (j := 1) (by omega) (by rw [hnv]))
                    clear hN hnB hnv
                    go_wp2_with (go_at_call 21; (with_reducible refine (hNu _ (hS _ hbR)).mono ?_); rintro e w4 ⟨rfl, hb4⟩; have hA4 := hAR.below hb4 hAR.lt; have hB4 := hBR.below hb4 hBR.lt; have kc4 := hB4.cell; have kf4 := hB4.frozen; have ka4 := hA4.cell; have kb4 := hA4.frozen; have hb04 := hbR.trans (hb4.mono hqR))
                    have hA6 := hA4.far (p := ⟨q + 1, 3, none⟩) (Nat.ne_of_lt (Nat.lt_succ_self q)) (.int .i64 v)
                    have hb06 := hb04.setCell (p := ⟨q + 1, 3, none⟩) (Nat.le_succ q) (.int .i64 v)
                    refine bodyPost_cell_tmp (g := q) (cs := #[.int .i64 0, .slice none 0 0, .int .i64 0, .int .i64 0, .int .i64 0, .bool false]) Tryd.results7 rfl (by first | with_reducible exact hA6 | with_reducible exact Blk.six hA6) Tryd.underlying27 rfl (by kernel_rfl) rfl ⟨⟨.slice none 0 0, by rw [hO.out]; rfl, by rw [hO.out]; exact Rz.nil _⟩, by first | with_reducible exact hb06 | (rw [hq]; with_reducible exact hb06) | (rw [hq]; with_reducible exact below_six hb06 (Nat.le_refl _) _ _ _ _ _ _) | with_reducible exact below_six hb06 (Nat.le_of_eq hq) _ _ _ _ _ _⟩
                  | true =>
                    have hND := hide (Nd.two hN hnv)
                    clear hN hnB hnv
                    go_wp2_with (go_at_call 21; (with_reducible refine (hNu _ (hS _ hbR)).mono ?_); rintro e w4 ⟨rfl, hb4⟩; have hA4 := hAR.below hb4 hAR.lt; have hB4 := hBR.below hb4 hBR.lt; have hD4 := hDR.below hb4 hDR.lt; have hP4 := hPR.below hb4 hPR.lt; have hZ4 := hZR.below hb4; have kc4 := hB4.cell; have kf4 := hB4.frozen; have ka4 := hA4.cell; have kb4 := hA4.frozen; have hb04 := hbR.trans (hb4.mono hqR))
                    go_roundw
                    case rel =>
                      have hB6 : Blk (w4.setCell ⟨q + 1, 3, none⟩ (.int .i64 v)) (q + 1) 27 #[.int .i64 0, (.slice Au rs.length cu), .int .i64 a, .int .i64 v, .int .i64 0, .bool true] := hB4.set_ 3 _
                      exact ⟨1 + 1, a, v, 0, true, by omega, by go_num, rfl, hND.out, hb04.setCell (Nat.le_succ q) _, hA4.far (p := ⟨q + 1, 3, none⟩) (Nat.ne_of_lt (Nat.lt_succ_self q)) _, hB6, hD4.far (p := ⟨q + 1, 3, none⟩) hgq _, hP4.far (p := ⟨q + 1, 3, none⟩) hgq1 _, rz_set hZ4 hB4 3 _⟩
                    case measure => first | (simp [intOf]; done) | (simp [intOf]; omega)
              · obtain rfl : i = 2 := by omega
                have hR := aright_any ⟨0, rs, a, b, c, true⟩ (.slice Au rs.length cu) wr hZR ⟨right_oks hrR, by dsimp only; omega, hN.le.1, hN.le.2.1, hN.le.2.2⟩
                have hE : parQ s.data.toList = if rightQ ⟨0, rs, a, b, c, true⟩ = true then ⟨0, ⟨0, rs, a, b, c, true⟩⟩ else ⟨90, zeroQ⟩ := q_end (K := 2) (k := 0) KQ.out (.inl ⟨rfl, rfl⟩) hw hN
                clear hlt hN
                cases hrq : rightQ ⟨0, rs, a, b, c, true⟩ with
                | false =>
                  rw [hrq] at hE hR
                  have hO := hide (show parQ s.data.toList = ⟨90, zeroQ⟩ from by rw [hE, if_neg (by decide)])
                  clear hE hrq
                  go_wp2_with (go_at_call 6; (with_reducible refine hR.mono ?_); rintro e w5 ⟨rfl, hb5⟩; have hA5 := hAR.below hb5 hAR.lt; have ka5 := hA5.cell; have kb5 := hA5.frozen; have hb05 := hbR.trans (hb5.mono hqR))
                  refine bodyPost_cell_tmp (g := q) (cs := #[.int .i64 0, .slice none 0 0, .int .i64 0, .int .i64 0, .int .i64 0, .bool false]) Tryd.results7 rfl (by first | with_reducible exact hA5 | with_reducible exact Blk.six hA5) Tryd.underlying27 rfl (by kernel_rfl) rfl ⟨⟨.slice none 0 0, by rw [hO.out]; rfl, by rw [hO.out]; exact Rz.nil _⟩, by first | with_reducible exact hb05 | (rw [hq]; with_reducible exact hb05) | (rw [hq]; with_reducible exact below_six hb05 (Nat.le_refl _) _ _ _ _ _ _) | with_reducible exact below_six hb05 (Nat.le_of_eq hq) _ _ _ _ _ _⟩
                | true =>
                  rw [hrq] at hE hR
                  have hO := hide (show parQ s.data.toList = ⟨0, ⟨0, rs, a, b, c, true⟩⟩ from by rw [hE, if_pos rfl])
                  clear hE hrq
                  go_wp2_with (go_at_call 6; (with_reducible refine hR.mono ?_); rintro e w5 ⟨rfl, hb5⟩; have hA5 := hAR.below hb5 hAR.lt; have hB5 := hBR.below hb5 hBR.lt; have kc5 := hB5.cell; have ka5 := hA5.cell; have kb5 := hA5.frozen; have hb05 := hbR.trans (hb5.mono hqR); have hZ5 := hZR.below hb5)
                  refine bodyPost_cell_tmp (g := q) (cs := #[.int .i64 0, (.slice Au rs.length cu), .int .i64 a, .int .i64 b, .int .i64 c, .bool true]) Tryd.results7 rfl (by with_reducible exact Blk.six hA5) Tryd.underlying27 rfl (by kernel_rfl) rfl ⟨⟨.slice Au rs.length cu, by rw [hO.out]; rfl, ?_⟩, by (rw [hq]; with_reducible exact below_six hb05 (Nat.le_refl _) _ _ _ _ _ _)⟩
                  rw [hO.out]
                  exact rz_six hZ5 hA5
          · have hO := hide (hbad2 rfl _ _ hw (by first | (rw [if_pos hk0]; exact hM) | (rw [if_neg hk0]; exact hM)))
            have d7 : ((m : Int) != 2) = true := by simp; omega
            subst hk0
            clear hwd hbad2 hgood KL KQ KS KS2 hw hxe hnb hbad1 hm hn hM
            go_wp2_with (first
              | (go_at_call 18; (with_reducible refine (hMP _ (hS _ hbU).sg).mono ?_); rintro e w1 ⟨⟨u, rfl, hZ⟩, hb1⟩; obtain ⟨Au, cu, rfl⟩ := hZ.shape; have hA1 := hAU.below hb1 hAU.lt; have hB1 := hBU.below hb1 hBU.lt; have kf1 := hB1.frozen; have kc1 := hB1.cell; have kg1 := hA1.frozen; have kd1 := hA1.cell; have hb01 := hbU.trans (hb1.mono hqU); have hl1 := hB1.lt; have hl2 : q + 1 < w1.heap.size + 1 := Nat.lt_succ_of_lt hl1; have hl3 : q + 1 < w1.heap.size + 1 + 1 := Nat.lt_succ_of_lt hl2; have hl4 := hA1.lt; have hl5 : q < w1.heap.size + 1 := Nat.lt_succ_of_lt hl4; have hne1 : ¬ (q + 1 = w1.heap.size) := Nat.ne_of_lt hl1; have hne2 : ¬ (q = w1.heap.size) := Nat.ne_of_lt hl4)
              | (go_at_call 19; (with_reducible refine (hCP _).mono ?_); rintro e w2 ⟨rfl, rfl⟩)
              | (go_at_call 20; (with_reducible refine (hSp _ (hS _ (hb01.setCell (Nat.le_succ q) _))).mono ?_); rintro e w3 ⟨rfl, rfl⟩))
            have hU1 : Blk (w1.setCell ⟨q + 1, 1, none⟩ (.slice Au rs.length cu)) (q + 1) 27 #[.int .i64 0, (.slice Au rs.length cu), .int .i64 0, .int .i64 0, .int .i64 0, .bool false] := hB1.set_ 1 _
            have hD1 := Blk.new (w1.setCell ⟨q + 1, 1, none⟩ (.slice Au rs.length cu)) 9 LV
            rw [World.size_setCell] at hD1
            refine abstr (fun V => Below q w V ∧ Blk V q 27 #[.int .i64 0, .slice none 0 0, .int .i64 0, .int .i64 0, .int .i64 0, .bool false] ∧ Blk V (q + 1) 27 #[.int .i64 0, (.slice Au rs.length cu), .int .i64 0, .int .i64 0, .int .i64 0, .bool false] ∧ Blk V w1.heap.size 9 LV ∧ Rz V (.slice Au rs.length cu) rs)
              ⟨(hb01.setCell (Nat.le_succ q) _).alloc (by rw [World.size_setCell]; omega) _, (hA1.far (p := ⟨q + 1, 1, none⟩) (Nat.ne_of_lt (Nat.lt_succ_self q)) _).alloc _, hU1.alloc _, hD1, (rz_set hZ hB1 1 _).alloc _⟩ (fun V hV => ?_)
            have hgq : w1.heap.size ≠ q + 1 := by omega
            clear hA1 hB1 kf1 kc1 kg1 kd1 hb01 hl1 hl2 hl3 hl4 hl5 hne1 hne2 hZ hb1 hU1 hD1
            generalize w1.heap.size = g at *
            obtain ⟨hbV, hAV, hBV, hDV, hZV⟩ := hV
            have kc1 := hBV.cell
            have kf1 := hBV.frozen
            refine wp_region_only (q + 1) [4] [0, 1, 2, 3, 5] [(true, false, 0), (true, false, 1), (true, false, 2), (true, false, 3), (true, true, 4), (true, false, 5), (false, true, 6), (false, false, 7)] (by kernel_rfl) (by kernel_rfl) (fun Y => ?_); simp only [List.map_cons, List.map_nil, List.getD_cons_zero, List.getD_cons_succ]
            (repeat (first | (refine wfp fun K hK => ?_; go_simp; refine hK _ _ ?_; clear hK K) | (refine wff fun K hK => ?_; go_simp; refine hK _ _ ?_; clear hK K)))
            have wi : IntKind.i64.wrap (m : Int) = m := by rw [IntKind.wrap_i64]; omega
            (refine first_read rfl (v := .slice (some ⟨g, 0, none⟩) m (m + 1)) (fun w' hw' => ?_) (fun K hK => ?_); rotate_left 1; go_simp; refine hK _ _ ?_; clear hK K; rotate_left 1; focus (go_simp <;> (rw [if_pos (by omega)]; exact ⟨rfl, rfl⟩)))
            have hBY := hBV.ext Y
            have kcY := hBY.cell
            have kfY := hBY.frozen
            (repeat (first | (refine wfp fun K hK => ?_; go_simp; refine hK _ _ ?_; clear hK K) | (refine wff fun K hK => ?_; go_simp; refine hK _ _ ?_; clear hK K)))
            refine First.wpF_must (fun K hK => ?_)
            go_wp2
            (refine hK _ _ (fun hnd => by first | exact Bool.noConfusion hnd | exact Only.refl _ _ | ((repeat (refine Only.set_ ?_ (.inl rfl) _)); exact Only.refl _ _)) ?_; clear hK K)
            refine First.wpF_must (fun K hK => ?_)
            go_wp2
            (refine hK _ _ (fun hnd => by first | exact Bool.noConfusion hnd | exact Only.refl _ _ | ((repeat (refine Only.set_ ?_ (.inl rfl) _)); exact Only.refl _ _)) ?_; clear hK K)
            refine First.wpF_nil ?_
            refine abstr (fun Z => Below q w Z ∧ Blk Z q 27 #[.int .i64 0, .slice none 0 0, .int .i64 0, .int .i64 0, .int .i64 0, .bool false] ∧ Blk Z (q + 1) 27 #[.int .i64 0, (.slice Au rs.length cu), .int .i64 0, .int .i64 0, .int .i64 0, .bool true] ∧ Blk Z g 9 LV ∧ Rz Z (.slice Au rs.length cu) rs)
              ⟨(hbV.trans ((World.below_ext V Y).mono (by rw [← hq]; exact hbV.size))).setCell (Nat.le_succ q) _, (hAV.ext Y).far (p := ⟨q + 1, 5, none⟩) (Nat.ne_of_lt (Nat.lt_succ_self q)) _, hBY.set_ 5 _, (hDV.ext Y).far (p := ⟨q + 1, 5, none⟩) hgq _, rz_set (hZV.ext Y) hBY 5 _⟩ (fun Z hZ9 => ?_)
            clear hbV hAV hBV hDV hZV hBY kcY kfY kc1 kf1
            obtain ⟨hbF, hF1, hBZ, hDZ, hZZ⟩ := hZ9
            have kc2 := hBZ.cell
            have kf2 := hBZ.frozen
            have kg2 := hF1.cell
            have kh2 := hF1.frozen
            have hl1 := hBZ.lt
            have hl2 := hF1.lt
            go_wp2
            have hB6 := (Blk.six (u0 := .int .i64 0) (u1 := .slice none 0 0) (u2 := .int .i64 0) (u3 := .int .i64 0) (u4 := .int .i64 0) (u5 := .bool false) hF1).alloc (.cells #[.pointer (some ⟨q + 1, 2, none⟩), .pointer (some ⟨q + 1, 3, none⟩), .pointer (some ⟨q + 1, 4, none⟩)] 52)
            refine bodyPost_cell_tmp (g := q) (cs := #[.int .i64 0, .slice none 0 0, .int .i64 0, .int .i64 0, .int .i64 0, .bool false]) Tryd.results7 rfl hB6 Tryd.underlying27 rfl (by kernel_rfl) rfl ⟨⟨.slice none 0 0, by rw [hO.out]; rfl, by rw [hO.out]; exact Rz.nil _⟩, ?_⟩
            rw [hq]
            refine Below.alloc (below_six hbF (Nat.le_refl _) _ _ _ _ _ _) ?_ _ <;> (simp only [World.size_alloc, World.size_setCell, World.size_ext]; omega)
        · have d9 : ((k : Int) == 0) = false := by simpa using hk0
          by_cases hM : m = 3
          · obtain rfl : m = 3 := by omega
            have hQ2 := KQ.out
            rw [hgood rfl, if_neg hk0] at hQ2
            have KQ3 := hide hQ2
            clear KQ
            have KQ := KQ3
            clear hwd hbad2 hbad1 hgood hxe hnb hn hM hQ2 KQ3
            go_wp2_with (first
              | (go_at_call 18; (with_reducible refine (hMP _ (hS _ hbU).sg).mono ?_); rintro e w1 ⟨⟨u, rfl, hZ⟩, hb1⟩; obtain ⟨Au, cu, rfl⟩ := hZ.shape; have hA1 := hAU.below hb1 hAU.lt; have hB1 := hBU.below hb1 hBU.lt; have kf1 := hB1.frozen; have kc1 := hB1.cell; have kg1 := hA1.frozen; have kd1 := hA1.cell; have hb01 := hbU.trans (hb1.mono hqU); have hl1 := hB1.lt; have hl2 : q + 1 < w1.heap.size + 1 := Nat.lt_succ_of_lt hl1; have hl3 : q + 1 < w1.heap.size + 1 + 1 := Nat.lt_succ_of_lt hl2; have hl4 := hA1.lt; have hl5 : q < w1.heap.size + 1 := Nat.lt_succ_of_lt hl4; have hne1 : ¬ (q + 1 = w1.heap.size) := Nat.ne_of_lt hl1; have hne2 : ¬ (q = w1.heap.size) := Nat.ne_of_lt hl4)
              | (go_at_call 19; (with_reducible refine (hCP _).mono ?_); rintro e w2 ⟨rfl, rfl⟩)
              | (go_at_call 20; (with_reducible refine (hSp _ (hS _ (hb01.setCell (Nat.le_succ q) _))).mono ?_); rintro e w3 ⟨rfl, rfl⟩))
            have hU1 : Blk (w1.setCell ⟨q + 1, 1, none⟩ (.slice Au rs.length cu)) (q + 1) 27 #[.int .i64 (k : Int), (.slice Au rs.length cu), .int .i64 0, .int .i64 0, .int .i64 0, .bool false] := hB1.set_ 1 _
            have hD1 := Blk.new (w1.setCell ⟨q + 1, 1, none⟩ (.slice Au rs.length cu)) 9 LV
            rw [World.size_setCell] at hD1
            refine abstr (fun V => Below q w V ∧ Blk V q 27 #[.int .i64 0, .slice none 0 0, .int .i64 0, .int .i64 0, .int .i64 0, .bool false] ∧ Blk V (q + 1) 27 #[.int .i64 (k : Int), (.slice Au rs.length cu), .int .i64 0, .int .i64 0, .int .i64 0, .bool false] ∧ Blk V w1.heap.size 9 LV ∧ Rz V (.slice Au rs.length cu) rs)
              ⟨(hb01.setCell (Nat.le_succ q) _).alloc (by rw [World.size_setCell]; omega) _, (hA1.far (p := ⟨q + 1, 1, none⟩) (Nat.ne_of_lt (Nat.lt_succ_self q)) _).alloc _, hU1.alloc _, hD1, (rz_set hZ hB1 1 _).alloc _⟩ (fun V hV => ?_)
            have hgq : w1.heap.size ≠ q + 1 := by omega
            clear hA1 hB1 kf1 kc1 kg1 kd1 hb01 hl1 hl2 hl3 hl4 hl5 hne1 hne2 hZ hb1 hU1 hD1
            generalize w1.heap.size = g at *
            obtain ⟨hbV, hAV, hBV, hDV, hZV⟩ := hV
            have kc1 := hBV.cell
            have kf1 := hBV.frozen
            refine wp_region_only (q + 1) [4] [0, 1, 2, 3, 5] [(true, false, 0), (true, false, 1), (true, false, 2), (true, false, 3), (true, true, 4), (true, false, 5), (false, true, 6), (false, false, 7)] (by kernel_rfl) (by kernel_rfl) (fun Y => ?_); simp only [List.map_cons, List.map_nil, List.getD_cons_zero, List.getD_cons_succ]
            (repeat (first | (refine wfp fun K hK => ?_; go_simp; refine hK _ _ ?_; clear hK K) | (refine wff fun K hK => ?_; go_simp; refine hK _ _ ?_; clear hK K)))
            have wi : IntKind.i64.wrap (3 : Int) = 3 := by rw [IntKind.wrap_i64]; omega
            (refine first_read rfl (v := .slice (some ⟨g, 0, none⟩) 3 4) (fun w' hw' => ?_) (fun K hK => ?_); rotate_left 1; go_simp; refine hK _ _ ?_; clear hK K; rotate_left 1; focus (go_simp <;> (rw [if_pos (by omega)]; exact ⟨rfl, rfl⟩)))
            have hBY := hBV.ext Y
            have kcY := hBY.cell
            have kfY := hBY.frozen
            (repeat (first | (refine wfp fun K hK => ?_; go_simp; refine hK _ _ ?_; clear hK K) | (refine wff fun K hK => ?_; go_simp; refine hK _ _ ?_; clear hK K)))
            refine First.wpF_must (fun K hK => ?_)
            go_wp2
            (refine hK _ _ (fun hnd => by first | exact Bool.noConfusion hnd | exact Only.refl _ _ | ((repeat (refine Only.set_ ?_ (.inl rfl) _)); exact Only.refl _ _)) ?_; clear hK K)
            refine First.wpF_must (fun K hK => ?_)
            go_wp2
            (refine hK _ _ (fun hnd => by first | exact Bool.noConfusion hnd | exact Only.refl _ _ | ((repeat (refine Only.set_ ?_ (.inl rfl) _)); exact Only.refl _ _)) ?_; clear hK K)
            refine First.wpF_nil ?_
            refine abstr (fun Z => Below q w Z ∧ Blk Z q 27 #[.int .i64 0, .slice none 0 0, .int .i64 0, .int .i64 0, .int .i64 0, .bool false] ∧ Blk Z (q + 1) 27 #[.int .i64 (k : Int), (.slice Au rs.length cu), .int .i64 0, .int .i64 0, .int .i64 0, .bool true] ∧ Blk Z g 9 LV ∧ Rz Z (.slice Au rs.length cu) rs)
              ⟨(hbV.trans ((World.below_ext V Y).mono (by rw [← hq]; exact hbV.size))).setCell (Nat.le_succ q) _, (hAV.ext Y).far (p := ⟨q + 1, 5, none⟩) (Nat.ne_of_lt (Nat.lt_succ_self q)) _, hBY.set_ 5 _, (hDV.ext Y).far (p := ⟨q + 1, 5, none⟩) hgq _, rz_set (hZV.ext Y) hBY 5 _⟩ (fun Z hZ9 => ?_)
            clear hbV hAV hBV hDV hZV hBY kcY kfY kc1 kf1
            obtain ⟨hbF, hF1, hBZ, hDZ, hZZ⟩ := hZ9
            have kc2 := hBZ.cell
            have kf2 := hBZ.frozen
            have kg2 := hF1.cell
            have kh2 := hF1.frozen
            have hl1 := hBZ.lt
            have hl2 := hF1.lt
            go_wp2
            have hP1 := Blk.new Z 52 #[.pointer (some ⟨q + 1, 2, none⟩), .pointer (some ⟨q + 1, 3, none⟩), .pointer (some ⟨q + 1, 4, none⟩)]
            have hqZ : q ≤ Z.heap.size := by rw [← hq]; exact hbF.size
            refine abstr (fun V => Below q w V ∧ Blk V q 27 #[.int .i64 0, .slice none 0 0, .int .i64 0, .int .i64 0, .int .i64 0, .bool false] ∧ Blk V (q + 1) 27 #[.int .i64 (k : Int), (.slice Au rs.length cu), .int .i64 0, .int .i64 0, .int .i64 0, .bool true] ∧ Blk V g 9 LV ∧ Blk V Z.heap.size 52 #[.pointer (some ⟨q + 1, 2, none⟩), .pointer (some ⟨q + 1, 3, none⟩), .pointer (some ⟨q + 1, 4, none⟩)] ∧ Rz V (.slice Au rs.length cu) rs)
              ⟨hbF.alloc hqZ _, hF1.alloc _, hBZ.alloc _, hDZ.alloc _, hP1, hZZ.alloc _⟩ (fun V hV => ?_)
            have hgq1 : Z.heap.size ≠ q + 1 := by omega
            clear hbF hF1 hBZ hDZ hZZ kc2 kf2 kg2 kh2 hl1 hl2 hP1 hqZ
            generalize Z.heap.size = p3 at *
            obtain ⟨hbV, hAV, hBV, hDV, hPV, hZV⟩ := hV
            go_loopw [95, 9] (fun s95 s9 wr => ∃ (i : Nat) (a b c : Int) (bo : Bool), i ≤ 3 ∧ s95 = .int .i64 (i : Int) ∧ s9 = .bool bo ∧ Nd L i a b c ∧ Below q w wr ∧ Blk wr q 27 #[.int .i64 0, .slice none 0 0, .int .i64 0, .int .i64 0, .int .i64 0, .bool false] ∧ Blk wr (q + 1) 27 #[.int .i64 (k : Int), (.slice Au rs.length cu), .int .i64 a, .int .i64 b, .int .i64 c, .bool true] ∧ Blk wr g 9 LV ∧ Blk wr p3 52 #[.pointer (some ⟨q + 1, 2, none⟩), .pointer (some ⟨q + 1, 3, none⟩), .pointer (some ⟨q + 1, 4, none⟩)] ∧ Rz wr (.slice Au rs.length cu) rs) (fun s95 _ _ => (3 - intOf s95).toNat)
            case atStart => exact ⟨0, 0, 0, 0, true, by omega, rfl, rfl, Nd.zero L, hbV, hAV, hBV, hDV, hPV, hZV⟩
            case round =>
              clear hbV hAV hBV hDV hPV hZV
              obtain ⟨i, a, b, c, bo, hi, rfl, rfl, hN, hbR, hAR, hBR, hDR, hPR, hZR⟩ := hrel
              have kc := hBR.cell
              have kf := hBR.frozen
              have ka := hAR.cell
              have kb := hAR.frozen
              have kd := hDR.cell
              have kp := hPR.cell
              have hqR : q ≤ wr.heap.size := by rw [← hq]; exact hbR.size
              by_cases hlt : i < 3
              · have hi3 : i = 0 ∨ i = 1 ∨ i = 2 := by omega
                have hii : (i : Int) < 3 := by omega
                clear hlt
                rcases hi3 with rfl | rfl | rfl
                · obtain rfl : a = 0 := hN.2.1
                  obtain rfl : b = 0 := hN.2.2.1
                  obtain rfl : c = 0 := hN.2.2.2
                  obtain ⟨y, hy⟩ : ∃ y, L[0]? = some y := ⟨_, List.getElem?_eq_getElem (by have := KL.out.2.2.1; omega)⟩
                  have hcy : LV[0]? = some (.string y) := by rw [← hLV]; simp [hy]
                  have hNu := fun W hW => anum_any y (by have := KL.out.2.1 y (List.mem_of_getElem? hy); have := KR.out; omega) W hW
                  have hnB : nB L 0 = intP y.data.toList := by unfold nB; rw [List.getD_eq_getElem?_getD, hy]; rfl
                  rw [← hnB] at hNu
                  obtain ⟨⟨v, bb⟩, hnv⟩ : ∃ p, nB L 0 = p := ⟨_, rfl⟩
                  rw [hnv] at hNu
                  dsimp only at hNu
                  cases bb with
                  | false =>
                    have hO := hide (q_fail (K := 3) (k := k) KQ.out (.inr ⟨rfl, hk0⟩) hw (j := 0) (by omega) (by rw [hnv]))
                    clear hN hnB hnv
                    go_wp2_with (go_at_call 21; (with_reducible refine (hNu _ (hS _ hbR)).mono ?_); rintro e w4 ⟨rfl, hb4⟩; have hA4 := hAR.below hb4 hAR.lt; have hB4 := hBR.below hb4 hBR.lt; have kc4 := hB4.cell; have kf4 := hB4.frozen; have ka4 := hA4.cell; have kb4 := hA4.frozen; have hb04 := hbR.trans (hb4.mono hqR))
                    have hA6 := hA4.far (p := ⟨q + 1, 2, none⟩) (Nat.ne_of_lt (Nat.lt_succ_self q)) (.int .i64 v)
                    have hb06 := hb04.setCell (p := ⟨q + 1, 2, none⟩) (Nat.le_succ q) (.int .i64 v)
                    refine bodyPost_cell_tmp (g := q) (cs := #[.int .i64 0, .slice none 0 0, .int .i64 0, .int .i64 0, .int .i64 0, .bool false]) Tryd.results7 rfl (by first | with_reducible exact hA6 | with_reducible exact Blk.six hA6) Tryd.underlying27 rfl (by kernel_rfl) rfl ⟨⟨.slice none 0 0, by rw [hO.out]; rfl, by rw [hO.out]; exact Rz.nil _⟩, by first | with_reducible exact hb06 | (rw [hq]; with_reducible exact hb06) | (rw [hq]; with_reducible exact below_six hb06 (Nat.le_refl _) _ _ _ _ _ _) | with_reducible exact below_six hb06 (Nat.le_of_eq hq) _ _ _ _ _ _⟩
                  | true =>
                    have hND := hide (Nd.one hnv)
                    clear hN hnB hnv
                    go_wp2_with (go_at_call 21; (with_reducible refine (hNu _ (hS _ hbR)).mono ?_); rintro e w4 ⟨rfl, hb4⟩; have hA4 := hAR.below hb4 hAR.lt; have hB4 := hBR.below hb4 hBR.lt; have hD4 := hDR.below hb4 hDR.lt; have hP4 := hPR.below hb4 hPR.lt; have hZ4 := hZR.below hb4; have kc4 := hB4.cell; have kf4 := hB4.frozen; have ka4 := hA4.cell; have kb4 := hA4.frozen; have hb04 := hbR.trans (hb4.mono hqR))
                    go_roundw
                    case rel =>
                      have hB6 : Blk (w4.setCell ⟨q + 1, 2, none⟩ (.int .i64 v)) (q + 1) 27 #[.int .i64 (k : Int), (.slice Au rs.length cu), .int .i64 v, .int .i64 0, .int .i64 0, .bool true] := hB4.set_ 2 _
                      exact ⟨0 + 1, v, 0, 0, true, by omega, by go_num, rfl, hND.out, hb04.setCell (Nat.le_succ q) _, hA4.far (p := ⟨q + 1, 2, none⟩) (Nat.ne_of_lt (Nat.lt_succ_self q)) _, hB6, hD4.far (p := ⟨q + 1, 2, none⟩) hgq _, hP4.far (p := ⟨q + 1, 2, none⟩) hgq1 _, rz_set hZ4 hB4 2 _⟩
                    case measure => first | (simp [intOf]; done) | (simp [intOf]; omega)
                · obtain rfl : b = 0 := hN.2.2.1
                  obtain rfl : c = 0 := hN.2.2.2
                  obtain ⟨y, hy⟩ : ∃ y, L[1]? = some y := ⟨_, List.getElem?_eq_getElem (by have := KL.out.2.2.1; omega)⟩
                  have hcy : LV[1]? = some (.string y) := by rw [← hLV]; simp [hy]
                  have hNu := fun W hW => anum_any y (by have := KL.out.2.1 y (List.mem_of_getElem? hy); have := KR.out; omega) W hW
                  have hnB : nB L 1 = intP y.data.toList := by unfold nB; rw [List.getD_eq_getElem?_getD, hy]; rfl
                  rw [← hnB] at hNu
                  obtain ⟨⟨v, bb⟩, hnv⟩ : ∃ p, nB L 1 = p := ⟨_, rfl⟩
                  rw [hnv] at hNu
                  dsimp only at hNu
                  cases bb with
                  | false =>
                    have hO := hide (q_fail (K := 3) (k := k) KQ.out (.inr ⟨rfl, hk0⟩) hw (j := 1) (by omega) (by rw [hnv]))
                    clear hN hnB hnv
                    go_wp2_with (go_at_call 21; (with_reducible refine (hNu _ (hS _ hbR)).mono ?_); rintro e w4 ⟨rfl, hb4⟩; have hA4 := hAR.below hb4 hAR.lt; have hB4 := hBR.below hb4 hBR.lt; have kc4 := hB4.cell; have kf4 := hB4.frozen; have ka4 := hA4.cell; have kb4 := hA4.frozen; have hb04 := hbR.trans (hb4.mono hqR))
                    have hA6 := hA4.far (p := ⟨q + 1, 3, none⟩) (Nat.ne_of_lt (Nat.lt_succ_self q)) (.int .i64 v)
                    have hb06 := hb04.setCell (p := ⟨q + 1, 3, none⟩) (Nat.le_succ q) (.int .i64 v)
                    refine bodyPost_cell_tmp (g := q) (cs := #[.int .i64 0, .slice none 0 0, .int .i64 0, .int .i64 0, .int .i64 0, .bool false]) Tryd.results7 rfl (by first | with_reducible exact hA6 | with_reducible exact Blk.six hA6) Tryd.underlying27 rfl (by kernel_rfl) rfl ⟨⟨.slice none 0 0, by rw [hO.out]; rfl, by rw [hO.out]; exact Rz.nil _⟩, by first | with_reducible exact hb06 | (rw [hq]; with_reducible exact hb06) | (rw [hq]; with_reducible exact below_six hb06 (Nat.le_refl _) _ _ _ _ _ _) | with_reducible exact below_six hb06 (Nat.le_of_eq hq) _ _ _ _ _ _⟩
                  | true =>
                    have hND := hide (Nd.two hN hnv)
                    clear hN hnB hnv
                    go_wp2_with (go_at_call 21; (with_reducible refine (hNu _ (hS _ hbR)).mono ?_); rintro e w4 ⟨rfl, hb4⟩; have hA4 := hAR.below hb4 hAR.lt; have hB4 := hBR.below hb4 hBR.lt; have hD4 := hDR.below hb4 hDR.lt; have hP4 := hPR.below hb4 hPR.lt; have hZ4 := hZR.below hb4; have kc4 := hB4.cell; have kf4 := hB4.frozen; have ka4 := hA4.cell; have kb4 := hA4.frozen; have hb04 := hbR.trans (hb4.mono hqR))
                    go_roundw
                    case rel =>
                      have hB6 : Blk (w4.setCell ⟨q + 1, 3, none⟩ (.int .i64 v)) (q + 1) 27 #[.int .i64 (k : Int), (.slice Au rs.length cu), .int .i64 a, .int .i64 v, .int .i64 0, .bool true] := hB4.set_ 3 _
                      exact ⟨1 + 1, a, v, 0, true, by omega, by go_num, rfl, hND.out, hb04.setCell (Nat.le_succ q) _, hA4.far (p := ⟨q + 1, 3, none⟩) (Nat.ne_of_lt (Nat.lt_succ_self q)) _, hB6, hD4.far (p := ⟨q + 1, 3, none⟩) hgq _, hP4.far (p := ⟨q + 1, 3, none⟩) hgq1 _, rz_set hZ4 hB4 3 _⟩
                    case measure => first | (simp [intOf]; done) | (simp [intOf]; omega)
                · obtain rfl : c = 0 := hN.2.2.2
                  obtain ⟨y, hy⟩ : ∃ y, L[2]? = some y := ⟨_, List.getElem?_eq_getElem (by have := KL.out.2.2.1; omega)⟩
                  have hcy : LV[2]? = some (.string y) := by rw [← hLV]; simp [hy]
                  have hNu := fun W hW => anum_any y (by have := KL.out.2.1 y (List.mem_of_getElem? hy); have := KR.out; omega) W hW
                  have hnB : nB L 2 = intP y.data.toList := by unfold nB; rw [List.getD_eq_getElem?_getD, hy]; rfl
                  rw [← hnB] at hNu
                  obtain ⟨⟨v, bb⟩, hnv⟩ : ∃ p, nB L 2 = p := ⟨_, rfl⟩
                  rw [hnv] at hNu
                  dsimp only at hNu
                  cases bb with
                  | false =>
                    have hO := hide (q_fail (K := 3) (k := k) KQ.out (.inr ⟨rfl, hk0⟩) hw (j := 2) (by omega) (by rw [hnv]))
                    clear hN hnB hnv
                    go_wp2_with (go_at_call 21; (with_reducible refine (hNu _ (hS _ hbR)).mono ?_); rintro e w4 ⟨rfl, hb4⟩; have hA4 := hAR.below hb4 hAR.lt; have hB4 := hBR.below hb4 hBR.lt; have kc4 := hB4.cell; have kf4 := hB4.frozen; have ka4 := hA4.cell; have kb4 := hA4.frozen; have hb04 := hbR.trans (hb4.mono hqR))
                    have hA6 := hA4.far (p := ⟨q + 1, 4, none⟩) (Nat.ne_of_lt (Nat.lt_succ_self q)) (.int .i64 v)
                    have hb06 := hb04.setCell (p := ⟨q + 1, 4, none⟩) (Nat.le_succ q) (.int .i64 v)
                    refine bodyPost_cell_tmp (g := q) (cs := #[.int .i64 0, .slice none 0 0, .int .i64 0, .int .i64 0, .int .i64 0, .bool false]) Tryd.results7 rfl (by first | with_reducible exact hA6 | with_reducible exact Blk.six hA6) Tryd.underlying27 rfl (by kernel_rfl) rfl ⟨⟨.slice none 0 0, by rw [hO.out]; rfl, by rw [hO.out]; exact Rz.nil _⟩, by first | with_reducible exact hb06 | (rw [hq]; with_reducible exact hb06) | (rw [hq]; with_reducible exact below_six hb06 (Nat.le_refl _) _ _ _ _ _ _) | with_reducible exact below_six hb06 (Nat.le_of_eq hq) _ _ _ _ _ _⟩
                  | true =>
                    have hND := hide (Nd.three hN hnv)
                    clear hN hnB hnv
                    go_wp2_with (go_at_call 21; (with_reducible refine (hNu _ (hS _ hbR)).mono ?_); rintro e w4 ⟨rfl, hb4⟩; have hA4 := hAR.below hb4 hAR.lt; have hB4 := hBR.below hb4 hBR.lt; have hD4 := hDR.below hb4 hDR.lt; have hP4 := hPR.below hb4 hPR.lt; have hZ4 := hZR.below hb4; have kc4 := hB4.cell; have kf4 := hB4.frozen; have ka4 := hA4.cell; have kb4 := hA4.frozen; have hb04 := hbR.trans (hb4.mono hqR))
                    go_roundw
                    case rel =>
                      have hB6 : Blk (w4.setCell ⟨q + 1, 4, none⟩ (.int .i64 v)) (q + 1) 27 #[.int .i64 (k : Int), (.slice Au rs.length cu), .int .i64 a, .int .i64 b, .int .i64 v, .bool true] := hB4.set_ 4 _
                      exact ⟨2 + 1, a, b, v, true, by omega, by go_num, rfl, hND.out, hb04.setCell (Nat.le_succ q) _, hA4.far (p := ⟨q + 1, 4, none⟩) (Nat.ne_of_lt (Nat.lt_succ_self q)) _, hB6, hD4.far (p := ⟨q + 1, 4, none⟩) hgq _, hP4.far (p := ⟨q + 1, 4, none⟩) hgq1 _, rz_set hZ4 hB4 4 _⟩
                    case measure => first | (simp [intOf]; done) | (simp [intOf]; omega)
              · obtain rfl : i = 3 := by omega
                have hR := aright_any ⟨(k : Int), rs, a, b, c, true⟩ (.slice Au rs.length cu) wr hZR ⟨right_oks hrR, by dsimp only; omega, hN.le.1, hN.le.2.1, hN.le.2.2⟩
                have hE : parQ s.data.toList = if rightQ ⟨(k : Int), rs, a, b, c, true⟩ = true then ⟨0, ⟨(k : Int), rs, a, b, c, true⟩⟩ else ⟨90, zeroQ⟩ := q_end (K := 3) (k := k) KQ.out (.inr ⟨rfl, hk0⟩) hw hN
                clear hlt hN
                cases hrq : rightQ ⟨(k : Int), rs, a, b, c, true⟩ with
                | false =>
                  rw [hrq] at hE hR
                  have hO := hide (show parQ s.data.toList = ⟨90, zeroQ⟩ from by rw [hE, if_neg (by decide)])
                  clear hE hrq
                  go_wp2_with (go_at_call 6; (with_reducible refine hR.mono ?_); rintro e w5 ⟨rfl, hb5⟩; have hA5 := hAR.below hb5 hAR.lt; have ka5 := hA5.cell; have kb5 := hA5.frozen; have hb05 := hbR.trans (hb5.mono hqR))
                  refine bodyPost_cell_tmp (g := q) (cs := #[.int .i64 0, .slice none 0 0, .int .i64 0, .int .i64 0, .int .i64 0, .bool false]) Tryd.results7 rfl (by first | with_reducible exact hA5 | with_reducible exact Blk.six hA5) Tryd.underlying27 rfl (by kernel_rfl) rfl ⟨⟨.slice none 0 0, by rw [hO.out]; rfl, by rw [hO.out]; exact Rz.nil _⟩, by first | with_reducible exact hb05 | (rw [hq]; with_reducible exact hb05) | (rw [hq]; with_reducible exact below_six hb05 (Nat.le_refl _) _ _ _ _ _ _) | with_reducible exact below_six hb05 (Nat.le_of_eq hq) _ _ _ _ _ _⟩
                | true =>
                  rw [hrq] at hE hR
                  have hO := hide (show parQ s.data.toList = ⟨0, ⟨(k : Int), rs, a, b, c, true⟩⟩ from by rw [hE, if_pos rfl])
                  clear hE hrq
                  go_wp2_with (go_at_call 6; (with_reducible refine hR.mono ?_); rintro e w5 ⟨rfl, hb5⟩; have hA5 := hAR.below hb5 hAR.lt; have hB5 := hBR.below hb5 hBR.lt; have kc5 := hB5.cell; have ka5 := hA5.cell; have kb5 := hA5.frozen; have hb05 := hbR.trans (hb5.mono hqR); have hZ5 := hZR.below hb5)
                  refine bodyPost_cell_tmp (g := q) (cs := #[.int .i64 (k : Int), (.slice Au rs.length cu), .int .i64 a, .int .i64 b, .int .i64 c, .bool true]) Tryd.results7 rfl (by with_reducible exact Blk.six hA5) Tryd.underlying27 rfl (by kernel_rfl) rfl ⟨⟨.slice Au rs.length cu, by rw [hO.out]; rfl, ?_⟩, by (rw [hq]; with_reducible exact below_six hb05 (Nat.le_refl _) _ _ _ _ _ _)⟩
                  rw [hO.out]
                  exact rz_six hZ5 hA5
          · have hO := hide (hbad2 rfl _ _ hw (by first | (rw [if_pos hk0]; exact hM) | (rw [if_neg hk0]; exact hM)))
            have d7 : ((m : Int) != 3) = true := by simp; omega
            clear hwd hbad2 hgood KL KQ KS KS2 hw hxe hnb hbad1 hm hn hM
            go_wp2_with (first
              | (go_at_call 18; (with_reducible refine (hMP _ (hS _ hbU).sg).mono ?_); rintro e w1 ⟨⟨u, rfl, hZ⟩, hb1⟩; obtain ⟨Au, cu, rfl⟩ := hZ.shape; have hA1 := hAU.below hb1 hAU.lt; have hB1 := hBU.below hb1 hBU.lt; have kf1 := hB1.frozen; have kc1 := hB1.cell; have kg1 := hA1.frozen; have kd1 := hA1.cell; have hb01 := hbU.trans (hb1.mono hqU); have hl1 := hB1.lt; have hl2 : q + 1 < w1.heap.size + 1 := Nat.lt_succ_of_lt hl1; have hl3 : q + 1 < w1.heap.size + 1 + 1 := Nat.lt_succ_of_lt hl2; have hl4 := hA1.lt; have hl5 : q < w1.heap.size + 1 := Nat.lt_succ_of_lt hl4; have hne1 : ¬ (q + 1 = w1.heap.size) := Nat.ne_of_lt hl1; have hne2 : ¬ (q = w1.heap.size) := Nat.ne_of_lt hl4)
              | (go_at_call 19; (with_reducible refine (hCP _).mono ?_); rintro e w2 ⟨rfl, rfl⟩)
              | (go_at_call 20; (with_reducible refine (hSp _ (hS _ (hb01.setCell (Nat.le_succ q) _))).mono ?_); rintro e w3 ⟨rfl, rfl⟩))
            have hU1 : Blk (w1.setCell ⟨q + 1, 1, none⟩ (.slice Au rs.length cu)) (q + 1) 27 #[.int .i64 (k : Int), (.slice Au rs.length cu), .int .i64 0, .int .i64 0, .int .i64 0, .bool false] := hB1.set_ 1 _
            have hD1 := Blk.new (w1.setCell ⟨q + 1, 1, none⟩ (.slice Au rs.length cu)) 9 LV
            rw [World.size_setCell] at hD1
            refine abstr (fun V => Below q w V ∧ Blk V q 27 #[.int .i64 0, .slice none 0 0, .int .i64 0, .int .i64 0, .int .i64 0, .bool false] ∧ Blk V (q + 1) 27 #[.int .i64 (k : Int), (.slice Au rs.length cu), .int .i64 0, .int .i64 0, .int .i64 0, .bool false] ∧ Blk V w1.heap.size 9 LV ∧ Rz V (.slice Au rs.length cu) rs)
              ⟨(hb01.setCell (Nat.le_succ q) _).alloc (by rw [World.size_setCell]; omega) _, (hA1.far (p := ⟨q + 1, 1, none⟩) (Nat.ne_of_lt (Nat.lt_succ_self q)) _).alloc _, hU1.alloc _, hD1, (rz_set hZ hB1 1 _).alloc _⟩ (fun V hV => ?_)
            have hgq : w1.heap.size ≠ q + 1 := by omega
            clear hA1 hB1 kf1 kc1 kg1 kd1 hb01 hl1 hl2 hl3 hl4 hl5 hne1 hne2 hZ hb1 hU1 hD1
            generalize w1.heap.size = g at *
            obtain ⟨hbV, hAV, hBV, hDV, hZV⟩ := hV
            have kc1 := hBV.cell
            have kf1 := hBV.frozen
            refine wp_region_only (q + 1) [4] [0, 1, 2, 3, 5] [(true, false, 0), (true, false, 1), (true, false, 2), (true, false, 3), (true, true, 4), (true, false, 5), (false, true, 6), (false, false, 7)] (by kernel_rfl) (by kernel_rfl) (fun Y => ?_); simp only [List.map_cons, List.map_nil, List.getD_cons_zero, List.getD_cons_succ]
            (repeat (first | (refine wfp fun K hK => ?_; go_simp; refine hK _ _ ?_; clear hK K) | (refine wff fun K hK => ?_; go_simp; refine hK _ _ ?_; clear hK K)))
            have wi : IntKind.i64.wrap (m : Int) = m := by rw [IntKind.wrap_i64]; omega
            (refine first_read rfl (v := .slice (some ⟨g, 0, none⟩) m (m + 1)) (fun w' hw' => ?_) (fun K hK => ?_); rotate_left 1; go_simp; refine hK _ _ ?_; clear hK K; rotate_left 1; focus (go_simp <;> (rw [if_pos (by omega)]; exact ⟨rfl, rfl⟩)))
            have hBY := hBV.ext Y
            have kcY := hBY.cell
            have kfY := hBY.frozen
            (repeat (first | (refine wfp fun K hK => ?_; go_simp; refine hK _ _ ?_; clear hK K) | (refine wff fun K hK => ?_; go_simp; refine hK _ _ ?_; clear hK K)))
            refine First.wpF_must (fun K hK => ?_)
            go_wp2
            (refine hK _ _ (fun hnd => by first | exact Bool.noConfusion hnd | exact Only.refl _ _ | ((repeat (refine Only.set_ ?_ (.inl rfl) _)); exact Only.refl _ _)) ?_; clear hK K)
            refine First.wpF_must (fun K hK => ?_)
            go_wp2
            (refine hK _ _ (fun hnd => by first | exact Bool.noConfusion hnd | exact Only.refl _ _ | ((repeat (refine Only.set_ ?_ (.inl rfl) _)); exact Only.refl _ _)) ?_; clear hK K)
            refine First.wpF_nil ?_
            refine abstr (fun Z => Below q w Z ∧ Blk Z q 27 #[.int .i64 0, .slice none 0 0, .int .i64 0, .int .i64 0, .int .i64 0, .bool false] ∧ Blk Z (q + 1) 27 #[.int .i64 (k : Int), (.slice Au rs.length cu), .int .i64 0, .int .i64 0, .int .i64 0, .bool true] ∧ Blk Z g 9 LV ∧ Rz Z (.slice Au rs.length cu) rs)
              ⟨(hbV.trans ((World.below_ext V Y).mono (by rw [← hq]; exact hbV.size))).setCell (Nat.le_succ q) _, (hAV.ext Y).far (p := ⟨q + 1, 5, none⟩) (Nat.ne_of_lt (Nat.lt_succ_self q)) _, hBY.set_ 5 _, (hDV.ext Y).far (p := ⟨q + 1, 5, none⟩) hgq _, rz_set (hZV.ext Y) hBY 5 _⟩ (fun Z hZ9 => ?_)
            clear hbV hAV hBV hDV hZV hBY kcY kfY kc1 kf1
            obtain ⟨hbF, hF1, hBZ, hDZ, hZZ⟩ := hZ9
            have kc2 := hBZ.cell
            have kf2 := hBZ.frozen
            have kg2 := hF1.cell
            have kh2 := hF1.frozen
            have hl1 := hBZ.lt
            have hl2 := hF1.lt
            go_wp2
            have hB6 := (Blk.six (u0 := .int .i64 0) (u1 := .slice none 0 0) (u2 := .int .i64 0) (u3 := .int .i64 0) (u4 := .int .i64 0) (u5 := .bool false) hF1).alloc (.cells #[.pointer (some ⟨q + 1, 2, none⟩), .pointer (some ⟨q + 1, 3, none⟩), .pointer (some ⟨q + 1, 4, none⟩)] 52)
            refine bodyPost_cell_tmp (g := q) (cs := #[.int .i64 0, .slice none 0 0, .int .i64 0, .int .i64 0, .int .i64 0, .bool false]) Tryd.results7 rfl hB6 Tryd.underlying27 rfl (by kernel_rfl) rfl ⟨⟨.slice none 0 0, by rw [hO.out]; rfl, by rw [hO.out]; exact Rz.nil _⟩, ?_⟩
            rw [hq]
            refine Below.alloc (below_six hbF (Nat.le_refl _) _ _ _ _ _ _) ?_ _ <;> (simp only [World.size_alloc, World.size_setCell, World.size_ext]; omega)
    · have hw := hwd.2 hnb
      have hx1 : (x.toList == [110, 111, 116, 101, 115]) = false := by rw [hxe]; exact decide_eq_false hnb
      cases ok with
      | false =>
        have hO := hide (hbad1 rfl)
        clear hwd hbad2 hgood KL KQ KS KS2 hw hxe hnb hbad1 hm hn
        by_cases hk0 : k = 0
        · subst hk0
          go_wp2_with (first
            | (go_at_call 18; (with_reducible refine (hMP _ (hS _ hbU).sg).mono ?_); rintro e w1 ⟨⟨u, rfl, hZ⟩, hb1⟩; obtain ⟨Au, cu, rfl⟩ := hZ.shape; have hA1 := hAU.below hb1 hAU.lt; have hB1 := hBU.below hb1 hBU.lt; have kf1 := hB1.frozen; have kc1 := hB1.cell; have kg1 := hA1.frozen; have kd1 := hA1.cell; have hb01 := hbU.trans (hb1.mono hqU); have hl1 := hB1.lt; have hl2 : q + 1 < w1.heap.size + 1 := Nat.lt_succ_of_lt hl1; have hl3 : q + 1 < w1.heap.size + 1 + 1 := Nat.lt_succ_of_lt hl2; have hl4 := hA1.lt; have hl5 : q < w1.heap.size + 1 := Nat.lt_succ_of_lt hl4; have hne1 : ¬ (q + 1 = w1.heap.size) := Nat.ne_of_lt hl1; have hne2 : ¬ (q = w1.heap.size) := Nat.ne_of_lt hl4)
            | (go_at_call 19; (with_reducible refine (hCP _).mono ?_); rintro e w2 ⟨rfl, rfl⟩)
            | (go_at_call 20; (with_reducible refine (hSp _ (hS _ (hb01.setCell (Nat.le_succ q) _))).mono ?_); rintro e w3 ⟨rfl, rfl⟩))
          have hF1 := (hA1.far (p := ⟨q + 1, 1, none⟩) (Nat.ne_of_lt (Nat.lt_succ_self q)) (.slice Au rs.length cu))
          have hbF := hb01.setCell (p := ⟨q + 1, 1, none⟩) (Nat.le_succ q) (.slice Au rs.length cu)
          have hB6 := ((Blk.six (u0 := .int .i64 0) (u1 := .slice none 0 0) (u2 := .int .i64 0) (u3 := .int .i64 0) (u4 := .int .i64 0) (u5 := .bool false) hF1).alloc (.cells LV 9)).alloc (.cells #[.pointer (some ⟨q + 1, 2, none⟩), .pointer (some ⟨q + 1, 3, none⟩), .pointer (some ⟨q + 1, 4, none⟩)] 52)
          refine bodyPost_cell_tmp (g := q) (cs := #[.int .i64 0, .slice none 0 0, .int .i64 0, .int .i64 0, .int .i64 0, .bool false]) Tryd.results7 rfl hB6 Tryd.underlying27 rfl (by kernel_rfl) rfl ⟨⟨.slice none 0 0, by rw [hO.out]; rfl, by rw [hO.out]; exact Rz.nil _⟩, ?_⟩
          rw [hq]
          refine Below.alloc (Below.alloc (below_six hbF (Nat.le_refl _) _ _ _ _ _ _) ?_ _) ?_ _ <;> (simp only [World.size_alloc, World.size_setCell]; omega)
        · have d9 : ((k : Int) == 0) = false := by simpa using hk0
          go_wp2_with (first
            | (go_at_call 18; (with_reducible refine (hMP _ (hS _ hbU).sg).mono ?_); rintro e w1 ⟨⟨u, rfl, hZ⟩, hb1⟩; obtain ⟨Au, cu, rfl⟩ := hZ.shape; have hA1 := hAU.below hb1 hAU.lt; have hB1 := hBU.below hb1 hBU.lt; have kf1 := hB1.frozen; have kc1 := hB1.cell; have kg1 := hA1.frozen; have kd1 := hA1.cell; have hb01 := hbU.trans (hb1.mono hqU); have hl1 := hB1.lt; have hl2 : q + 1 < w1.heap.size + 1 := Nat.lt_succ_of_lt hl1; have hl3 : q + 1 < w1.heap.size + 1 + 1 := Nat.lt_succ_of_lt hl2; have hl4 := hA1.lt; have hl5 : q < w1.heap.size + 1 := Nat.lt_succ_of_lt hl4; have hne1 : ¬ (q + 1 = w1.heap.size) := Nat.ne_of_lt hl1; have hne2 : ¬ (q = w1.heap.size) := Nat.ne_of_lt hl4)
            | (go_at_call 19; (with_reducible refine (hCP _).mono ?_); rintro e w2 ⟨rfl, rfl⟩)
            | (go_at_call 20; (with_reducible refine (hSp _ (hS _ (hb01.setCell (Nat.le_succ q) _))).mono ?_); rintro e w3 ⟨rfl, rfl⟩))
          have hF1 := (hA1.far (p := ⟨q + 1, 1, none⟩) (Nat.ne_of_lt (Nat.lt_succ_self q)) (.slice Au rs.length cu))
          have hbF := hb01.setCell (p := ⟨q + 1, 1, none⟩) (Nat.le_succ q) (.slice Au rs.length cu)
          have hB6 := ((Blk.six (u0 := .int .i64 0) (u1 := .slice none 0 0) (u2 := .int .i64 0) (u3 := .int .i64 0) (u4 := .int .i64 0) (u5 := .bool false) hF1).alloc (.cells LV 9)).alloc (.cells #[.pointer (some ⟨q + 1, 2, none⟩), .pointer (some ⟨q + 1, 3, none⟩), .pointer (some ⟨q + 1, 4, none⟩)] 52)
          refine bodyPost_cell_tmp (g := q) (cs := #[.int .i64 0, .slice none 0 0, .int .i64 0, .int .i64 0, .int .i64 0, .bool false]) Tryd.results7 rfl hB6 Tryd.underlying27 rfl (by kernel_rfl) rfl ⟨⟨.slice none 0 0, by rw [hO.out]; rfl, by rw [hO.out]; exact Rz.nil _⟩, ?_⟩
          rw [hq]
          refine Below.alloc (Below.alloc (below_six hbF (Nat.le_refl _) _ _ _ _ _ _) ?_ _) ?_ _ <;> (simp only [World.size_alloc, World.size_setCell]; omega)
      | true =>
        by_cases hk0 : k = 0
        · by_cases hM : m + 1 = 2
          · obtain rfl : m = 1 := by omega
            subst hk0
            have hQ2 := KQ.out
            rw [hgood rfl, if_pos rfl] at hQ2
            have KQ3 := hide hQ2
            clear KQ
            have KQ := KQ3
            clear hwd hbad2 hbad1 hgood hxe hnb hn hM hQ2 KQ3
            go_wp2_with (first
              | (go_at_call 18; (with_reducible refine (hMP _ (hS _ hbU).sg).mono ?_); rintro e w1 ⟨⟨u, rfl, hZ⟩, hb1⟩; obtain ⟨Au, cu, rfl⟩ := hZ.shape; have hA1 := hAU.below hb1 hAU.lt; have hB1 := hBU.below hb1 hBU.lt; have kf1 := hB1.frozen; have kc1 := hB1.cell; have kg1 := hA1.frozen; have kd1 := hA1.cell; have hb01 := hbU.trans (hb1.mono hqU); have hl1 := hB1.lt; have hl2 : q + 1 < w1.heap.size + 1 := Nat.lt_succ_of_lt hl1; have hl3 : q + 1 < w1.heap.size + 1 + 1 := Nat.lt_succ_of_lt hl2; have hl4 := hA1.lt; have hl5 : q < w1.heap.size + 1 := Nat.lt_succ_of_lt hl4; have hne1 : ¬ (q + 1 = w1.heap.size) := Nat.ne_of_lt hl1; have hne2 : ¬ (q = w1.heap.size) := Nat.ne_of_lt hl4)
              | (go_at_call 19; (with_reducible refine (hCP _).mono ?_); rintro e w2 ⟨rfl, rfl⟩)
              | (go_at_call 20; (with_reducible refine (hSp _ (hS _ (hb01.setCell (Nat.le_succ q) _))).mono ?_); rintro e w3 ⟨rfl, rfl⟩))
            have hU1 : Blk (w1.setCell ⟨q + 1, 1, none⟩ (.slice Au rs.length cu)) (q + 1) 27 #[.int .i64 0, (.slice Au rs.length cu), .int .i64 0, .int .i64 0, .int .i64 0, .bool false] := hB1.set_ 1 _
            have hD1 := Blk.new (w1.setCell ⟨q + 1, 1, none⟩ (.slice Au rs.length cu)) 9 LV
            rw [World.size_setCell] at hD1
            have hP1 := Blk.new ((w1.setCell ⟨q + 1, 1, none⟩ (.slice Au rs.length cu)).alloc (.cells LV 9)) 52 #[.pointer (some ⟨q + 1, 2, none⟩), .pointer (some ⟨q + 1, 3, none⟩), .pointer (some ⟨q + 1, 4, none⟩)]
            rw [World.size_alloc, World.size_setCell] at hP1
            have hbS := ((hb01.setCell (p := ⟨q + 1, 1, none⟩) (Nat.le_succ q) (.slice Au rs.length cu)).alloc (o := .cells LV 9) (by rw [World.size_setCell]; omega)).alloc (o := .cells #[.pointer (some ⟨q + 1, 2, none⟩), .pointer (some ⟨q + 1, 3, none⟩), .pointer (some ⟨q + 1, 4, none⟩)] 52) (by rw [World.size_alloc, World.size_setCell]; omega)
            refine abstr (fun V => Below q w V ∧ Blk V q 27 #[.int .i64 0, .slice none 0 0, .int .i64 0, .int .i64 0, .int .i64 0, .bool false] ∧ Blk V (q + 1) 27 #[.int .i64 0, (.slice Au rs.length cu), .int .i64 0, .int .i64 0, .int .i64 0, .bool false] ∧ Blk V w1.heap.size 9 LV ∧ Blk V (w1.heap.size + 1) 52 #[.pointer (some ⟨q + 1, 2, none⟩), .pointer (some ⟨q + 1, 3, none⟩), .pointer (some ⟨q + 1, 4, none⟩)] ∧ Rz V (.slice Au rs.length cu) rs)
              ⟨hbS, ((hA1.far (p := ⟨q + 1, 1, none⟩) (Nat.ne_of_lt (Nat.lt_succ_self q)) _).alloc _).alloc _, (hU1.alloc _).alloc _, hD1.alloc _, hP1, ((rz_set hZ hB1 1 _).alloc _).alloc _⟩ (fun V hV => ?_)
            have hgq : w1.heap.size ≠ q + 1 := by omega
            have hgq1 : w1.heap.size + 1 ≠ q + 1 := by omega
            clear hA1 hB1 kf1 kc1 kg1 kd1 hb01 hl1 hl2 hl3 hl4 hl5 hne1 hne2 hZ hb1 hU1 hD1 hP1 hbS
            generalize w1.heap.size = g at *
            obtain ⟨hbV, hAV, hBV, hDV, hPV, hZV⟩ := hV
            go_loopw [95, 9] (fun s95 s9 wr => ∃ (i : Nat) (a b c : Int) (bo : Bool), i ≤ 2 ∧ s95 = .int .i64 (i : Int) ∧ s9 = .bool bo ∧ Nd L i a b c ∧ Below q w wr ∧ Blk wr q 27 #[.int .i64 0, .slice none 0 0, .int .i64 0, .int .i64 0, .int .i64 0, .bool false] ∧ Blk wr (q + 1) 27 #[.int .i64 0, (.slice Au rs.length cu), .int .i64 a, .int .i64 b, .int .i64 c, .bool false] ∧ Blk wr g 9 LV ∧ Blk wr (g + 1) 52 #[.pointer (some ⟨q + 1, 2, none⟩), .pointer (some ⟨q + 1, 3, none⟩), .pointer (some ⟨q + 1, 4, none⟩)] ∧ Rz wr (.slice Au rs.length cu) rs) (fun s95 _ _ => (2 - intOf s95).toNat)
            case atStart => exact ⟨0, 0, 0, 0, true, by omega, rfl, rfl, Nd.zero L, hbV, hAV, hBV, hDV, hPV, hZV⟩
            case round =>
              clear hbV hAV hBV hDV hPV hZV
              obtain ⟨i, a, b, c, bo, hi, rfl, rfl, hN, hbR, hAR, hBR, hDR, hPR, hZR⟩ := hrel
              have kc := hBR.cell
              have kf := hBR.frozen
              have ka := hAR.cell
              have kb := hAR.frozen
              have kd := hDR.cell
              have kp := hPR.cell
              have hqR : q ≤ wr.heap.size := by rw [← hq]; exact hbR.size
              by_cases hlt : i < 2
              · have hi3 : i = 0 ∨ i = 1 := by omega
                have hii : (i : Int) < 2 := by omega
                clear hlt
                rcases hi3 with rfl | rfl
                · obtain rfl : a = 0 := hN.2.1
                  obtain rfl : b = 0 := hN.2.2.1
                  obtain rfl : c = 0 := hN.2.2.2
                  obtain ⟨y, hy⟩ : ∃ y, L[0]? = some y := ⟨_, List.getElem?_eq_getElem (by have := KL.out.2.2.1; omega)⟩
                  have hcy : LV[0]? = some (.string y) := by rw [← hLV]; simp [hy]
                  have hNu := fun W hW => anum_any y (by have := KL.out.2.1 y (List.mem_of_getElem? hy); have := KR.out; omega) W hW
                  have hnB : nB L 0 = intP y.data.toList := by unfold nB; rw [List.getD_eq_getElem?_getD, hy]; rfl
                  rw [← hnB] at hNu
                  obtain ⟨⟨v, bb⟩, hnv⟩ : ∃ p, nB L 0 = p := ⟨_, rfl⟩
                  rw [hnv] at hNu
                  dsimp only at hNu
                  cases bb with
                  | false =>
                    have hO := hide (q_fail (K := 2) (k := 0) KQ.out (.inl ⟨rfl, rfl⟩) hw (j := 0) (by omega) (by rw [hnv]))
                    clear hN hnB hnv
                    go_wp2_with (go_at_call 21; (with_reducible refine (hNu _ (hS _ hbR)).mono ?_); rintro e w4 ⟨rfl, hb4⟩; have hA4 := hAR.below hb4 hAR.lt; have hB4 := hBR.below hb4 hBR.lt; have kc4 := hB4.cell; have kf4 := hB4.frozen; have ka4 := hA4.cell; have kb4 := hA4.frozen; have hb04 := hbR.trans (hb4.mono hqR))
                    have hA6 := hA4.far (p := ⟨q + 1, 2, none⟩) (Nat.ne_of_lt (Nat.lt_succ_self q)) (.int .i64 v)
                    have hb06 := hb04.setCell (p := ⟨q + 1, 2, none⟩) (Nat.le_succ q) (.int .i64 v)
                    refine bodyPost_cell_tmp (g := q) (cs := #[.int .i64 0, .slice none 0 0, .int .i64 0, .int .i64 0, .int .i64 0, .bool false]) Tryd.results7 rfl (by first | with_reducible exact hA6 | with_reducible exact Blk.six hA6) Tryd.underlying27 rfl (by kernel_rfl) rfl ⟨⟨.slice none 0 0, by rw [hO.out]; rfl, by rw [hO.out]; exact Rz.nil _⟩, by first | with_reducible exact hb06 | (rw [hq]; with_reducible exact hb06) | (rw [hq]; with_reducible exact below_six hb06 (Nat.le_refl _) _ _ _ _ _ _) | with_reducible exact below_six hb06 (Nat.le_of_eq hq) _ _ _ _ _ _⟩
                  | true =>
                    have hND := hide (Nd.one hnv)
                    clear hN hnB hnv
                    go_wp2_with (go_at_call 21; (with_reducible refine (hNu _ (hS _ hbR)).mono ?_); rintro e w4 ⟨rfl, hb4⟩; have hA4 := hAR.below hb4 hAR.lt; have hB4 := hBR.below hb4 hBR.lt; have hD4 := hDR.below hb4 hDR.lt; have hP4 := hPR.below hb4 hPR.lt; have hZ4 := hZR.below hb4; have kc4 := hB4.cell; have kf4 := hB4.frozen; have ka4 := hA4.cell; have kb4 := hA4.frozen; have hb04 := hbR.trans (hb4.mono hqR))
                    go_roundw
                    case rel =>
                      have hB6 : Blk (w4.setCell ⟨q + 1, 2, none⟩ (.int .i64 v)) (q + 1) 27 #[.int .i64 0, (.slice Au rs.length cu), .int .i64 v, .int .i64 0, .int .i64 0, .bool false] := hB4.set_ 2 _
                      exact ⟨0 + 1, v, 0, 0, true, by omega, by go_num, rfl, hND.out, hb04.setCell (Nat.le_succ q) _, hA4.far (p := ⟨q + 1, 2, none⟩) (Nat.ne_of_lt (Nat.lt_succ_self q)) _, hB6, hD4.far (p := ⟨q + 1, 2, none⟩) hgq _, hP4.far (p := ⟨q + 1, 2, none⟩) hgq1 _, rz_set hZ4 hB4 2 _⟩
                    case measure => first | (simp [intOf]; done) | (simp [intOf]; omega)
                · obtain rfl : b = 0 := hN.2.2.1
                  obtain rfl : c = 0 := hN.2.2.2
                  have hy : L[1]? = some x := hxm
                  have hcy := hcx
                  have hNu := fun W hW => anum_any x (by have := KL.out.2.1 x (List.mem_of_getElem? hy); have := KR.out; omega) W hW
                  have hnB : nB L 1 = intP x.data.toList := by unfold nB; rw [List.getD_eq_getElem?_getD, hy]; rfl
                  rw [← hnB] at hNu
                  obtain ⟨⟨v, bb⟩, hnv⟩ : ∃ p, nB L 1 = p := ⟨_, rfl⟩
                  rw [hnv] at hNu
                  dsimp only at hNu
                  cases bb with
                  | false =>
                    have hO := hide (q_fail (K := 2) (k := 0) KQ.out (.inl ⟨rfl, rfl⟩) hw (j := 1) (by omega) (by rw [hnv]))
                    clear hN hnB hnv
                    go_wp2_with (go_at_call 21; (with_reducible refine (hNu _ (hS _ hbR)).mono ?_); rintro e w4 ⟨rfl, hb4⟩; have hA4 := hAR.below hb4 hAR.lt; have hB4 := hBR.below hb4 hBR.lt; have kc4 := hB4.cell; have kf4 := hB4.frozen; have ka4 := hA4.cell; have kb4 := hA4.frozen; have hb04 := hbR.trans (hb4.mono hqR))
                    have hA6 := hA4.far (p := ⟨q + 1, 3, none⟩) (Nat.ne_of_lt (Nat.lt_succ_self q)) (.int .i64 v)
                    have hb06 := hb04.setCell (p := ⟨q + 1, 3, none⟩) (Nat.le_succ q) (.int .i64 v)
                    refine bodyPost_cell_tmp (g := q) (cs := #[.int .i64 0, .slice none 0 0, .int .i64 0, .int .i64 0, .int .i64 0, .bool false]) Tryd.results7 rfl (by first | with_reducible exact hA6 | with_reducible exact Blk.six hA6) Tryd.underlying27 rfl (by kernel_rfl) rfl ⟨⟨.slice none 0 0, by rw [hO.out]; rfl, by rw [hO.out]; exact Rz.nil _⟩, by first | with_reducible exact hb06 | (rw [hq]; with_reducible exact hb06) | (rw [hq]; with_reducible exact below_six hb06 (Nat.le_refl _) _ _ _ _ _ _) | with_reducible exact below_six hb06 (Nat.le_of_eq hq) _ _ _ _ _ _⟩
                  | true =>
                    have hND := hide (Nd.two hN hnv)
                    clear hN hnB hnv
                    go_wp2_with (go_at_call 21; (with_reducible refine (hNu _ (hS _ hbR)).mono ?_); rintro e w4 ⟨rfl, hb4⟩; have hA4 := hAR.below hb4 hAR.lt; have hB4 := hBR.below hb4 hBR.lt; have hD4 := hDR.below hb4 hDR.lt; have hP4 := hPR.below hb4 hPR.lt; have hZ4 := hZR.below hb4; have kc4 := hB4.cell; have kf4 := hB4.frozen; have ka4 := hA4.cell; have kb4 := hA4.frozen; have hb04 := hbR.trans (hb4.mono hqR))
                    go_roundw
                    case rel =>
                      have hB6 : Blk (w4.setCell ⟨q + 1, 3, none⟩ (.int .i64 v)) (q + 1) 27 #[.int .i64 0, (.slice Au rs.length cu), .int .i64 a, .int .i64 v, .int .i64 0, .bool false] := hB4.set_ 3 _
                      exact ⟨1 + 1, a, v, 0, true, by omega, by go_num, rfl, hND.out, hb04.setCell (Nat.le_succ q) _, hA4.far (p := ⟨q + 1, 3, none⟩) (Nat.ne_of_lt (Nat.lt_succ_self q)) _, hB6, hD4.far (p := ⟨q + 1, 3, none⟩) hgq _, hP4.far (p := ⟨q + 1, 3, none⟩) hgq1 _, rz_set hZ4 hB4 3 _⟩
                    case measure => first | (simp [intOf]; done) | (simp [intOf]; omega)
              · obtain rfl : i = 2 := by omega
                have hR := aright_any ⟨0, rs, a, b, c, false⟩ (.slice Au rs.length cu) wr hZR ⟨right_oks hrR, by dsimp only; omega, hN.le.1, hN.le.2.1, hN.le.2.2⟩
                have hE : parQ s.data.toList = if rightQ ⟨0, rs, a, b, c, false⟩ = true then ⟨0, ⟨0, rs, a, b, c, false⟩⟩ else ⟨90, zeroQ⟩ := q_end (K := 2) (k := 0) KQ.out (.inl ⟨rfl, rfl⟩) hw hN
                clear hlt hN
                cases hrq : rightQ ⟨0, rs, a, b, c, false⟩ with
                | false =>
                  rw [hrq] at hE hR
                  have hO := hide (show parQ s.data.toList = ⟨90, zeroQ⟩ from by rw [hE, if_neg (by decide)])
                  clear hE hrq
                  go_wp2_with (go_at_call 6; (with_reducible refine hR.mono ?_); rintro e w5 ⟨rfl, hb5⟩; have hA5 := hAR.below hb5 hAR.lt; have ka5 := hA5.cell; have kb5 := hA5.frozen; have hb05 := hbR.trans (hb5.mono hqR))
                  refine bodyPost_cell_tmp (g := q) (cs := #[.int .i64 0, .slice none 0 0, .int .i64 0, .int .i64 0, .int .i64 0, .bool false]) Tryd.results7 rfl (by first | with_reducible exact hA5 | with_reducible exact Blk.six hA5) Tryd.underlying27 rfl (by kernel_rfl) rfl ⟨⟨.slice none 0 0, by rw [hO.out]; rfl, by rw [hO.out]; exact Rz.nil _⟩, by first | with_reducible exact hb05 | (rw [hq]; with_reducible exact hb05) | (rw [hq]; with_reducible exact below_six hb05 (Nat.le_refl _) _ _ _ _ _ _) | with_reducible exact below_six hb05 (Nat.le_of_eq hq) _ _ _ _ _ _⟩
                | true =>
                  rw [hrq] at hE hR
                  have hO := hide (show parQ s.data.toList = ⟨0, ⟨0, rs, a, b, c, false⟩⟩ from by rw [hE, if_pos rfl])
                  clear hE hrq
                  go_wp2_with (go_at_call 6; (with_reducible refine hR.mono ?_); rintro e w5 ⟨rfl, hb5⟩; have hA5 := hAR.below hb5 hAR.lt; have hB5 := hBR.below hb5 hBR.lt; have kc5 := hB5.cell; have ka5 := hA5.cell; have kb5 := hA5.frozen; have hb05 := hbR.trans (hb5.mono hqR); have hZ5 := hZR.below hb5)
                  refine bodyPost_cell_tmp (g := q) (cs := #[.int .i64 0, (.slice Au rs.length cu), .int .i64 a, .int .i64 b, .int .i64 c, .bool false]) Tryd.results7 rfl (by with_reducible exact Blk.six hA5) Tryd.underlying27 rfl (by kernel_rfl) rfl ⟨⟨.slice Au rs.length cu, by rw [hO.out]; rfl, ?_⟩, by (rw [hq]; with_reducible exact below_six hb05 (Nat.le_refl _) _ _ _ _ _ _)⟩
                  rw [hO.out]
                  exact rz_six hZ5 hA5
          · have hO := hide (hbad2 rfl _ _ hw (by first | (rw [if_pos hk0]; exact hM) | (rw [if_neg hk0]; exact hM)))
            have d7 : ((m : Int) + 1 != 2) = true := by simp; omega
            subst hk0
            clear hwd hbad2 hgood KL KQ KS KS2 hw hxe hnb hbad1 hm hn hM
            go_wp2_with (first
              | (go_at_call 18; (with_reducible refine (hMP _ (hS _ hbU).sg).mono ?_); rintro e w1 ⟨⟨u, rfl, hZ⟩, hb1⟩; obtain ⟨Au, cu, rfl⟩ := hZ.shape; have hA1 := hAU.below hb1 hAU.lt; have hB1 := hBU.below hb1 hBU.lt; have kf1 := hB1.frozen; have kc1 := hB1.cell; have kg1 := hA1.frozen; have kd1 := hA1.cell; have hb01 := hbU.trans (hb1.mono hqU); have hl1 := hB1.lt; have hl2 : q + 1 < w1.heap.size + 1 := Nat.lt_succ_of_lt hl1; have hl3 : q + 1 < w1.heap.size + 1 + 1 := Nat.lt_succ_of_lt hl2; have hl4 := hA1.lt; have hl5 : q < w1.heap.size + 1 := Nat.lt_succ_of_lt hl4; have hne1 : ¬ (q + 1 = w1.heap.size) := Nat.ne_of_lt hl1; have hne2 : ¬ (q = w1.heap.size) := Nat.ne_of_lt hl4)
              | (go_at_call 19; (with_reducible refine (hCP _).mono ?_); rintro e w2 ⟨rfl, rfl⟩)
              | (go_at_call 20; (with_reducible refine (hSp _ (hS _ (hb01.setCell (Nat.le_succ q) _))).mono ?_); rintro e w3 ⟨rfl, rfl⟩))
            have hF1 := (hA1.far (p := ⟨q + 1, 1, none⟩) (Nat.ne_of_lt (Nat.lt_succ_self q)) (.slice Au rs.length cu))
            have hbF := hb01.setCell (p := ⟨q + 1, 1, none⟩) (Nat.le_succ q) (.slice Au rs.length cu)
            have hB6 := ((Blk.six (u0 := .int .i64 0) (u1 := .slice none 0 0) (u2 := .int .i64 0) (u3 := .int .i64 0) (u4 := .int .i64 0) (u5 := .bool false) hF1).alloc (.cells LV 9)).alloc (.cells #[.pointer (some ⟨q + 1, 2, none⟩), .pointer (some ⟨q + 1, 3, none⟩), .pointer (some ⟨q + 1, 4, none⟩)] 52)
            refine bodyPost_cell_tmp (g := q) (cs := #[.int .i64 0, .slice none 0 0, .int .i64 0, .int .i64 0, .int .i64 0, .bool false]) Tryd.results7 rfl hB6 Tryd.underlying27 rfl (by kernel_rfl) rfl ⟨⟨.slice none 0 0, by rw [hO.out]; rfl, by rw [hO.out]; exact Rz.nil _⟩, ?_⟩
            rw [hq]
            refine Below.alloc (Below.alloc (below_six hbF (Nat.le_refl _) _ _ _ _ _ _) ?_ _) ?_ _ <;> (simp only [World.size_alloc, World.size_setCell]; omega)
        · have d9 : ((k : Int) == 0) = false := by simpa using hk0
          by_cases hM : m + 1 = 3
          · obtain rfl : m = 2 := by omega
            have hQ2 := KQ.out
            rw [hgood rfl, if_neg hk0] at hQ2
            have KQ3 := hide hQ2
            clear KQ
            have KQ := KQ3
            clear hwd hbad2 hbad1 hgood hxe hnb hn hM hQ2 KQ3
            go_wp2_with (first
              | (go_at_call 18; (with_reducible refine (hMP _ (hS _ hbU).sg).mono ?_); rintro e w1 ⟨⟨u, rfl, hZ⟩, hb1⟩; obtain ⟨Au, cu, rfl⟩ := hZ.shape; have hA1 := hAU.below hb1 hAU.lt; have hB1 := hBU.below hb1 hBU.lt; have kf1 := hB1.frozen; have kc1 := hB1.cell; have kg1 := hA1.frozen; have kd1 := hA1.cell; have hb01 := hbU.trans (hb1.mono hqU); have hl1 := hB1.lt; have hl2 : q + 1 < w1.heap.size + 1 := Nat.lt_succ_of_lt hl1; have hl3 : q + 1 < w1.heap.size + 1 + 1 := Nat.lt_succ_of_lt hl2; have hl4 := hA1.lt; have hl5 : q < w1.heap.size + 1 := Nat.lt_succ_of_lt hl4; have hne1 : ¬ (q + 1 = w1.heap.size) := Nat.ne_of_lt hl1; have hne2 : ¬ (q = w1.heap.size) := Nat.ne_of_lt hl4)
              | (go_at_call 19; (with_reducible refine (hCP _).mono ?_); rintro e w2 ⟨rfl, rfl⟩)
              | (go_at_call 20; (with_reducible refine (hSp _ (hS _ (hb01.setCell (Nat.le_succ q) _))).mono ?_); rintro e w3 ⟨rfl, rfl⟩))
            have hU1 : Blk (w1.setCell ⟨q + 1, 1, none⟩ (.slice Au rs.length cu)) (q + 1) 27 #[.int .i64 (k : Int), (.slice Au rs.length cu), .int .i64 0, .int .i64 0, .int .i64 0, .bool false] := hB1.set_ 1 _
            have hD1 := Blk.new (w1.setCell ⟨q + 1, 1, none⟩ (.slice Au rs.length cu)) 9 LV
            rw [World.size_setCell] at hD1
            have hP1 := Blk.new ((w1.setCell ⟨q + 1, 1, none⟩ (.slice Au rs.length cu)).alloc (.cells LV 9)) 52 #[.pointer (some ⟨q + 1, 2, none⟩), .pointer (some ⟨q + 1, 3, none⟩), .pointer (some ⟨q + 1, 4, none⟩)]
            rw [World.size_alloc, World.size_setCell] at hP1
            have hbS := ((hb01.setCell (p := ⟨q + 1, 1, none⟩) (Nat.le_succ q) (.slice Au rs.length cu)).alloc (o := .cells LV 9) (by rw [World.size_setCell]; omega)).alloc (o := .cells #[.pointer (some ⟨q + 1, 2, none⟩), .pointer (some ⟨q + 1, 3, none⟩), .pointer (some ⟨q + 1, 4, none⟩)] 52) (by rw [World.size_alloc, World.size_setCell]; omega)
            refine abstr (fun V => Below q w V ∧ Blk V q 27 #[.int .i64 0, .slice none 0 0, .int .i64 0, .int .i64 0, .int .i64 0, .bool false] ∧ Blk V (q + 1) 27 #[.int .i64 (k : Int), (.slice Au rs.length cu), .int .i64 0, .int .i64 0, .int .i64 0, .bool false] ∧ Blk V w1.heap.size 9 LV ∧ Blk V (w1.heap.size + 1) 52 #[.pointer (some ⟨q + 1, 2, none⟩), .pointer (some ⟨q + 1, 3, none⟩), .pointer (some ⟨q + 1, 4, none⟩)] ∧ Rz V (.slice Au rs.length cu) rs)
              ⟨hbS, ((hA1.far (p := ⟨q + 1, 1, none⟩) (Nat.ne_of_lt (Nat.lt_succ_self q)) _).alloc _).alloc _, (hU1.alloc _).alloc _, hD1.alloc _, hP1, ((rz_set hZ hB1 1 _).alloc _).alloc _⟩ (fun V hV => ?_)
            have hgq : w1.heap.size ≠ q + 1 := by omega
            have hgq1 : w1.heap.size + 1 ≠ q + 1 := by omega
            clear hA1 hB1 kf1 kc1 kg1 kd1 hb01 hl1 hl2 hl3 hl4 hl5 hne1 hne2 hZ hb1 hU1 hD1 hP1 hbS
            generalize w1.heap.size = g at *
            obtain ⟨hbV, hAV, hBV, hDV, hPV, hZV⟩ := hV
            go_loopw [95, 9] (fun s95 s9 wr => ∃ (i : Nat) (a b c : Int) (bo : Bool), i ≤ 3 ∧ s95 = .int .i64 (i : Int) ∧ s9 = .bool bo ∧ Nd L i a b c ∧ Below q w wr ∧ Blk wr q 27 #[.int .i64 0, .slice none 0 0, .int .i64 0, .int .i64 0, .int .i64 0, .bool false] ∧ Blk wr (q + 1) 27 #[.int .i64 (k : Int), (.slice Au rs.length cu), .int .i64 a, .int .i64 b, .int .i64 c, .bool false] ∧ Blk wr g 9 LV ∧ Blk wr (g + 1) 52 #[.pointer (some ⟨q + 1, 2, none⟩), .pointer (some ⟨q + 1, 3, none⟩), .pointer (some ⟨q + 1, 4, none⟩)] ∧ Rz wr (.slice Au rs.length cu) rs) (fun s95 _ _ => (3 - intOf s95).toNat)
            case atStart => exact ⟨0, 0, 0, 0, true, by omega, rfl, rfl, Nd.zero L, hbV, hAV, hBV, hDV, hPV, hZV⟩
            case round =>
              clear hbV hAV hBV hDV hPV hZV
              obtain ⟨i, a, b, c, bo, hi, rfl, rfl, hN, hbR, hAR, hBR, hDR, hPR, hZR⟩ := hrel
              have kc := hBR.cell
              have kf := hBR.frozen
              have ka := hAR.cell
              have kb := hAR.frozen
              have kd := hDR.cell
              have kp := hPR.cell
              have hqR : q ≤ wr.heap.size := by rw [← hq]; exact hbR.size
              by_cases hlt : i < 3
              · have hi3 : i = 0 ∨ i = 1 ∨ i = 2 := by omega
                have hii : (i : Int) < 3 := by omega
                clear hlt
                rcases hi3 with rfl | rfl | rfl
                · obtain rfl : a = 0 := hN.2.1
                  obtain rfl : b = 0 := hN.2.2.1
                  obtain rfl : c = 0 := hN.2.2.2
                  obtain ⟨y, hy⟩ : ∃ y, L[0]? = some y := ⟨_, List.getElem?_eq_getElem (by have := KL.out.2.2.1; omega)⟩
                  have hcy : LV[0]? = some (.string y) := by rw [← hLV]; simp [hy]
                  have hNu := fun W hW => anum_any y (by have := KL.out.2.1 y (List.mem_of_getElem? hy); have := KR.out; omega) W hW
                  have hnB : nB L 0 = intP y.data.toList := by unfold nB; rw [List.getD_eq_getElem?_getD, hy]; rfl
                  rw [← hnB] at hNu
                  obtain ⟨⟨v, bb⟩, hnv⟩ : ∃ p, nB L 0 = p := ⟨_, rfl⟩
                  rw [hnv] at hNu
                  dsimp only at hNu
                  cases bb with
                  | false =>
                    have hO := hide (q_fail (K := 3) (k := k) KQ.out (.inr ⟨rfl, hk0⟩) hw (j := 0) (by omega) (by rw [hnv]))
                    clear hN hnB hnv
                    go_wp2_with (go_at_call 21; (with_reducible refine (hNu _ (hS _ hbR)).mono ?_); rintro e w4 ⟨rfl, hb4⟩; have hA4 := hAR.below hb4 hAR.lt; have hB4 := hBR.below hb4 hBR.lt; have kc4 := hB4.cell; have kf4 := hB4.frozen; have ka4 := hA4.cell; have kb4 := hA4.frozen; have hb04 := hbR.trans (hb4.mono hqR))
                    have hA6 := hA4.far (p := ⟨q + 1, 2, none⟩) (Nat.ne_of_lt (Nat.lt_succ_self q)) (.int .i64 v)
                    have hb06 := hb04.setCell (p := ⟨q + 1, 2, none⟩) (Nat.le_succ q) (.int .i64 v)
                    refine bodyPost_cell_tmp (g := q) (cs := #[.int .i64 0, .slice none 0 0, .int .i64 0, .int .i64 0, .int .i64 0, .bool false]) Tryd.results7 rfl (by first | with_reducible exact hA6 | with_reducible exact Blk.six hA6) Tryd.underlying27 rfl (by kernel_rfl) rfl ⟨⟨.slice none 0 0, by rw [hO.out]; rfl, by rw [hO.out]; exact Rz.nil _⟩, by first | with_reducible exact hb06 | (rw [hq]; with_reducible exact hb06) | (rw [hq]; with_reducible exact below_six hb06 (Nat.le_refl _) _ _ _ _ _ _) | with_reducible exact below_six hb06 (Nat.le_of_eq hq) _ _ _ _ _ _⟩
                  | true =>
                    have hND := hide (Nd.one hnv)
                    clear hN hnB hnv
                    go_wp2_with (go_at_call 21; (with_reducible refine (hNu _ (hS _ hbR)).mono ?_); rintro e w4 ⟨rfl, hb4⟩; have hA4 := hAR.below hb4 hAR.lt; have hB4 := hBR.below hb4 hBR.lt; have hD4 := hDR.below hb4 hDR.lt; have hP4 := hPR.below hb4 hPR.lt; have hZ4 := hZR.below hb4; have kc4 := hB4.cell; have kf4 := hB4.frozen; have ka4 := hA4.cell; have kb4 := hA4.frozen; have hb04 := hbR.trans (hb4.mono hqR))
                    go_roundw
                    case rel =>
                      have hB6 : Blk (w4.setCell ⟨q + 1, 2, none⟩ (.int .i64 v)) (q + 1) 27 #[.int .i64 (k : Int), (.slice Au rs.length cu), .int .i64 v, .int .i64 0, .int .i64 0, .bool false] := hB4.set_ 2 _
                      exact ⟨0 + 1, v, 0, 0, true, by omega, by go_num, rfl, hND.out, hb04.setCell (Nat.le_succ q) _, hA4.far (p := ⟨q + 1, 2, none⟩) (Nat.ne_of_lt (Nat.lt_succ_self q)) _, hB6, hD4.far (p := ⟨q + 1, 2, none⟩) hgq _, hP4.far (p := ⟨q + 1, 2, none⟩) hgq1 _, rz_set hZ4 hB4 2 _⟩
                    case measure => first | (simp [intOf]; done) | (simp [intOf]; omega)
                · obtain rfl : b = 0 := hN.2.2.1
                  obtain rfl : c = 0 := hN.2.2.2
                  obtain ⟨y, hy⟩ : ∃ y, L[1]? = some y := ⟨_, List.getElem?_eq_getElem (by have := KL.out.2.2.1; omega)⟩
                  have hcy : LV[1]? = some (.string y) := by rw [← hLV]; simp [hy]
                  have hNu := fun W hW => anum_any y (by have := KL.out.2.1 y (List.mem_of_getElem? hy); have := KR.out; omega) W hW
                  have hnB : nB L 1 = intP y.data.toList := by unfold nB; rw [List.getD_eq_getElem?_getD, hy]; rfl
                  rw [← hnB] at hNu
                  obtain ⟨⟨v, bb⟩, hnv⟩ : ∃ p, nB L 1 = p := ⟨_, rfl⟩
                  rw [hnv] at hNu
                  dsimp only at hNu
                  cases bb with
                  | false =>
                    have hO := hide (q_fail (K := 3) (k := k) KQ.out (.inr ⟨rfl, hk0⟩) hw (j := 1) (by omega) (by rw [hnv]))
                    clear hN hnB hnv
                    go_wp2_with (go_at_call 21; (with_reducible refine (hNu _ (hS _ hbR)).mono ?_); rintro e w4 ⟨rfl, hb4⟩; have hA4 := hAR.below hb4 hAR.lt; have hB4 := hBR.below hb4 hBR.lt; have kc4 := hB4.cell; have kf4 := hB4.frozen; have ka4 := hA4.cell; have kb4 := hA4.frozen; have hb04 := hbR.trans (hb4.mono hqR))
                    have hA6 := hA4.far (p := ⟨q + 1, 3, none⟩) (Nat.ne_of_lt (Nat.lt_succ_self q)) (.int .i64 v)
                    have hb06 := hb04.setCell (p := ⟨q + 1, 3, none⟩) (Nat.le_succ q) (.int .i64 v)
                    refine bodyPost_cell_tmp (g := q) (cs := #[.int .i64 0, .slice none 0 0, .int .i64 0, .int .i64 0, .int .i64 0, .bool false]) Tryd.results7 rfl (by first | with_reducible exact hA6 | with_reducible exact Blk.six hA6) Tryd.underlying27 rfl (by kernel_rfl) rfl ⟨⟨.slice none 0 0, by rw [hO.out]; rfl, by rw [hO.out]; exact Rz.nil _⟩, by first | with_reducible exact hb06 | (rw [hq]; with_reducible exact hb06) | (rw [hq]; with_reducible exact below_six hb06 (Nat.le_refl _) _ _ _ _ _ _) | with_reducible exact below_six hb06 (Nat.le_of_eq hq) _ _ _ _ _ _⟩
                  | true =>
                    have hND := hide (Nd.two hN hnv)
                    clear hN hnB hnv
                    go_wp2_with (go_at_call 21; (with_reducible refine (hNu _ (hS _ hbR)).mono ?_); rintro e w4 ⟨rfl, hb4⟩; have hA4 := hAR.below hb4 hAR.lt; have hB4 := hBR.below hb4 hBR.lt; have hD4 := hDR.below hb4 hDR.lt; have hP4 := hPR.below hb4 hPR.lt; have hZ4 := hZR.below hb4; have kc4 := hB4.cell; have kf4 := hB4.frozen; have ka4 := hA4.cell; have kb4 := hA4.frozen; have hb04 := hbR.trans (hb4.mono hqR))
                    go_roundw
                    case rel =>
                      have hB6 : Blk (w4.setCell ⟨q + 1, 3, none⟩ (.int .i64 v)) (q + 1) 27 #[.int .i64 (k : Int), (.slice Au rs.length cu), .int .i64 a, .int .i64 v, .int .i64 0, .bool false] := hB4.set_ 3 _
                      exact ⟨1 + 1, a, v, 0, true, by omega, by go_num, rfl, hND.out, hb04.setCell (Nat.le_succ q) _, hA4.far (p := ⟨q + 1, 3, none⟩) (Nat.ne_of_lt (Nat.lt_succ_self q)) _, hB6, hD4.far (p := ⟨q + 1, 3, none⟩) hgq _, hP4.far (p := ⟨q + 1, 3, none⟩) hgq1 _, rz_set hZ4 hB4 3 _⟩
                    case measure => first | (simp [intOf]; done) | (simp [intOf]; omega)
                · obtain rfl : c = 0 := hN.2.2.2
                  have hy : L[2]? = some x := hxm
                  have hcy := hcx
                  have hNu := fun W hW => anum_any x (by have := KL.out.2.1 x (List.mem_of_getElem? hy); have := KR.out; omega) W hW
                  have hnB : nB L 2 = intP x.data.toList := by unfold nB; rw [List.getD_eq_getElem?_getD, hy]; rfl
                  rw [← hnB] at hNu
                  obtain ⟨⟨v, bb⟩, hnv⟩ : ∃ p, nB L 2 = p := ⟨_, rfl⟩
                  rw [hnv] at hNu
                  dsimp only at hNu
                  cases bb with
                  | false =>
                    have hO := hide (q_fail (K := 3) (k := k) KQ.out (.inr ⟨rfl, hk0⟩) hw (j := 2) (by omega) (by rw [hnv]))
                    clear hN hnB hnv
                    go_wp2_with (go_at_call 21; (with_reducible refine (hNu _ (hS _ hbR)).mono ?_); rintro e w4 ⟨rfl, hb4⟩; have hA4 := hAR.below hb4 hAR.lt; have hB4 := hBR.below hb4 hBR.lt; have kc4 := hB4.cell; have kf4 := hB4.frozen; have ka4 := hA4.cell; have kb4 := hA4.frozen; have hb04 := hbR.trans (hb4.mono hqR))
                    have hA6 := hA4.far (p := ⟨q + 1, 4, none⟩) (Nat.ne_of_lt (Nat.lt_succ_self q)) (.int .i64 v)
                    have hb06 := hb04.setCell (p := ⟨q + 1, 4, none⟩) (Nat.le_succ q) (.int .i64 v)
                    refine bodyPost_cell_tmp (g := q) (cs := #[.int .i64 0, .slice none 0 0, .int .i64 0, .int .i64 0, .int .i64 0, .bool false]) Tryd.results7 rfl (by first | with_reducible exact hA6 | with_reducible exact Blk.six hA6) Tryd.underlying27 rfl (by kernel_rfl) rfl ⟨⟨.slice none 0 0, by rw [hO.out]; rfl, by rw [hO.out]; exact Rz.nil _⟩, by first | with_reducible exact hb06 | (rw [hq]; with_reducible exact hb06) | (rw [hq]; with_reducible exact below_six hb06 (Nat.le_refl _) _ _ _ _ _ _) | with_reducible exact below_six hb06 (Nat.le_of_eq hq) _ _ _ _ _ _⟩
                  | true =>
                    have hND := hide (Nd.three hN hnv)
                    clear hN hnB hnv
                    go_wp2_with (go_at_call 21; (with_reducible refine (hNu _ (hS _ hbR)).mono ?_); rintro e w4 ⟨rfl, hb4⟩; have hA4 := hAR.below hb4 hAR.lt; have hB4 := hBR.below hb4 hBR.lt; have hD4 := hDR.below hb4 hDR.lt; have hP4 := hPR.below hb4 hPR.lt; have hZ4 := hZR.below hb4; have kc4 := hB4.cell; have kf4 := hB4.frozen; have ka4 := hA4.cell; have kb4 := hA4.frozen; have hb04 := hbR.trans (hb4.mono hqR))
                    go_roundw
                    case rel =>
                      have hB6 : Blk (w4.setCell ⟨q + 1, 4, none⟩ (.int .i64 v)) (q + 1) 27 #[.int .i64 (k : Int), (.slice Au rs.length cu), .int .i64 a, .int .i64 b, .int .i64 v, .bool false] := hB4.set_ 4 _
                      exact ⟨2 + 1, a, b, v, true, by omega, by go_num, rfl, hND.out, hb04.setCell (Nat.le_succ q) _, hA4.far (p := ⟨q + 1, 4, none⟩) (Nat.ne_of_lt (Nat.lt_succ_self q)) _, hB6, hD4.far (p := ⟨q + 1, 4, none⟩) hgq _, hP4.far (p := ⟨q + 1, 4, none⟩) hgq1 _, rz_set hZ4 hB4 4 _⟩
                    case measure => first | (simp [intOf]; done) | (simp [intOf]; omega)
              · obtain rfl : i = 3 := by omega
                have hR := aright_any ⟨(k : Int), rs, a, b, c, false⟩ (.slice Au rs.length cu) wr hZR ⟨right_oks hrR, by dsimp only; omega, hN.le.1, hN.le.2.1, hN.le.2.2⟩
                have hE : parQ s.data.toList = if rightQ ⟨(k : Int), rs, a, b, c, false⟩ = true then ⟨0, ⟨(k : Int), rs, a, b, c, false⟩⟩ else ⟨90, zeroQ⟩ := q_end (K := 3) (k := k) KQ.out (.inr ⟨rfl, hk0⟩) hw hN
                clear hlt hN
                cases hrq : rightQ ⟨(k : Int), rs, a, b, c, false⟩ with
                | false =>
                  rw [hrq] at hE hR
                  have hO := hide (show parQ s.data.toList = ⟨90, zeroQ⟩ from by rw [hE, if_neg (by decide)])
                  clear hE hrq
                  go_wp2_with (go_at_call 6; (with_reducible refine hR.mono ?_); rintro e w5 ⟨rfl, hb5⟩; have hA5 := hAR.below hb5 hAR.lt; have ka5 := hA5.cell; have kb5 := hA5.frozen; have hb05 := hbR.trans (hb5.mono hqR))
                  refine bodyPost_cell_tmp (g := q) (cs := #[.int .i64 0, .slice none 0 0, .int .i64 0, .int .i64 0, .int .i64 0, .bool false]) Tryd.results7 rfl (by first | with_reducible exact hA5 | with_reducible exact Blk.six hA5) Tryd.underlying27 rfl (by kernel_rfl) rfl ⟨⟨.slice none 0 0, by rw [hO.out]; rfl, by rw [hO.out]; exact Rz.nil _⟩, by first | with_reducible exact hb05 | (rw [hq]; with_reducible exact hb05) | (rw [hq]; with_reducible exact below_six hb05 (Nat.le_refl _) _ _ _ _ _ _) | with_reducible exact below_six hb05 (Nat.le_of_eq hq) _ _ _ _ _ _⟩
                | true =>
                  rw [hrq] at hE hR
                  have hO := hide (show parQ s.data.toList = ⟨0, ⟨(k : Int), rs, a, b, c, false⟩⟩ from by rw [hE, if_pos rfl])
                  clear hE hrq
                  go_wp2_with (go_at_call 6; (with_reducible refine hR.mono ?_); rintro e w5 ⟨rfl, hb5⟩; have hA5 := hAR.below hb5 hAR.lt; have hB5 := hBR.below hb5 hBR.lt; have kc5 := hB5.cell; have ka5 := hA5.cell; have kb5 := hA5.frozen; have hb05 := hbR.trans (hb5.mono hqR); have hZ5 := hZR.below hb5)
                  refine bodyPost_cell_tmp (g := q) (cs := #[.int .i64 (k : Int), (.slice Au rs.length cu), .int .i64 a, .int .i64 b, .int .i64 c, .bool false]) Tryd.results7 rfl (by with_reducible exact Blk.six hA5) Tryd.underlying27 rfl (by kernel_rfl) rfl ⟨⟨.slice Au rs.length cu, by rw [hO.out]; rfl, ?_⟩, by (rw [hq]; with_reducible exact below_six hb05 (Nat.le_refl _) _ _ _ _ _ _)⟩
                  rw [hO.out]
                  exact rz_six hZ5 hA5
          · have hO := hide (hbad2 rfl _ _ hw (by first | (rw [if_pos hk0]; exact hM) | (rw [if_neg hk0]; exact hM)))
            have d7 : ((m : Int) + 1 != 3) = true := by simp; omega
            clear hwd hbad2 hgood KL KQ KS KS2 hw hxe hnb hbad1 hm hn hM
            go_wp2_with (first
              | (go_at_call 18; (with_reducible refine (hMP _ (hS _ hbU).sg).mono ?_); rintro e w1 ⟨⟨u, rfl, hZ⟩, hb1⟩; obtain ⟨Au, cu, rfl⟩ := hZ.shape; have hA1 := hAU.below hb1 hAU.lt; have hB1 := hBU.below hb1 hBU.lt; have kf1 := hB1.frozen; have kc1 := hB1.cell; have kg1 := hA1.frozen; have kd1 := hA1.cell; have hb01 := hbU.trans (hb1.mono hqU); have hl1 := hB1.lt; have hl2 : q + 1 < w1.heap.size + 1 := Nat.lt_succ_of_lt hl1; have hl3 : q + 1 < w1.heap.size + 1 + 1 := Nat.lt_succ_of_lt hl2; have hl4 := hA1.lt; have hl5 : q < w1.heap.size + 1 := Nat.lt_succ_of_lt hl4; have hne1 : ¬ (q + 1 = w1.heap.size) := Nat.ne_of_lt hl1; have hne2 : ¬ (q = w1.heap.size) := Nat.ne_of_lt hl4)
              | (go_at_call 19; (with_reducible refine (hCP _).mono ?_); rintro e w2 ⟨rfl, rfl⟩)
              | (go_at_call 20; (with_reducible refine (hSp _ (hS _ (hb01.setCell (Nat.le_succ q) _))).mono ?_); rintro e w3 ⟨rfl, rfl⟩))
            have hF1 := (hA1.far (p := ⟨q + 1, 1, none⟩) (Nat.ne_of_lt (Nat.lt_succ_self q)) (.slice Au rs.length cu))
            have hbF := hb01.setCell (p := ⟨q + 1, 1, none⟩) (Nat.le_succ q) (.slice Au rs.length cu)
            have hB6 := ((Blk.six (u0 := .int .i64 0) (u1 := .slice none 0 0) (u2 := .int .i64 0) (u3 := .int .i64 0) (u4 := .int .i64 0) (u5 := .bool false) hF1).alloc (.cells LV 9)).alloc (.cells #[.pointer (some ⟨q + 1, 2, none⟩), .pointer (some ⟨q + 1, 3, none⟩), .pointer (some ⟨q + 1, 4, none⟩)] 52)
            refine bodyPost_cell_tmp (g := q) (cs := #[.int .i64 0, .slice none 0 0, .int .i64 0, .int .i64 0, .int .i64 0, .bool false]) Tryd.results7 rfl hB6 Tryd.underlying27 rfl (by kernel_rfl) rfl ⟨⟨.slice none 0 0, by rw [hO.out]; rfl, by rw [hO.out]; exact Rz.nil _⟩, ?_⟩
            rw [hq]
            refine Below.alloc (Below.alloc (below_six hbF (Nat.le_refl _) _ _ _ _ _ _) ?_ _) ?_ _ <;> (simp only [World.size_alloc, World.size_setCell]; omega)
end Go.Proofs.YtamnononemallaaDoor
