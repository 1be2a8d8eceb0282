import Derived.Test.YtamnononemallaaGreatDoorGT
/-! Window by window: the document's walk. -/
namespace Go.Proofs.YtamnononemallaaGreatDoor
open Go.RowKit
set_option linter.unusedVariables false
set_option linter.unusedSimpArgs false
theorem infoRC : (Tryz.prog.info? 122).map (fun i => (i.zero, i.size, i.bytes)) = some (some (.agg #[.int .i64 0, .int .i64 0]), 2, 16) := by kernel_rfl
theorem infoRS : (Tryz.prog.info? 120).map (fun i => (i.zero, i.size, i.bytes)) = some (some (.agg #[.int .i64 0, .int .i64 0]), 2, 16) := by kernel_rfl
def manyN (fr to step : Int) : Nat := ((to - fr) / step + if (to - fr) % step = 0 then 0 else 1).toNat
theorem many_facts {fr to step : Int} (hs : 0 < step) (h : fr ≤ to) : (manyN fr to step : Int) = (to - fr) / step + (if (to - fr) % step = 0 then 0 else 1) ∧ to - fr ≤ (manyN fr to step : Int) * step ∧ (manyN fr to step = 0 ∨ ((manyN fr to step : Int) - 1) * step < to - fr) := by
  have q0 : 0 ≤ (to - fr) / step := Int.ediv_nonneg (by omega) (by omega)
  have hM : (manyN fr to step : Int) = (to - fr) / step + (if (to - fr) % step = 0 then 0 else 1) := by
    unfold manyN
    split <;> omega
  refine ⟨hM, ?_⟩
  have h1 := Int.mul_ediv_add_emod (to - fr) step
  have h2 := Int.emod_nonneg (to - fr) (show step ≠ 0 by omega)
  have h3 := Int.emod_lt_of_pos (to - fr) hs
  rw [Int.mul_comm] at h1
  generalize (to - fr) / step = q at *
  generalize (to - fr) % step = m at *
  rw [hM]
  by_cases hm : m = 0
  · rw [if_pos hm, Int.add_zero, Int.sub_mul]
    constructor
    · omega
    · right
      omega
  · rw [if_neg hm, Int.add_sub_cancel, Int.add_mul]
    constructor
    · omega
    · right
      omega
theorem many_prev {fr to step : Int} (hs : 0 < step) (h : 0 < manyN fr to step) : ((manyN fr to step : Int) - 1) * step < to - fr := by
  have h0 : fr ≤ to := by
    rcases Int.lt_or_le to fr with h1 | h1
    · exfalso
      have : (to - fr) / step < 0 := Int.ediv_lt_of_lt_mul hs (by omega)
      unfold manyN at h
      split at h <;> omega
    · exact h1
  rcases (many_facts hs h0).2.2 with h1 | h1
  · omega
  · exact h1
theorem many_iff {fr to step : Int} (hs : 0 < step) (h : fr ≤ to) : manyW fr to step ↔ 1024 < manyN fr to step := by
  obtain ⟨_, h1, h2⟩ := many_facts hs h
  unfold manyW
  constructor
  · rintro ⟨h3, h4⟩
    have h5 := (Int.le_ediv_iff_mul_le hs).1 h4
    rcases Nat.lt_or_ge 1024 (manyN fr to step) with h6 | h6
    · exact h6
    · exfalso
      have h7 : (manyN fr to step : Int) ≤ 1024 := by omega
      have := Int.mul_le_mul_of_nonneg_right h7 (show (0 : Int) ≤ step by omega)
      omega
  · intro h3
    have h7 : (1024 : Int) ≤ (manyN fr to step : Int) - 1 := by omega
    have h8 := Int.mul_le_mul_of_nonneg_right h7 (show (0 : Int) ≤ step by omega)
    have h9 : ((manyN fr to step : Int) - 1) * step < to - fr := by rcases h2 with h2 | h2 <;> omega
    exact ⟨by omega, (Int.le_ediv_iff_mul_le hs).2 (by omega)⟩
theorem sel_snoc {l : List (Int × Int)} {i : Nat} {p : Int × Int} (hp : l[i]? = some p) {fr to step : Int} {k : Nat} : selW (l.take (i + 1)) fr to step k = if fr ≤ p.1 ∧ p.1 < to ∧ (p.1 - fr) / step = k then selW (l.take i) fr to step k ++ [p] else selW (l.take i) fr to step k := by
  unfold selW
  rw [List.take_add_one, hp, List.filter_append]
  simp only [Option.toList, List.filter_cons, List.filter_nil, Bool.and_eq_true, decide_eq_true_eq]
  by_cases h : (fr ≤ p.1 ∧ p.1 < to) ∧ (p.1 - fr) / step = k
  · rw [if_pos h, if_pos ⟨h.1.1, h.1.2, h.2⟩]
  · rw [if_neg h, if_neg (fun h' => h ⟨⟨h'.1, h'.2.1⟩, h'.2.2⟩), List.append_nil]
open Classical in
noncomputable def rwinsA (op : Int) (l : List (Int × Int)) (fr to step : Int) : List (Int × Int) × Int :=
  if badW op l.length fr to step then ([], 1) else if manyW fr to step then ([], 8) else refP op fr step (selW l fr to step) (manyN fr to step) 0 []
theorem wins_same (op : Int) {l : List (Int × Int)} (h : Rise l) (fr to step : Int) : winsA op l fr to step = rwinsA op l fr to step := by
  unfold winsA rwinsA
  by_cases hb : badW op l.length fr to step
  · rw [if_pos hb, if_pos hb]
  · rw [if_neg hb, if_neg hb]
    by_cases hm : manyW fr to step
    · rw [if_pos hm, if_pos hm]
    · rw [if_neg hm, if_neg hm]
      unfold badW at hb
      have hs : 0 < step := by omega
      have h0 : fr ≤ to := by omega
      obtain ⟨_, h1, h2⟩ := many_facts hs h0
      have h3 : manyN fr to step ≤ 1024 := by
        rw [many_iff hs h0] at hm
        omega
      have := win_ref op h hs (manyN fr to step) h1 h2 1024 (manyN fr to step) 0 0 [] (by omega) h3 (fun p hp => by simp at hp)
      simpa using this
set_option maxRecDepth 100000 in
set_option maxHeartbeats 40000000 in
theorem rwindows_any (op : Int) (A : Option Addr) (n c : Nat) (l : List (Int × Int)) (fr to step : Int) (w : World) (hr : Reads w w.heap.size 2 A n (smps l)) (hl : I64s l) (hop : -9223372036854775808 ≤ op ∧ op ≤ 9223372036854775807) (hn : n * 16 ≤ 140737488355328)
    (hfr : -9223372036854775808 ≤ fr ∧ fr ≤ 9223372036854775807) (hto : -9223372036854775808 ≤ to ∧ to ≤ 9223372036854775807) (hst : -9223372036854775808 ≤ step ∧ step ≤ 9223372036854775807) :
    Calls Tryz.prog 37 #[.int .i64 op, .slice A n c, .int .i64 fr, .int .i64 to, .int .i64 step] w fun e w' => ∃ v, e = .returned (.tuple #[v, .int .i64 (rwinsA op l fr to step).2]) ∧ w'.ownsRow w.heap.size 122 2 v (rwinsA op l fr to step).1.length (smps (rwinsA op l fr to step).1) ∧ Below w.heap.size w w' := by
  have hlen : l.length = n := by have := hr.1; rw [smps_length] at this; omega
  by_cases hb : badW op n fr to step
  · have E : rwinsA op l fr to step = ([], 1) := by unfold rwinsA; rw [if_pos (by rw [hlen]; exact hb)]
    rw [E]
    unfold badW at hb
    go_enter Tryz.func37, Tryz.ntmps37
    go_wp2
    all_goals first | (exfalso; omega) | (refine bodyPost_ret (v := .tuple #[.slice none 0 0, .int .i64 1]) (by simp [results, Tryz.results37, go_sem] <;> rfl) rfl ⟨_, rfl, ⟨rfl, .inl ⟨rfl, rfl⟩⟩, by (repeat' (first | with_reducible (first | exact Below.refl _ _ | refine Below.ext ?_ ?_ _ | refine Below.alloc ?_ ?_ _ | refine Below.setCell ?_ ?_ _ | refine Below.drew ?_ | assumption) | (simp [World.size_ext]; done) | (simp [World.size_ext]; omega)))⟩)
  have hbn : ¬badW op n fr to step := hb
  unfold badW at hbn
  have b1 : decide (op < 1) = false := by simp; omega
  have b2 : decide (5 < op) = false := by simp; omega
  have b3 : decide (fr < 0) = false := by simp; omega
  have b4 : decide (to < fr) = false := by simp; omega
  have b5 : decide (4611686018427387904 < to) = false := by simp; omega
  have b6 : decide (step < 1) = false := by simp; omega
  have b7 : decide (65536 < (n : Int)) = false := by simp; omega
  have hst0 : 0 < step := by omega
  have m2 : wrap64 (to - fr) = to - fr := by unfold wrap64; omega
  have m3 : (to - fr).tdiv step = (to - fr) / step := Int.tdiv_eq_ediv_of_nonneg (by omega)
  have m4 : (to - fr).tmod step = (to - fr) % step := Int.tmod_eq_emod_of_nonneg (by omega)
  have q0 : 0 ≤ (to - fr) / step := Int.ediv_nonneg (by omega) (by omega)
  have q1 : (to - fr) / step ≤ to - fr := Int.ediv_le_self _ (by omega)
  have m5 : wrap64 ((to - fr) / step) = (to - fr) / step := by unfold wrap64; omega
  have m6 : wrap64 ((to - fr) / step + 1) = (to - fr) / step + 1 := by unfold wrap64; omega
  have q2 := Int.emod_nonneg (to - fr) (show step ≠ 0 by omega)
  have q3 := Int.emod_lt_of_pos (to - fr) hst0
  have m7 : wrap64 ((to - fr) % step) = (to - fr) % step := by unfold wrap64; omega
  obtain ⟨hM, -, -⟩ := many_facts hst0 (show fr ≤ to by omega)
  have hmi := many_iff hst0 (show fr ≤ to by omega)
  by_cases hm : manyW fr to step
  · have E : rwinsA op l fr to step = ([], 8) := by unfold rwinsA; rw [if_neg (by rw [hlen]; exact hb), if_pos hm]
    rw [E]
    have hm2 := hmi.1 hm
    by_cases hrem : (to - fr) % step = 0
    · rw [if_pos hrem] at hM
      have cr : ((to - fr) % step != 0) = false := by simpa using hrem
      have cm : decide (1024 < (to - fr) / step) = true := by simp; omega
      go_enter Tryz.func37, Tryz.ntmps37
      go_wp2
      all_goals first | (exfalso; omega) | (refine bodyPost_ret (v := .tuple #[.slice none 0 0, .int .i64 8]) (by simp [results, Tryz.results37, go_sem] <;> rfl) rfl ⟨_, rfl, ⟨rfl, .inl ⟨rfl, rfl⟩⟩, by (repeat' (first | with_reducible (first | exact Below.refl _ _ | refine Below.ext ?_ ?_ _ | refine Below.alloc ?_ ?_ _ | refine Below.setCell ?_ ?_ _ | refine Below.drew ?_ | assumption) | (simp [World.size_ext]; done) | (simp [World.size_ext]; omega)))⟩)
    · rw [if_neg hrem] at hM
      have cr : ((to - fr) % step != 0) = true := by simpa using hrem
      have cm : decide (1024 < (to - fr) / step + 1) = true := by simp; omega
      go_enter Tryz.func37, Tryz.ntmps37
      go_wp2
      all_goals first | (exfalso; omega) | (refine bodyPost_ret (v := .tuple #[.slice none 0 0, .int .i64 8]) (by simp [results, Tryz.results37, go_sem] <;> rfl) rfl ⟨_, rfl, ⟨rfl, .inl ⟨rfl, rfl⟩⟩, by (repeat' (first | with_reducible (first | exact Below.refl _ _ | refine Below.ext ?_ ?_ _ | refine Below.alloc ?_ ?_ _ | refine Below.setCell ?_ ?_ _ | refine Below.drew ?_ | assumption) | (simp [World.size_ext]; done) | (simp [World.size_ext]; omega)))⟩)
  · have E : rwinsA op l fr to step = refP op fr step (selW l fr to step) (manyN fr to step) 0 [] := by unfold rwinsA; rw [if_neg (by rw [hlen]; exact hb), if_neg hm]
    have hm2 : manyN fr to step ≤ 1024 := by rw [hmi] at hm; omega
    obtain ⟨R, hR⟩ : ∃ R, R = refP op fr step (selW l fr to step) (manyN fr to step) 0 [] := ⟨_, rfl⟩
    rw [E, ← hR]
    have R' := hide hR
    clear E hR hmi hm
    obtain ⟨i0, hi, hz0, hz1, hz2⟩ := info_parts infoRC
    obtain ⟨i1, ri, hr0, hr1, hr2⟩ := info_parts infoRS
    have hPl : ∃ bb oo, 0 < n → A = some ⟨bb, oo, none⟩ ∧ bb < w.heap.size ∧ ∀ j u, (smps l)[j]? = some u → w.cell? ⟨bb, oo + j, none⟩ = some u := by
      by_cases h : 0 < n
      · obtain ⟨bb, oo, h1, h2, h3⟩ := hr.plain h (by omega)
        exact ⟨bb, oo, fun _ => ⟨h1, h2, h3⟩⟩
      · exact ⟨0, 0, fun h' => absurd h' h⟩
    obtain ⟨bb, oo, hPl⟩ := hPl
    by_cases hrem : (to - fr) % step = 0
    · rw [if_pos hrem, Int.add_zero] at hM
      have cr : ((to - fr) % step != 0) = false := by simpa using hrem
      have cm : decide (1024 < (to - fr) / step) = false := by simp; omega
      go_enter Tryz.func37, Tryz.ntmps37
      go_wp2
      rw [← hM]
      clear hrem cr cm m2 m3 m4 m5 m6 m7 q0 q1 q2 q3 hM
      go_loopw [13, 14] (fun vo vs wr => ∃ (k r : Nat) (out : List (Int × Int)), k + r = manyN fr to step ∧ vs = .int .i64 (k : Int) ∧ Hid (R = refP op fr step (selW l fr to step) r k out) ∧ out.length ≤ k ∧ wr.ownsRow w.heap.size 122 2 vo out.length (smps out) ∧ Below w.heap.size w wr) (fun _ vs _ => ((manyN fr to step : Int) - intOf vs).toNat)
      case atStart => exact ⟨0, manyN fr to step, [], by omega, rfl, R', by simp, ⟨rfl, .inl ⟨rfl, rfl⟩⟩, by (repeat' (first | with_reducible (first | exact Below.refl _ _ | refine Below.ext ?_ ?_ _ | refine Below.alloc ?_ ?_ _ | refine Below.setCell ?_ ?_ _ | refine Below.drew ?_ | assumption) | (simp [World.size_ext]; done) | (simp [World.size_ext]; omega)))⟩
      case round =>
        clear R'
        obtain ⟨k, r, out, hkr, rfl, hR, hok, hown, hbel⟩ := hrel
        have hsz := hbel.size
        by_cases hkM : k < manyN fr to step
        · have ck : decide ((k : Int) < (manyN fr to step : Int)) = true := by simp; omega
          obtain ⟨wr0, rfl⟩ : ∃ x : World, x = wr := ⟨_, rfl⟩
          go_wp2
          go_loopw [15, 16] (fun vi vs wv => ∃ i : Nat, i ≤ n ∧ vs = .int .i64 (i : Int) ∧ wv.ownsRow wr0.heap.size 120 2 vi (selW (l.take i) fr to step k).length (smps (selW (l.take i) fr to step k)) ∧ Below wr0.heap.size wr0 wv) (fun _ vs _ => ((n : Int) - intOf vs).toNat)
          case atStart => exact ⟨0, by omega, rfl, ⟨rfl, .inl ⟨rfl, rfl⟩⟩, Below.refl _ _⟩
          case round =>
            obtain ⟨i, hi0, rfl, hin, hbi⟩ := hrel
            have hsi := hbi.size
            have hbl := hbel.trans (hbi.mono hsz)
            by_cases hlt : i < n
            · obtain ⟨p, hp⟩ : ∃ p, l[i]? = some p := ⟨l[i]'(by omega), List.getElem?_eq_getElem (by omega)⟩
              obtain ⟨hAe, hbb, hcc⟩ := hPl (by omega)
              have m1 : wr.cell? ⟨bb, oo + i * 2, none⟩ = some (.int .i64 p.1) := by rw [hbl.cell (p := ⟨bb, _, none⟩) hbb]; exact hcc _ _ (smps_get l i p hp).1
              have m2 : wr.cell? ⟨bb, oo + i * 2 + 1, none⟩ = some (.int .i64 p.2) := by rw [hbl.cell (p := ⟨bb, _, none⟩) hbb, Nat.add_assoc]; exact hcc _ _ (smps_get l i p hp).2
              have hpI := hl p (List.mem_of_getElem? hp)
              clear hcc
              (try subst hAe)
              by_cases d1 : fr ≤ p.1
              · have c1 : decide (fr ≤ p.1) = true := by simpa using d1
                by_cases d2 : p.1 < to
                · have c2 : decide (p.1 < to) = true := by simpa using d2
                  have w1 : wrap64 (p.1 - fr) = p.1 - fr := by unfold wrap64; omega
                  have w2 : (p.1 - fr).tdiv step = (p.1 - fr) / step := Int.tdiv_eq_ediv_of_nonneg (by omega)
                  have q0 : 0 ≤ (p.1 - fr) / step := Int.ediv_nonneg (by omega) (by omega)
                  have q1 : (p.1 - fr) / step ≤ p.1 - fr := Int.ediv_le_self _ (by omega)
                  have w3 : wrap64 ((p.1 - fr) / step) = (p.1 - fr) / step := by unfold wrap64; omega
                  by_cases d3 : (p.1 - fr) / step = (k : Int)
                  · have c3 : ((p.1 - fr) / step == (k : Int)) = true := by simpa using d3
                    have HT : Hid (selW (l.take (i + 1)) fr to step k = selW (l.take i) fr to step k ++ [p]) := show _ = _ by rw [sel_snoc hp, if_pos ⟨d1, d2, d3⟩]
                    have hm : (selW (l.take i) fr to step k).length ≤ n := by
                      have := List.length_filter_le (fun p : Int × Int => decide (fr ≤ p.1) && decide (p.1 < to) && decide ((p.1 - fr) / step = k)) (l.take i)
                      rw [List.length_take] at this
                      unfold selW
                      omega
                    clear hp d1 d2 d3 q0 q1
                    go_wp2_with (at_builtin; refine Held.out ?_)
                    unfold Held
                    refine wpList_append_own _ rfl (.tmp 103) (.tmp 108) 118 rfl wr0.heap.size 120 i1 (.agg #[.int .i64 0, .int .i64 0]) 2 16 Tryz.underlying118 ri hr0 hr1 hr2 rfl (by decide) u15 (selW (l.take i) fr to step k).length _ rfl (hin.alloc _) ⟨wr.heap.size, 0, none⟩ 1 1 [.int .i64 p.1, .int .i64 p.2] rfl rfl (cells_new_at _ #[_, _] _ (by simp)) (by simp [Value.oneCell']) (by unfold maxLen; omega) (by omega) (by simp; omega) ?_
                    intro v' w6 hown6 hg6 _
                    have hbel6 := own_below (hbi.alloc hsi _) (hin.alloc _) hg6 (Nat.le_refl _) (by simp; omega)
                    rw [← smps_snoc _ p] at hown6
                    have hk6 : (selW (l.take i) fr to step k).length + 1 = (selW (l.take i) fr to step k ++ [p]).length := by simp
                    rw [hk6, ← HT.out] at hown6
                    clear hk6 HT hg6 hin hbi
                    go_wp2
                    go_roundw
                    case rel => exact ⟨i + 1, by omega, by go_num, hown6, hbel6⟩
                    case measure => simp [intOf]; omega
                  · have c3 : ((p.1 - fr) / step == (k : Int)) = false := by simpa using d3
                    have HT : Hid (selW (l.take (i + 1)) fr to step k = selW (l.take i) fr to step k) := show _ = _ by rw [sel_snoc hp, if_neg (fun h => d3 h.2.2)]
                    clear hp d1 d2 d3 q0 q1
                    go_wp2
                    go_roundw
                    case rel => exact ⟨i + 1, by omega, by go_num, HT.out ▸ hin, hbi⟩
                    case measure => simp [intOf]; omega
                · have c2 : decide (p.1 < to) = false := by simpa using d2
                  have HT : Hid (selW (l.take (i + 1)) fr to step k = selW (l.take i) fr to step k) := show _ = _ by rw [sel_snoc hp, if_neg (fun h => d2 h.2.1)]
                  clear hp d1 d2
                  go_wp2
                  go_roundw
                  case rel => exact ⟨i + 1, by omega, by go_num, HT.out ▸ hin, hbi⟩
                  case measure => simp [intOf]; omega
              · have c1 : decide (fr ≤ p.1) = false := by simpa using d1
                have HT : Hid (selW (l.take (i + 1)) fr to step k = selW (l.take i) fr to step k) := show _ = _ by rw [sel_snoc hp, if_neg (fun h => d1 h.1)]
                clear hp d1
                go_wp2
                go_roundw
                case rel => exact ⟨i + 1, by omega, by go_num, HT.out ▸ hin, hbi⟩
                case measure => simp [intOf]; omega
            · have ci : decide ((i : Int) < (n : Int)) = false := by simp; omega
              have ci' : decide (i < n) = false := by simp; omega
              rw [List.take_of_length_le (by omega)] at hin
              have hm : (selW l fr to step k).length ≤ n := by
                have := List.length_filter_le (fun p : Int × Int => decide (fr ≤ p.1) && decide (p.1 < to) && decide ((p.1 - fr) / step = k)) l
                unfold selW
                omega
              have hlS : I64s (selW l fr to step k) := fun p hp => hl p (List.mem_filter.1 hp).1
              have hRs := hR.out
              obtain ⟨r, rfl⟩ : ∃ r', r = r' + 1 := ⟨r - 1, by omega⟩
              simp only [refP] at hRs
              have hown' := own_keep hown hbi
              clear hR hown hi0
              obtain ⟨Ai, capi, rfl, hci⟩ := own_slice hin
              have qi := Reads.of_own hin
              generalize hsel : selW l fr to step k = sl at *
              by_cases hz : sl = []
              · rw [if_pos hz] at hRs
                subst hz
                have hRn := hide hRs
                clear hRs
                go_wp2
                go_roundw
                case rel => exact ⟨k + 1, r, out, by omega, by go_num, hRn, by omega, hown', hbl⟩
                case measure => simp [intOf]; omega
              · rw [if_neg hz] at hRs
                have hlz : 0 < sl.length := List.length_pos_iff.2 hz
                have cz : ((sl.length : Int) == 0) = false := by simp; exact hz
                have hF := rfold_any op Ai sl.length capi sl wr qi hlS hop (by omega)
                obtain ⟨v1, p1, e1, hFe⟩ : ∃ v p e, foldA op sl = (v, p, e) := ⟨_, _, _, rfl⟩
                rw [hFe] at hF hRs
                clear hsel qi hin hlS
                by_cases he1 : e1 = 0
                · subst he1
                  rw [if_neg (by simp)] at hRs
                  have hRn := hide hRs
                  clear hRs hFe
                  have hks := Int.mul_nonneg (show (0 : Int) ≤ k by omega) (show (0 : Int) ≤ step by omega)
                  have hks2 : (k : Int) * step < to - fr := by
                    have h5 : (k : Int) ≤ (manyN fr to step : Int) - 1 := by omega
                    have h6 := Int.mul_le_mul_of_nonneg_right h5 (show (0 : Int) ≤ step by omega)
                    have h7 := many_prev hst0 (show 0 < manyN fr to step by omega)
                    omega
                  have x1 : wrap64 ((k : Int) * step) = k * step := by unfold wrap64; omega
                  have x2 : wrap64 (fr + (k : Int) * step) = fr + k * step := by unfold wrap64; omega
                  clear hks hks2
                  go_wp2_with (first | (go_at_call 73; with_reducible refine (hF).mono ?_; rintro e w5 ⟨rfl, hb5⟩; have hs5 := hb5.size) | (at_builtin; refine Held.out ?_))
                  unfold Held
                  have hown5 := own_keep hown' hb5
                  have hbel5 := hbl.trans (hb5.mono hbl.size)
                  have hz5 := hbel5.size
                  refine wpList_append_own _ rfl (.tmp 123) (.tmp 131) 99 rfl w.heap.size 122 i0 (.agg #[.int .i64 0, .int .i64 0]) 2 16 Tryz.underlying99 hi hz0 hz1 hz2 rfl (by decide) u13 out.length _ rfl (hown5.alloc _) ⟨w5.heap.size, 0, none⟩ 1 1 [.int .i64 (fr + (k : Int) * step), .int .i64 v1] rfl rfl (cells_new_at _ #[_, _] _ (by simp)) (by simp [Value.oneCell']) (by unfold maxLen; omega) (by omega) (by simp; omega) ?_
                  intro v' w6 hown6 hg6 _
                  have hbel6 := own_below (hbel5.alloc hz5 _) (hown5.alloc _) hg6 (Nat.le_refl _) (by simp; omega)
                  rw [← smps_snoc out (fr + (k : Int) * step, v1)] at hown6
                  have hk6 : out.length + 1 = (out ++ [(fr + (k : Int) * step, v1)]).length := by simp
                  rw [hk6] at hown6
                  clear hown' hown5 hbel5 hb5 hg6 hF hbi hbl
                  go_wp2
                  go_roundw
                  case rel => exact ⟨k + 1, r, _, by omega, by go_num, hRn, by simp; omega, hown6, hbel6⟩
                  case measure => simp [intOf]; omega
                · rw [if_pos (by simpa using he1)] at hRs
                  have hRn := hide hRs
                  have ce : (e1 != 0) = true := by simpa using he1
                  clear hRs hFe
                  go_wp2_with (first | (go_at_call 73; with_reducible refine (hF).mono ?_; rintro e w5 ⟨rfl, hb5⟩; have hs5 := hb5.size))
                  have hbel5 := hbl.trans (hb5.mono hbl.size)
                  refine bodyPost_ret (v := .tuple #[.slice none 0 0, .int .i64 e1]) (by simp [results, Tryz.results37, go_sem] <;> rfl) rfl ?_
                  rw [hRn.out]
                  exact ⟨_, rfl, ⟨rfl, .inl ⟨rfl, rfl⟩⟩, hbel5⟩
        · have ck : decide ((k : Int) < (manyN fr to step : Int)) = false := by simp; omega
          have ck' : decide (k < manyN fr to step) = false := by simp; omega
          obtain rfl : r = 0 := by omega
          go_wp2
          refine bodyPost_ret (v := .tuple #[u13, .int .i64 0]) (by simp [results, Tryz.results37, go_sem] <;> rfl) rfl ?_
          rw [hR.out]
          exact ⟨_, rfl, hown, hbel⟩
    · rw [if_neg hrem] at hM
      have cr : ((to - fr) % step != 0) = true := by simpa using hrem
      have cm : decide (1024 < (to - fr) / step + 1) = false := by simp; omega
      go_enter Tryz.func37, Tryz.ntmps37
      go_wp2
      rw [← hM]
      clear hrem cr cm m2 m3 m4 m5 m6 m7 q0 q1 q2 q3 hM
      go_loopw [13, 14] (fun vo vs wr => ∃ (k r : Nat) (out : List (Int × Int)), k + r = manyN fr to step ∧ vs = .int .i64 (k : Int) ∧ Hid (R = refP op fr step (selW l fr to step) r k out) ∧ out.length ≤ k ∧ wr.ownsRow w.heap.size 122 2 vo out.length (smps out) ∧ Below w.heap.size w wr) (fun _ vs _ => ((manyN fr to step : Int) - intOf vs).toNat)
      case atStart => exact ⟨0, manyN fr to step, [], by omega, rfl, R', by simp, ⟨rfl, .inl ⟨rfl, rfl⟩⟩, by (repeat' (first | with_reducible (first | exact Below.refl _ _ | refine Below.ext ?_ ?_ _ | refine Below.alloc ?_ ?_ _ | refine Below.setCell ?_ ?_ _ | refine Below.drew ?_ | assumption) | (simp [World.size_ext]; done) | (simp [World.size_ext]; omega)))⟩
      case round =>
        clear R'
        obtain ⟨k, r, out, hkr, rfl, hR, hok, hown, hbel⟩ := hrel
        have hsz := hbel.size
        by_cases hkM : k < manyN fr to step
        · have ck : decide ((k : Int) < (manyN fr to step : Int)) = true := by simp; omega
          obtain ⟨wr0, rfl⟩ : ∃ x : World, x = wr := ⟨_, rfl⟩
          go_wp2
          go_loopw [15, 16] (fun vi vs wv => ∃ i : Nat, i ≤ n ∧ vs = .int .i64 (i : Int) ∧ wv.ownsRow wr0.heap.size 120 2 vi (selW (l.take i) fr to step k).length (smps (selW (l.take i) fr to step k)) ∧ Below wr0.heap.size wr0 wv) (fun _ vs _ => ((n : Int) - intOf vs).toNat)
          case atStart => exact ⟨0, by omega, rfl, ⟨rfl, .inl ⟨rfl, rfl⟩⟩, Below.refl _ _⟩
          case round =>
            obtain ⟨i, hi0, rfl, hin, hbi⟩ := hrel
            have hsi := hbi.size
            have hbl := hbel.trans (hbi.mono hsz)
            by_cases hlt : i < n
            · obtain ⟨p, hp⟩ : ∃ p, l[i]? = some p := ⟨l[i]'(by omega), List.getElem?_eq_getElem (by omega)⟩
              obtain ⟨hAe, hbb, hcc⟩ := hPl (by omega)
              have m1 : wr.cell? ⟨bb, oo + i * 2, none⟩ = some (.int .i64 p.1) := by rw [hbl.cell (p := ⟨bb, _, none⟩) hbb]; exact hcc _ _ (smps_get l i p hp).1
              have m2 : wr.cell? ⟨bb, oo + i * 2 + 1, none⟩ = some (.int .i64 p.2) := by rw [hbl.cell (p := ⟨bb, _, none⟩) hbb, Nat.add_assoc]; exact hcc _ _ (smps_get l i p hp).2
              have hpI := hl p (List.mem_of_getElem? hp)
              clear hcc
              (try subst hAe)
              by_cases d1 : fr ≤ p.1
              · have c1 : decide (fr ≤ p.1) = true := by simpa using d1
                by_cases d2 : p.1 < to
                · have c2 : decide (p.1 < to) = true := by simpa using d2
                  have w1 : wrap64 (p.1 - fr) = p.1 - fr := by unfold wrap64; omega
                  have w2 : (p.1 - fr).tdiv step = (p.1 - fr) / step := Int.tdiv_eq_ediv_of_nonneg (by omega)
                  have q0 : 0 ≤ (p.1 - fr) / step := Int.ediv_nonneg (by omega) (by omega)
                  have q1 : (p.1 - fr) / step ≤ p.1 - fr := Int.ediv_le_self _ (by omega)
                  have w3 : wrap64 ((p.1 - fr) / step) = (p.1 - fr) / step := by unfold wrap64; omega
                  by_cases d3 : (p.1 - fr) / step = (k : Int)
                  · have c3 : ((p.1 - fr) / step == (k : Int)) = true := by simpa using d3
                    have HT : Hid (selW (l.take (i + 1)) fr to step k = selW (l.take i) fr to step k ++ [p]) := show _ = _ by rw [sel_snoc hp, if_pos ⟨d1, d2, d3⟩]
                    have hm : (selW (l.take i) fr to step k).length ≤ n := by
                      have := List.length_filter_le (fun p : Int × Int => decide (fr ≤ p.1) && decide (p.1 < to) && decide ((p.1 - fr) / step = k)) (l.take i)
                      rw [List.length_take] at this
                      unfold selW
                      omega
                    clear hp d1 d2 d3 q0 q1
                    go_wp2_with (at_builtin; refine Held.out ?_)
                    unfold Held
                    refine wpList_append_own _ rfl (.tmp 103) (.tmp 108) 118 rfl wr0.heap.size 120 i1 (.agg #[.int .i64 0, .int .i64 0]) 2 16 Tryz.underlying118 ri hr0 hr1 hr2 rfl (by decide) u15 (selW (l.take i) fr to step k).length _ rfl (hin.alloc _) ⟨wr.heap.size, 0, none⟩ 1 1 [.int .i64 p.1, .int .i64 p.2] rfl rfl (cells_new_at _ #[_, _] _ (by simp)) (by simp [Value.oneCell']) (by unfold maxLen; omega) (by omega) (by simp; omega) ?_
                    intro v' w6 hown6 hg6 _
                    have hbel6 := own_below (hbi.alloc hsi _) (hin.alloc _) hg6 (Nat.le_refl _) (by simp; omega)
                    rw [← smps_snoc _ p] at hown6
                    have hk6 : (selW (l.take i) fr to step k).length + 1 = (selW (l.take i) fr to step k ++ [p]).length := by simp
                    rw [hk6, ← HT.out] at hown6
                    clear hk6 HT hg6 hin hbi
                    go_wp2
                    go_roundw
                    case rel => exact ⟨i + 1, by omega, by go_num, hown6, hbel6⟩
                    case measure => simp [intOf]; omega
                  · have c3 : ((p.1 - fr) / step == (k : Int)) = false := by simpa using d3
                    have HT : Hid (selW (l.take (i + 1)) fr to step k = selW (l.take i) fr to step k) := show _ = _ by rw [sel_snoc hp, if_neg (fun h => d3 h.2.2)]
                    clear hp d1 d2 d3 q0 q1
                    go_wp2
                    go_roundw
                    case rel => exact ⟨i + 1, by omega, by go_num, HT.out ▸ hin, hbi⟩
                    case measure => simp [intOf]; omega
                · have c2 : decide (p.1 < to) = false := by simpa using d2
                  have HT : Hid (selW (l.take (i + 1)) fr to step k = selW (l.take i) fr to step k) := show _ = _ by rw [sel_snoc hp, if_neg (fun h => d2 h.2.1)]
                  clear hp d1 d2
                  go_wp2
                  go_roundw
                  case rel => exact ⟨i + 1, by omega, by go_num, HT.out ▸ hin, hbi⟩
                  case measure => simp [intOf]; omega
              · have c1 : decide (fr ≤ p.1) = false := by simpa using d1
                have HT : Hid (selW (l.take (i + 1)) fr to step k = selW (l.take i) fr to step k) := show _ = _ by rw [sel_snoc hp, if_neg (fun h => d1 h.1)]
                clear hp d1
                go_wp2
                go_roundw
                case rel => exact ⟨i + 1, by omega, by go_num, HT.out ▸ hin, hbi⟩
                case measure => simp [intOf]; omega
            · have ci : decide ((i : Int) < (n : Int)) = false := by simp; omega
              have ci' : decide (i < n) = false := by simp; omega
              rw [List.take_of_length_le (by omega)] at hin
              have hm : (selW l fr to step k).length ≤ n := by
                have := List.length_filter_le (fun p : Int × Int => decide (fr ≤ p.1) && decide (p.1 < to) && decide ((p.1 - fr) / step = k)) l
                unfold selW
                omega
              have hlS : I64s (selW l fr to step k) := fun p hp => hl p (List.mem_filter.1 hp).1
              have hRs := hR.out
              obtain ⟨r, rfl⟩ : ∃ r', r = r' + 1 := ⟨r - 1, by omega⟩
              simp only [refP] at hRs
              have hown' := own_keep hown hbi
              clear hR hown hi0
              obtain ⟨Ai, capi, rfl, hci⟩ := own_slice hin
              have qi := Reads.of_own hin
              generalize hsel : selW l fr to step k = sl at *
              by_cases hz : sl = []
              · rw [if_pos hz] at hRs
                subst hz
                have hRn := hide hRs
                clear hRs
                go_wp2
                go_roundw
                case rel => exact ⟨k + 1, r, out, by omega, by go_num, hRn, by omega, hown', hbl⟩
                case measure => simp [intOf]; omega
              · rw [if_neg hz] at hRs
                have hlz : 0 < sl.length := List.length_pos_iff.2 hz
                have cz : ((sl.length : Int) == 0) = false := by simp; exact hz
                have hF := rfold_any op Ai sl.length capi sl wr qi hlS hop (by omega)
                obtain ⟨v1, p1, e1, hFe⟩ : ∃ v p e, foldA op sl = (v, p, e) := ⟨_, _, _, rfl⟩
                rw [hFe] at hF hRs
                clear hsel qi hin hlS
                by_cases he1 : e1 = 0
                · subst he1
                  rw [if_neg (by simp)] at hRs
                  have hRn := hide hRs
                  clear hRs hFe
                  have hks := Int.mul_nonneg (show (0 : Int) ≤ k by omega) (show (0 : Int) ≤ step by omega)
                  have hks2 : (k : Int) * step < to - fr := by
                    have h5 : (k : Int) ≤ (manyN fr to step : Int) - 1 := by omega
                    have h6 := Int.mul_le_mul_of_nonneg_right h5 (show (0 : Int) ≤ step by omega)
                    have h7 := many_prev hst0 (show 0 < manyN fr to step by omega)
                    omega
                  have x1 : wrap64 ((k : Int) * step) = k * step := by unfold wrap64; omega
                  have x2 : wrap64 (fr + (k : Int) * step) = fr + k * step := by unfold wrap64; omega
                  clear hks hks2
                  go_wp2_with (first | (go_at_call 73; with_reducible refine (hF).mono ?_; rintro e w5 ⟨rfl, hb5⟩; have hs5 := hb5.size) | (at_builtin; refine Held.out ?_))
                  unfold Held
                  have hown5 := own_keep hown' hb5
                  have hbel5 := hbl.trans (hb5.mono hbl.size)
                  have hz5 := hbel5.size
                  refine wpList_append_own _ rfl (.tmp 123) (.tmp 131) 99 rfl w.heap.size 122 i0 (.agg #[.int .i64 0, .int .i64 0]) 2 16 Tryz.underlying99 hi hz0 hz1 hz2 rfl (by decide) u13 out.length _ rfl (hown5.alloc _) ⟨w5.heap.size, 0, none⟩ 1 1 [.int .i64 (fr + (k : Int) * step), .int .i64 v1] rfl rfl (cells_new_at _ #[_, _] _ (by simp)) (by simp [Value.oneCell']) (by unfold maxLen; omega) (by omega) (by simp; omega) ?_
                  intro v' w6 hown6 hg6 _
                  have hbel6 := own_below (hbel5.alloc hz5 _) (hown5.alloc _) hg6 (Nat.le_refl _) (by simp; omega)
                  rw [← smps_snoc out (fr + (k : Int) * step, v1)] at hown6
                  have hk6 : out.length + 1 = (out ++ [(fr + (k : Int) * step, v1)]).length := by simp
                  rw [hk6] at hown6
                  clear hown' hown5 hbel5 hb5 hg6 hF hbi hbl
                  go_wp2
                  go_roundw
                  case rel => exact ⟨k + 1, r, _, by omega, by go_num, hRn, by simp; omega, hown6, hbel6⟩
                  case measure => simp [intOf]; omega
                · rw [if_pos (by simpa using he1)] at hRs
                  have hRn := hide hRs
                  have ce : (e1 != 0) = true := by simpa using he1
                  clear hRs hFe
                  go_wp2_with (first | (go_at_call 73; with_reducible refine (hF).mono ?_; rintro e w5 ⟨rfl, hb5⟩; have hs5 := hb5.size))
                  have hbel5 := hbl.trans (hb5.mono hbl.size)
                  refine bodyPost_ret (v := .tuple #[.slice none 0 0, .int .i64 e1]) (by simp [results, Tryz.results37, go_sem] <;> rfl) rfl ?_
                  rw [hRn.out]
                  exact ⟨_, rfl, ⟨rfl, .inl ⟨rfl, rfl⟩⟩, hbel5⟩
        · have ck : decide ((k : Int) < (manyN fr to step : Int)) = false := by simp; omega
          have ck' : decide (k < manyN fr to step) = false := by simp; omega
          obtain rfl : r = 0 := by omega
          go_wp2
          refine bodyPost_ret (v := .tuple #[u13, .int .i64 0]) (by simp [results, Tryz.results37, go_sem] <;> rfl) rfl ?_
          rw [hR.out]
          exact ⟨_, rfl, hown, hbel⟩
end Go.Proofs.YtamnononemallaaGreatDoor
