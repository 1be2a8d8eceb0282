import Derived.Test.YtijegnhkkgdihaaTally10
import Derived.WalkMore
/-! Window by window: the walk. -/
namespace Go.Proofs.Ytijegnhkkgdihaa
open Go.RowKit
set_option linter.unusedVariables false
set_option linter.unusedSimpArgs false
set_option maxRecDepth 100000 in
set_option maxHeartbeats 40000000 in
theorem windows_any (op : Int) (A : Option Addr) (n c : Nat) (l : List (Int × Int)) (fr to step : Int) (w : World) (hr : Reads w w.heap.size 2 A n (smps l)) (hl : I64s l) (hop : -9223372036854775808 ≤ op ∧ op ≤ 9223372036854775807) (hn : n * 16 ≤ 140737488355328) (hnc : n ≤ c)
    (hfr : -9223372036854775808 ≤ fr ∧ fr ≤ 9223372036854775807) (hto : -9223372036854775808 ≤ to ∧ to ≤ 9223372036854775807) (hst : -9223372036854775808 ≤ step ∧ step ≤ 9223372036854775807) :
    Calls Try.prog 14 #[.int .i64 op, .slice A n c, .int .i64 fr, .int .i64 to, .int .i64 step] w fun e w' => ∃ v, e = .returned (.tuple #[v, .int .i64 (winsA op l fr to step).2]) ∧ w'.ownsRow w.heap.size 51 2 v (winsA op l fr to step).1.length (smps (winsA op l fr to step).1) ∧ Below w.heap.size w w' := by
  have hlen : l.length = n := by have := hr.1; rw [smps_length] at this; omega
  by_cases hb : badW op n fr to step
  · have E : winsA op l fr to step = ([], 1) := by unfold winsA; rw [if_pos (by rw [hlen]; exact hb)]
    rw [E]
    unfold badW at hb
    go_enter Try.func14, Try.ntmps14
    go_wp2
    go_step3
    go_wp2
    all_goals (try rw [Exit.noGoto_ret])
    all_goals first | (exfalso; omega) | (refine bodyPost_ret (v := .tuple #[.slice none 0 0, .int .i64 1]) (by simp [results, Try.results14, go_sem] <;> rfl) rfl ⟨_, rfl, ⟨rfl, .inl ⟨rfl, rfl⟩⟩, by (repeat' (first | with_reducible exact Below.refl _ _ | with_reducible refine Below.ext ?_ ?_ _ | with_reducible refine Below.alloc ?_ ?_ _ | with_reducible refine Below.setCell ?_ ?_ _ | with_reducible refine Below.drew ?_ | with_reducible assumption | (simp [World.size_ext]; done) | (simp [World.size_ext]; omega)))⟩)
  have hbn : ¬badW op n fr to step := hb
  unfold badW at hbn
  have b1 : decide (op < 1) = false := by simp; omega
  have b2 : decide (5 < op) = false := by simp; omega
  have b3 : decide (fr < 0) = false := by simp; omega
  have b4 : decide (to < fr) = false := by simp; omega
  have b5 : decide (4611686018427387904 < to) = false := by simp; omega
  have b6 : decide (step < 1) = false := by simp; omega
  have b7 : decide (65536 < (n : Int)) = false := by simp; omega
  by_cases hm : manyW fr to step
  · have E : winsA op l fr to step = ([], 8) := by unfold winsA; rw [if_neg (by rw [hlen]; exact hb), if_pos hm]
    rw [E]
    unfold manyW at hm
    have m1 : decide (fr < to) = true := by simp; omega
    have m2 : wrap64 (to - fr) = to - fr := by unfold wrap64; omega
    have m3 : wrap64 (to - fr - 1) = to - fr - 1 := by unfold wrap64; omega
    have m4 : (to - fr - 1).tdiv step = (to - fr - 1) / step := Int.tdiv_eq_ediv_of_nonneg (by omega)
    have q0 : 0 ≤ (to - fr - 1) / step := Int.ediv_nonneg (by omega) (by omega)
    have q1 : (to - fr - 1) / step ≤ to - fr - 1 := Int.ediv_le_self _ (by omega)
    have m6 : wrap64 ((to - fr - 1) / step) = (to - fr - 1) / step := by unfold wrap64; omega
    have m5 : decide (1024 ≤ (to - fr - 1) / step) = true := by simp; omega
    go_enter Try.func14, Try.ntmps14
    go_wp2
    go_step3
    go_wp2
    all_goals (try rw [Exit.noGoto_ret])
    all_goals first | (exfalso; omega) | (refine bodyPost_ret (v := .tuple #[.slice none 0 0, .int .i64 8]) (by simp [results, Try.results14, go_sem] <;> rfl) rfl ⟨_, rfl, ⟨rfl, .inl ⟨rfl, rfl⟩⟩, by (repeat' (first | with_reducible exact Below.refl _ _ | with_reducible refine Below.ext ?_ ?_ _ | with_reducible refine Below.alloc ?_ ?_ _ | with_reducible refine Below.setCell ?_ ?_ _ | with_reducible refine Below.drew ?_ | with_reducible assumption | (simp [World.size_ext]; done) | (simp [World.size_ext]; omega)))⟩)
  · have E : winsA op l fr to step = winP op l to step 1024 fr 0 [] := by unfold winsA; rw [if_neg (by rw [hlen]; exact hb), if_neg hm]
    have hf := many_start (by omega) hm
    obtain ⟨R, hR⟩ : ∃ R, R = winP op l to step 1024 fr 0 [] := ⟨_, rfl⟩
    rw [E, ← hR]
    have R' := hide hR
    clear E hR
    obtain ⟨i0, hi, hz0, hz1, hz2⟩ := info_parts infoC
    have hPl : ∃ bb oo, 0 < n → A = some ⟨bb, oo, none⟩ ∧ bb < w.heap.size ∧ ∀ j u, (smps l)[j]? = some u → w.cell? ⟨bb, oo + j, none⟩ = some u := by
      by_cases h : 0 < n
      · obtain ⟨bb, oo, h1, h2, h3⟩ := hr.plain h (by omega)
        exact ⟨bb, oo, fun _ => ⟨h1, h2, h3⟩⟩
      · exact ⟨0, 0, fun h' => absurd h' h⟩
    obtain ⟨bb, oo, hPl⟩ := hPl
    by_cases hlt : fr < to
    · have m1 : decide (fr < to) = true := by simp; omega
      have m2 : wrap64 (to - fr) = to - fr := by unfold wrap64; omega
      have m3 : wrap64 (to - fr - 1) = to - fr - 1 := by unfold wrap64; omega
      have m4 : (to - fr - 1).tdiv step = (to - fr - 1) / step := Int.tdiv_eq_ediv_of_nonneg (by omega)
      have q0 : 0 ≤ (to - fr - 1) / step := Int.ediv_nonneg (by omega) (by omega)
      have q1 : (to - fr - 1) / step ≤ to - fr - 1 := Int.ediv_le_self _ (by omega)
      have m6 : wrap64 ((to - fr - 1) / step) = (to - fr - 1) / step := by unfold wrap64; omega
      have m5 : decide (1024 ≤ (to - fr - 1) / step) = false := by unfold manyW at hm; simp; omega
      go_enter Try.func14, Try.ntmps14
      go_wp2
      go_step3
      go_wp2
      go_step3
      go_wp2
      clear m1 m2 m3 m4 m5 m6 q0 q1
      go_loopw [12, 13, 14] (fun vo va vs wr => ∃ (f k a : Nat) (S : Int) (out : List (Int × Int)), k = out.length ∧ a ≤ n ∧ va = .int .i64 (a : Int) ∧ vs = .int .i64 S ∧ fr ≤ S ∧ S ≤ 4611686018427387904 ∧ to - S ≤ (f : Int) * step ∧ Hid (R = winP op l to step f S a out) ∧ f + out.length ≤ 1024 ∧ wr.ownsRow w.heap.size 51 2 vo k (smps out) ∧ Below w.heap.size w wr) (fun _ _ vs _ => (to - intOf vs).toNat)
      case atStart => exact ⟨1024, 0, 0, fr, [], rfl, by omega, rfl, rfl, by omega, by omega, hf, R', by simp, ⟨rfl, .inl ⟨rfl, rfl⟩⟩, by (repeat' (first | with_reducible exact Below.refl _ _ | with_reducible refine Below.ext ?_ ?_ _ | with_reducible refine Below.alloc ?_ ?_ _ | with_reducible refine Below.setCell ?_ ?_ _ | with_reducible refine Below.drew ?_ | with_reducible assumption | (simp [World.size_ext]; done) | (simp [World.size_ext]; omega)))⟩
      case round =>
        clear R' hf
        obtain ⟨f, k, a, S, out, rfl, ha, rfl, rfl, hS1, hS2, hf, hR, hfo, hown, hbel⟩ := hrel
        have hsz := hbel.size
        by_cases hS : S < to
        · have hle1 : adv l S a ≤ n := by have := adv_le (l := l) (t := S) (a := a) (by omega); omega
          obtain ⟨a1, ha1⟩ : ∃ a1, Hid (adv l S a = a1) := ⟨_, rfl⟩
          have ha1n : a1 ≤ n := by have := ha1.out; omega
          clear hle1
          obtain ⟨f, rfl⟩ : ∃ f', f = f' + 1 := ⟨f - 1, by
            rcases Nat.eq_zero_or_pos f with h0 | h0
            · subst h0; simp at hf; omega
            · omega⟩
          have w1 : wrap64 (to - S) = to - S := by unfold wrap64; omega
          have cS : decide (S < to) = true := by simpa using hS
          by_cases hst2 : step < to - S
          · have cst : decide (step < to - S) = true := by simpa using hst2
            have w2 : wrap64 (S + step) = S + step := by unfold wrap64; omega
            have hlast : ¬S + step = to := by omega
            have clast : (S + step == to) = false := by simpa using hlast
            have hee : Hid (S + step = if step < to - S then S + step else to) := show _ = _ by rw [if_pos hst2]
            go_wp2
            go_loopw [13] (fun va wv => ∃ b : Nat, va = .int .i64 (b : Int) ∧ a ≤ b ∧ b ≤ n ∧ Hid (adv l S b = a1) ∧ wv = wr) (fun va _ => ((n : Int) - intOf va).toNat)
            case atStart => exact ⟨a, rfl, by omega, by omega, ha1, rfl⟩
            case round =>
              obtain ⟨b, rfl, hab, hb, hadv, rfl⟩ := hrel
              by_cases hbn : b < n
              · obtain ⟨p, hp⟩ : ∃ p, l[b]? = some p := ⟨l[b]'(by omega), List.getElem?_eq_getElem (by omega)⟩
                obtain ⟨hAe, hbb, hcc⟩ := hPl (by omega)
                have mm : wr.cell? ⟨bb, oo + b * 2, none⟩ = some (.int .i64 p.1) := by rw [hbel.cell (p := ⟨bb, _, none⟩) hbb]; exact hcc _ _ (smps_get l b p hp).1
                clear hcc
                (try subst hAe)
                by_cases hpt : p.1 < S
                · have cpt : decide (p.1 < S) = true := by simpa using hpt
                  have hadv' := hide ((adv_step hp hpt).trans hadv.out)
                  clear hpt hadv
                  go_wp2
                  go_roundw
                  case rel => exact ⟨b + 1, by go_num, by omega, by omega, hadv', by first | rfl | trivial⟩
                  case measure => simp [intOf]; omega
                · have cpt : decide (p.1 < S) = false := by simpa using hpt
                  have e2 : a1 = b := by have h1 := hadv.out; rw [adv_stop hp hpt] at h1; omega
                  have hA1 := ha1
                  clear hadv ha1 hpt
                  subst e2
                  have hle2 : adv l (S + step) a1 ≤ n := by have := adv_le (l := l) (t := (S + step)) (a := a1) (by omega); omega
                  obtain ⟨a2, ha2⟩ : ∃ a2, Hid (adv l (S + step) a1 = a2) := ⟨_, rfl⟩
                  have ha2n : a2 ≤ n := by have := ha2.out; omega
                  clear hle2
                  go_wp2
                  go_loopw [13] (fun va wv => ∃ b : Nat, va = .int .i64 (b : Int) ∧ a1 ≤ b ∧ b ≤ n ∧ Hid (adv l (S + step) b = a2) ∧ wv = wr) (fun va _ => ((n : Int) - intOf va).toNat)
                  case atStart => exact ⟨a1, rfl, by omega, by omega, ha2, rfl⟩
                  case round =>
                    obtain ⟨b, rfl, hab, hb, hadv, rfl⟩ := hrel
                    by_cases hbn : b < n
                    · obtain ⟨p, hp⟩ : ∃ p, l[b]? = some p := ⟨l[b]'(by omega), List.getElem?_eq_getElem (by omega)⟩
                      obtain ⟨hAe, hbb, hcc⟩ := hPl (by omega)
                      have mm : wr.cell? ⟨bb, oo + b * 2, none⟩ = some (.int .i64 p.1) := by rw [hbel.cell (p := ⟨bb, _, none⟩) hbb]; exact hcc _ _ (smps_get l b p hp).1
                      clear hcc
                      (try subst hAe)
                      by_cases hpt : p.1 < (S + step)
                      · have cpt : decide (p.1 < (S + step)) = true := by simpa using hpt
                        have hadv' := hide ((adv_step hp hpt).trans hadv.out)
                        clear hpt hadv
                        go_wp2
                        go_roundw
                        case rel => exact ⟨b + 1, by go_num, by omega, by omega, hadv', by first | rfl | trivial⟩
                        case measure => simp [intOf]; omega
                      · have cpt : decide (p.1 < (S + step)) = false := by simpa using hpt
                        have e2 : a2 = b := by have h1 := hadv.out; rw [adv_stop hp hpt] at h1; omega
                        have hA2 := ha2
                        clear hadv ha2 hpt
                        subst e2
                        have hRs := hR.out
                        rw [winP_step hS hee.out hA1.out.symm hA2.out.symm] at hRs
                        by_cases h12 : a1 = a2
                        · rw [if_pos h12, if_neg hlast] at hRs
                          have hRn := hide hRs
                          have c12 : ((a1 : Int) == (a2 : Int)) = true := by simp; omega
                          clear hRs hR hA1 hA2 hee
                          go_wp2
                          go_roundw
                          case rel => exact ⟨f, _, a2, S + step, out, rfl, by omega, rfl, rfl, by omega, by omega, many_step hf, hRn, by first | omega | (simp; omega), hown, hbel⟩
                          case measure => simp [intOf]; omega
                        · rw [if_neg h12] at hRs
                          have c12 : ((a1 : Int) == (a2 : Int)) = false := by simp; omega
                          obtain ⟨hAe, hbb, hcc⟩ := hPl (by omega)
                          (try subst hAe)
                          have q1 : Reads wr wr.heap.size 2 (some ⟨bb, oo + a1 * 2, none⟩) (a2 - a1) (smps (cut l a1 a2)) := ((Reads_take (Reads_drop hr (show a1 ≤ n by omega)) (show a2 - a1 ≤ n - a1 by omega)).below hbel).more hsz
                          have hF := fun c => fold_any op (some ⟨bb, oo + a1 * 2, none⟩) (a2 - a1) c (cut l a1 a2) wr q1 (hl.cut _ _) hop (by omega)
                          have hFb := foldA_bd op (cut l a1 a2) (hl.cut _ _)
                          obtain ⟨v1, p1, e1, hFe⟩ : ∃ v p e, foldA op (cut l a1 a2) = (v, p, e) := ⟨_, _, _, rfl⟩
                          rw [hFe] at hF hRs hFb
                          have k1 : (a1 : Int) ≤ a2 := by omega
                          have k2 : (a2 : Int) ≤ c := by omega
                          have k3 : ¬c = a1 := by omega
                          have k4 : ((a2 : Int) - a1).toNat = a2 - a1 := by omega
                          clear hR hA1 hA2 hee q1 hFe hcc
                          by_cases he1 : e1 = 0
                          · subst he1
                            rw [if_neg (by simp), if_neg hlast] at hRs
                            have hRn := hide hRs
                            clear hRs
                            go_wp2_with (first | (go_at_call 9; with_reducible refine (hF _).mono ?_; rintro e w5 ⟨rfl, hb5⟩; have hs5 := hb5.size) | (at_builtin; refine Held.out ?_))
                            unfold Held
                            have hown5 := own_keep hown hb5
                            have hbel5 := hbel.trans (hb5.mono hsz)
                            have hz5 := hbel5.size
                            refine wpList_append_own _ rfl (.tmp 128) (.tmp 132) 40 rfl w.heap.size 51 i0 (.agg #[.int .i64 0, .int .i64 0]) 2 16 Try.underlying40 hi hz0 hz1 hz2 rfl (by decide) u12 out.length _ rfl (hown5.alloc _) ⟨w5.heap.size, 0, none⟩ 1 1 [.int .i64 S, .int .i64 v1] rfl rfl (cells_new_at _ #[_, _] _ (by simp)) (by simp [Value.oneCell']) (by unfold maxLen; omega) (by omega) (by simp; omega) ?_
                            intro v' w6 hown6 hg6 _
                            have hbel6 := own_below (hbel5.alloc hz5 _) (hown5.alloc _) hg6 (Nat.le_refl _) (by simp; omega)
                            rw [← smps_snoc out (S, v1)] at hown6
                            have hk6 : out.length + 1 = (out ++ [(S, v1)]).length := by simp
                            rw [hk6] at hown6
                            clear hown hown5 hbel hbel5 hb5 hg6 hF
                            go_wp2
                            go_roundw
                            case rel => exact ⟨f, _, a2, S + step, (out ++ [(S, v1)]), rfl, by omega, rfl, rfl, by omega, by omega, many_step hf, hRn, by first | omega | (simp; omega), hown6, hbel6⟩
                            case measure => simp [intOf]; omega
                          · rw [if_pos (by simpa using he1)] at hRs
                            have hRn := hide hRs
                            have ce : (e1 != 0) = true := by simpa using he1
                            clear hRs
                            go_wp2_with (first | (go_at_call 9; with_reducible refine (hF _).mono ?_; rintro e w5 ⟨rfl, hb5⟩; have hs5 := hb5.size))
                            have hbel5 := hbel.trans (hb5.mono hsz)
                            (try rw [Exit.noGoto_ret])
                            refine bodyPost_ret (v := .tuple #[.slice none 0 0, .int .i64 e1]) (by simp [results, Try.results14, go_sem] <;> rfl) rfl ?_
                            rw [hRn.out]
                            exact ⟨_, rfl, ⟨rfl, .inl ⟨rfl, rfl⟩⟩, hbel5⟩
                    · have e2 : a2 = b := by have h1 := hadv.out; rw [adv_end (by omega)] at h1; omega
                      have cbn : decide ((b : Int) < (n : Int)) = false := by simp; omega
                      have cbn' : decide (b < n) = false := by simp; omega
                      have hA2 := ha2
                      clear hadv ha2
                      subst e2
                      have hRs := hR.out
                      rw [winP_step hS hee.out hA1.out.symm hA2.out.symm] at hRs
                      by_cases h12 : a1 = a2
                      · rw [if_pos h12, if_neg hlast] at hRs
                        have hRn := hide hRs
                        have c12 : ((a1 : Int) == (a2 : Int)) = true := by simp; omega
                        clear hRs hR hA1 hA2 hee
                        go_wp2
                        go_roundw
                        case rel => exact ⟨f, _, a2, S + step, out, rfl, by omega, rfl, rfl, by omega, by omega, many_step hf, hRn, by first | omega | (simp; omega), hown, hbel⟩
                        case measure => simp [intOf]; omega
                      · rw [if_neg h12] at hRs
                        have c12 : ((a1 : Int) == (a2 : Int)) = false := by simp; omega
                        obtain ⟨hAe, hbb, hcc⟩ := hPl (by omega)
                        (try subst hAe)
                        have q1 : Reads wr wr.heap.size 2 (some ⟨bb, oo + a1 * 2, none⟩) (a2 - a1) (smps (cut l a1 a2)) := ((Reads_take (Reads_drop hr (show a1 ≤ n by omega)) (show a2 - a1 ≤ n - a1 by omega)).below hbel).more hsz
                        have hF := fun c => fold_any op (some ⟨bb, oo + a1 * 2, none⟩) (a2 - a1) c (cut l a1 a2) wr q1 (hl.cut _ _) hop (by omega)
                        have hFb := foldA_bd op (cut l a1 a2) (hl.cut _ _)
                        obtain ⟨v1, p1, e1, hFe⟩ : ∃ v p e, foldA op (cut l a1 a2) = (v, p, e) := ⟨_, _, _, rfl⟩
                        rw [hFe] at hF hRs hFb
                        have k1 : (a1 : Int) ≤ a2 := by omega
                        have k2 : (a2 : Int) ≤ c := by omega
                        have k3 : ¬c = a1 := by omega
                        have k4 : ((a2 : Int) - a1).toNat = a2 - a1 := by omega
                        clear hR hA1 hA2 hee q1 hFe hcc
                        by_cases he1 : e1 = 0
                        · subst he1
                          rw [if_neg (by simp), if_neg hlast] at hRs
                          have hRn := hide hRs
                          clear hRs
                          go_wp2_with (first | (go_at_call 9; with_reducible refine (hF _).mono ?_; rintro e w5 ⟨rfl, hb5⟩; have hs5 := hb5.size) | (at_builtin; refine Held.out ?_))
                          unfold Held
                          have hown5 := own_keep hown hb5
                          have hbel5 := hbel.trans (hb5.mono hsz)
                          have hz5 := hbel5.size
                          refine wpList_append_own _ rfl (.tmp 128) (.tmp 132) 40 rfl w.heap.size 51 i0 (.agg #[.int .i64 0, .int .i64 0]) 2 16 Try.underlying40 hi hz0 hz1 hz2 rfl (by decide) u12 out.length _ rfl (hown5.alloc _) ⟨w5.heap.size, 0, none⟩ 1 1 [.int .i64 S, .int .i64 v1] rfl rfl (cells_new_at _ #[_, _] _ (by simp)) (by simp [Value.oneCell']) (by unfold maxLen; omega) (by omega) (by simp; omega) ?_
                          intro v' w6 hown6 hg6 _
                          have hbel6 := own_below (hbel5.alloc hz5 _) (hown5.alloc _) hg6 (Nat.le_refl _) (by simp; omega)
                          rw [← smps_snoc out (S, v1)] at hown6
                          have hk6 : out.length + 1 = (out ++ [(S, v1)]).length := by simp
                          rw [hk6] at hown6
                          clear hown hown5 hbel hbel5 hb5 hg6 hF
                          go_wp2
                          go_roundw
                          case rel => exact ⟨f, _, a2, S + step, (out ++ [(S, v1)]), rfl, by omega, rfl, rfl, by omega, by omega, many_step hf, hRn, by first | omega | (simp; omega), hown6, hbel6⟩
                          case measure => simp [intOf]; omega
                        · rw [if_pos (by simpa using he1)] at hRs
                          have hRn := hide hRs
                          have ce : (e1 != 0) = true := by simpa using he1
                          clear hRs
                          go_wp2_with (first | (go_at_call 9; with_reducible refine (hF _).mono ?_; rintro e w5 ⟨rfl, hb5⟩; have hs5 := hb5.size))
                          have hbel5 := hbel.trans (hb5.mono hsz)
                          (try rw [Exit.noGoto_ret])
                          refine bodyPost_ret (v := .tuple #[.slice none 0 0, .int .i64 e1]) (by simp [results, Try.results14, go_sem] <;> rfl) rfl ?_
                          rw [hRn.out]
                          exact ⟨_, rfl, ⟨rfl, .inl ⟨rfl, rfl⟩⟩, hbel5⟩
              · have e2 : a1 = b := by have h1 := hadv.out; rw [adv_end (by omega)] at h1; omega
                have cbn : decide ((b : Int) < (n : Int)) = false := by simp; omega
                have cbn' : decide (b < n) = false := by simp; omega
                have hA1 := ha1
                clear hadv ha1
                subst e2
                have hle2 : adv l (S + step) a1 ≤ n := by have := adv_le (l := l) (t := (S + step)) (a := a1) (by omega); omega
                obtain ⟨a2, ha2⟩ : ∃ a2, Hid (adv l (S + step) a1 = a2) := ⟨_, rfl⟩
                have ha2n : a2 ≤ n := by have := ha2.out; omega
                clear hle2
                go_wp2
                go_loopw [13] (fun va wv => ∃ b : Nat, va = .int .i64 (b : Int) ∧ a1 ≤ b ∧ b ≤ n ∧ Hid (adv l (S + step) b = a2) ∧ wv = wr) (fun va _ => ((n : Int) - intOf va).toNat)
                case atStart => exact ⟨a1, rfl, by omega, by omega, ha2, rfl⟩
                case round =>
                  obtain ⟨b, rfl, hab, hb, hadv, rfl⟩ := hrel
                  by_cases hbn : b < n
                  · exfalso; omega
                  · have e2 : a2 = b := by have h1 := hadv.out; rw [adv_end (by omega)] at h1; omega
                    have cbn : decide ((b : Int) < (n : Int)) = false := by simp; omega
                    have cbn' : decide (b < n) = false := by simp; omega
                    have hA2 := ha2
                    clear hadv ha2
                    subst e2
                    have hRs := hR.out
                    rw [winP_step hS hee.out hA1.out.symm hA2.out.symm] at hRs
                    by_cases h12 : a1 = a2
                    · rw [if_pos h12, if_neg hlast] at hRs
                      have hRn := hide hRs
                      have c12 : ((a1 : Int) == (a2 : Int)) = true := by simp; omega
                      clear hRs hR hA1 hA2 hee
                      go_wp2
                      go_roundw
                      case rel => exact ⟨f, _, a2, S + step, out, rfl, by omega, rfl, rfl, by omega, by omega, many_step hf, hRn, by first | omega | (simp; omega), hown, hbel⟩
                      case measure => simp [intOf]; omega
                    · exfalso; omega
          · have cst : decide (step < to - S) = false := by simpa using hst2
            have hee : Hid (to = if step < to - S then S + step else to) := show _ = _ by rw [if_neg hst2]
            go_wp2
            go_loopw [13] (fun va wv => ∃ b : Nat, va = .int .i64 (b : Int) ∧ a ≤ b ∧ b ≤ n ∧ Hid (adv l S b = a1) ∧ wv = wr) (fun va _ => ((n : Int) - intOf va).toNat)
            case atStart => exact ⟨a, rfl, by omega, by omega, ha1, rfl⟩
            case round =>
              obtain ⟨b, rfl, hab, hb, hadv, rfl⟩ := hrel
              by_cases hbn : b < n
              · obtain ⟨p, hp⟩ : ∃ p, l[b]? = some p := ⟨l[b]'(by omega), List.getElem?_eq_getElem (by omega)⟩
                obtain ⟨hAe, hbb, hcc⟩ := hPl (by omega)
                have mm : wr.cell? ⟨bb, oo + b * 2, none⟩ = some (.int .i64 p.1) := by rw [hbel.cell (p := ⟨bb, _, none⟩) hbb]; exact hcc _ _ (smps_get l b p hp).1
                clear hcc
                (try subst hAe)
                by_cases hpt : p.1 < S
                · have cpt : decide (p.1 < S) = true := by simpa using hpt
                  have hadv' := hide ((adv_step hp hpt).trans hadv.out)
                  clear hpt hadv
                  go_wp2
                  go_roundw
                  case rel => exact ⟨b + 1, by go_num, by omega, by omega, hadv', by first | rfl | trivial⟩
                  case measure => simp [intOf]; omega
                · have cpt : decide (p.1 < S) = false := by simpa using hpt
                  have e2 : a1 = b := by have h1 := hadv.out; rw [adv_stop hp hpt] at h1; omega
                  have hA1 := ha1
                  clear hadv ha1 hpt
                  subst e2
                  have hle2 : adv l to a1 ≤ n := by have := adv_le (l := l) (t := to) (a := a1) (by omega); omega
                  obtain ⟨a2, ha2⟩ : ∃ a2, Hid (adv l to a1 = a2) := ⟨_, rfl⟩
                  have ha2n : a2 ≤ n := by have := ha2.out; omega
                  clear hle2
                  go_wp2
                  go_loopw [13] (fun va wv => ∃ b : Nat, va = .int .i64 (b : Int) ∧ a1 ≤ b ∧ b ≤ n ∧ Hid (adv l to b = a2) ∧ wv = wr) (fun va _ => ((n : Int) - intOf va).toNat)
                  case atStart => exact ⟨a1, rfl, by omega, by omega, ha2, rfl⟩
                  case round =>
                    obtain ⟨b, rfl, hab, hb, hadv, rfl⟩ := hrel
                    by_cases hbn : b < n
                    · obtain ⟨p, hp⟩ : ∃ p, l[b]? = some p := ⟨l[b]'(by omega), List.getElem?_eq_getElem (by omega)⟩
                      obtain ⟨hAe, hbb, hcc⟩ := hPl (by omega)
                      have mm : wr.cell? ⟨bb, oo + b * 2, none⟩ = some (.int .i64 p.1) := by rw [hbel.cell (p := ⟨bb, _, none⟩) hbb]; exact hcc _ _ (smps_get l b p hp).1
                      clear hcc
                      (try subst hAe)
                      by_cases hpt : p.1 < to
                      · have cpt : decide (p.1 < to) = true := by simpa using hpt
                        have hadv' := hide ((adv_step hp hpt).trans hadv.out)
                        clear hpt hadv
                        go_wp2
                        go_roundw
                        case rel => exact ⟨b + 1, by go_num, by omega, by omega, hadv', by first | rfl | trivial⟩
                        case measure => simp [intOf]; omega
                      · have cpt : decide (p.1 < to) = false := by simpa using hpt
                        have e2 : a2 = b := by have h1 := hadv.out; rw [adv_stop hp hpt] at h1; omega
                        have hA2 := ha2
                        clear hadv ha2 hpt
                        subst e2
                        have hRs := hR.out
                        rw [winP_step hS hee.out hA1.out.symm hA2.out.symm] at hRs
                        by_cases h12 : a1 = a2
                        · rw [if_pos h12, if_pos rfl] at hRs
                          have hRn := hide hRs
                          have c12 : ((a1 : Int) == (a2 : Int)) = true := by simp; omega
                          clear hRs hR hA1 hA2 hee
                          go_wp2
                          (try rw [Exit.noGoto_ret])
                          refine bodyPost_ret (v := .tuple #[u12, .int .i64 0]) (by simp [results, Try.results14, go_sem] <;> rfl) rfl ?_
                          rw [hRn.out]
                          exact ⟨_, rfl, hown, hbel⟩
                        · rw [if_neg h12] at hRs
                          have c12 : ((a1 : Int) == (a2 : Int)) = false := by simp; omega
                          obtain ⟨hAe, hbb, hcc⟩ := hPl (by omega)
                          (try subst hAe)
                          have q1 : Reads wr wr.heap.size 2 (some ⟨bb, oo + a1 * 2, none⟩) (a2 - a1) (smps (cut l a1 a2)) := ((Reads_take (Reads_drop hr (show a1 ≤ n by omega)) (show a2 - a1 ≤ n - a1 by omega)).below hbel).more hsz
                          have hF := fun c => fold_any op (some ⟨bb, oo + a1 * 2, none⟩) (a2 - a1) c (cut l a1 a2) wr q1 (hl.cut _ _) hop (by omega)
                          have hFb := foldA_bd op (cut l a1 a2) (hl.cut _ _)
                          obtain ⟨v1, p1, e1, hFe⟩ : ∃ v p e, foldA op (cut l a1 a2) = (v, p, e) := ⟨_, _, _, rfl⟩
                          rw [hFe] at hF hRs hFb
                          have k1 : (a1 : Int) ≤ a2 := by omega
                          have k2 : (a2 : Int) ≤ c := by omega
                          have k3 : ¬c = a1 := by omega
                          have k4 : ((a2 : Int) - a1).toNat = a2 - a1 := by omega
                          clear hR hA1 hA2 hee q1 hFe hcc
                          by_cases he1 : e1 = 0
                          · subst he1
                            rw [if_neg (by simp), if_pos rfl] at hRs
                            have hRn := hide hRs
                            clear hRs
                            go_wp2_with (first | (go_at_call 9; with_reducible refine (hF _).mono ?_; rintro e w5 ⟨rfl, hb5⟩; have hs5 := hb5.size) | (at_builtin; refine Held.out ?_))
                            unfold Held
                            have hown5 := own_keep hown hb5
                            have hbel5 := hbel.trans (hb5.mono hsz)
                            have hz5 := hbel5.size
                            refine wpList_append_own _ rfl (.tmp 128) (.tmp 132) 40 rfl w.heap.size 51 i0 (.agg #[.int .i64 0, .int .i64 0]) 2 16 Try.underlying40 hi hz0 hz1 hz2 rfl (by decide) u12 out.length _ rfl (hown5.alloc _) ⟨w5.heap.size, 0, none⟩ 1 1 [.int .i64 S, .int .i64 v1] rfl rfl (cells_new_at _ #[_, _] _ (by simp)) (by simp [Value.oneCell']) (by unfold maxLen; omega) (by omega) (by simp; omega) ?_
                            intro v' w6 hown6 hg6 _
                            have hbel6 := own_below (hbel5.alloc hz5 _) (hown5.alloc _) hg6 (Nat.le_refl _) (by simp; omega)
                            rw [← smps_snoc out (S, v1)] at hown6
                            have hk6 : out.length + 1 = (out ++ [(S, v1)]).length := by simp
                            rw [hk6] at hown6
                            clear hown hown5 hbel hbel5 hb5 hg6 hF
                            go_wp2
                            (try rw [Exit.noGoto_ret])
                            refine bodyPost_ret (v := .tuple #[v', .int .i64 0]) (by simp [results, Try.results14, go_sem] <;> rfl) rfl ?_
                            rw [hRn.out]
                            exact ⟨_, rfl, hown6, hbel6⟩
                          · rw [if_pos (by simpa using he1)] at hRs
                            have hRn := hide hRs
                            have ce : (e1 != 0) = true := by simpa using he1
                            clear hRs
                            go_wp2_with (first | (go_at_call 9; with_reducible refine (hF _).mono ?_; rintro e w5 ⟨rfl, hb5⟩; have hs5 := hb5.size))
                            have hbel5 := hbel.trans (hb5.mono hsz)
                            (try rw [Exit.noGoto_ret])
                            refine bodyPost_ret (v := .tuple #[.slice none 0 0, .int .i64 e1]) (by simp [results, Try.results14, go_sem] <;> rfl) rfl ?_
                            rw [hRn.out]
                            exact ⟨_, rfl, ⟨rfl, .inl ⟨rfl, rfl⟩⟩, hbel5⟩
                    · have e2 : a2 = b := by have h1 := hadv.out; rw [adv_end (by omega)] at h1; omega
                      have cbn : decide ((b : Int) < (n : Int)) = false := by simp; omega
                      have cbn' : decide (b < n) = false := by simp; omega
                      have hA2 := ha2
                      clear hadv ha2
                      subst e2
                      have hRs := hR.out
                      rw [winP_step hS hee.out hA1.out.symm hA2.out.symm] at hRs
                      by_cases h12 : a1 = a2
                      · rw [if_pos h12, if_pos rfl] at hRs
                        have hRn := hide hRs
                        have c12 : ((a1 : Int) == (a2 : Int)) = true := by simp; omega
                        clear hRs hR hA1 hA2 hee
                        go_wp2
                        (try rw [Exit.noGoto_ret])
                        refine bodyPost_ret (v := .tuple #[u12, .int .i64 0]) (by simp [results, Try.results14, go_sem] <;> rfl) rfl ?_
                        rw [hRn.out]
                        exact ⟨_, rfl, hown, hbel⟩
                      · rw [if_neg h12] at hRs
                        have c12 : ((a1 : Int) == (a2 : Int)) = false := by simp; omega
                        obtain ⟨hAe, hbb, hcc⟩ := hPl (by omega)
                        (try subst hAe)
                        have q1 : Reads wr wr.heap.size 2 (some ⟨bb, oo + a1 * 2, none⟩) (a2 - a1) (smps (cut l a1 a2)) := ((Reads_take (Reads_drop hr (show a1 ≤ n by omega)) (show a2 - a1 ≤ n - a1 by omega)).below hbel).more hsz
                        have hF := fun c => fold_any op (some ⟨bb, oo + a1 * 2, none⟩) (a2 - a1) c (cut l a1 a2) wr q1 (hl.cut _ _) hop (by omega)
                        have hFb := foldA_bd op (cut l a1 a2) (hl.cut _ _)
                        obtain ⟨v1, p1, e1, hFe⟩ : ∃ v p e, foldA op (cut l a1 a2) = (v, p, e) := ⟨_, _, _, rfl⟩
                        rw [hFe] at hF hRs hFb
                        have k1 : (a1 : Int) ≤ a2 := by omega
                        have k2 : (a2 : Int) ≤ c := by omega
                        have k3 : ¬c = a1 := by omega
                        have k4 : ((a2 : Int) - a1).toNat = a2 - a1 := by omega
                        clear hR hA1 hA2 hee q1 hFe hcc
                        by_cases he1 : e1 = 0
                        · subst he1
                          rw [if_neg (by simp), if_pos rfl] at hRs
                          have hRn := hide hRs
                          clear hRs
                          go_wp2_with (first | (go_at_call 9; with_reducible refine (hF _).mono ?_; rintro e w5 ⟨rfl, hb5⟩; have hs5 := hb5.size) | (at_builtin; refine Held.out ?_))
                          unfold Held
                          have hown5 := own_keep hown hb5
                          have hbel5 := hbel.trans (hb5.mono hsz)
                          have hz5 := hbel5.size
                          refine wpList_append_own _ rfl (.tmp 128) (.tmp 132) 40 rfl w.heap.size 51 i0 (.agg #[.int .i64 0, .int .i64 0]) 2 16 Try.underlying40 hi hz0 hz1 hz2 rfl (by decide) u12 out.length _ rfl (hown5.alloc _) ⟨w5.heap.size, 0, none⟩ 1 1 [.int .i64 S, .int .i64 v1] rfl rfl (cells_new_at _ #[_, _] _ (by simp)) (by simp [Value.oneCell']) (by unfold maxLen; omega) (by omega) (by simp; omega) ?_
                          intro v' w6 hown6 hg6 _
                          have hbel6 := own_below (hbel5.alloc hz5 _) (hown5.alloc _) hg6 (Nat.le_refl _) (by simp; omega)
                          rw [← smps_snoc out (S, v1)] at hown6
                          have hk6 : out.length + 1 = (out ++ [(S, v1)]).length := by simp
                          rw [hk6] at hown6
                          clear hown hown5 hbel hbel5 hb5 hg6 hF
                          go_wp2
                          (try rw [Exit.noGoto_ret])
                          refine bodyPost_ret (v := .tuple #[v', .int .i64 0]) (by simp [results, Try.results14, go_sem] <;> rfl) rfl ?_
                          rw [hRn.out]
                          exact ⟨_, rfl, hown6, hbel6⟩
                        · rw [if_pos (by simpa using he1)] at hRs
                          have hRn := hide hRs
                          have ce : (e1 != 0) = true := by simpa using he1
                          clear hRs
                          go_wp2_with (first | (go_at_call 9; with_reducible refine (hF _).mono ?_; rintro e w5 ⟨rfl, hb5⟩; have hs5 := hb5.size))
                          have hbel5 := hbel.trans (hb5.mono hsz)
                          (try rw [Exit.noGoto_ret])
                          refine bodyPost_ret (v := .tuple #[.slice none 0 0, .int .i64 e1]) (by simp [results, Try.results14, go_sem] <;> rfl) rfl ?_
                          rw [hRn.out]
                          exact ⟨_, rfl, ⟨rfl, .inl ⟨rfl, rfl⟩⟩, hbel5⟩
              · have e2 : a1 = b := by have h1 := hadv.out; rw [adv_end (by omega)] at h1; omega
                have cbn : decide ((b : Int) < (n : Int)) = false := by simp; omega
                have cbn' : decide (b < n) = false := by simp; omega
                have hA1 := ha1
                clear hadv ha1
                subst e2
                have hle2 : adv l to a1 ≤ n := by have := adv_le (l := l) (t := to) (a := a1) (by omega); omega
                obtain ⟨a2, ha2⟩ : ∃ a2, Hid (adv l to a1 = a2) := ⟨_, rfl⟩
                have ha2n : a2 ≤ n := by have := ha2.out; omega
                clear hle2
                go_wp2
                go_loopw [13] (fun va wv => ∃ b : Nat, va = .int .i64 (b : Int) ∧ a1 ≤ b ∧ b ≤ n ∧ Hid (adv l to b = a2) ∧ wv = wr) (fun va _ => ((n : Int) - intOf va).toNat)
                case atStart => exact ⟨a1, rfl, by omega, by omega, ha2, rfl⟩
                case round =>
                  obtain ⟨b, rfl, hab, hb, hadv, rfl⟩ := hrel
                  by_cases hbn : b < n
                  · exfalso; omega
                  · have e2 : a2 = b := by have h1 := hadv.out; rw [adv_end (by omega)] at h1; omega
                    have cbn : decide ((b : Int) < (n : Int)) = false := by simp; omega
                    have cbn' : decide (b < n) = false := by simp; omega
                    have hA2 := ha2
                    clear hadv ha2
                    subst e2
                    have hRs := hR.out
                    rw [winP_step hS hee.out hA1.out.symm hA2.out.symm] at hRs
                    by_cases h12 : a1 = a2
                    · rw [if_pos h12, if_pos rfl] at hRs
                      have hRn := hide hRs
                      have c12 : ((a1 : Int) == (a2 : Int)) = true := by simp; omega
                      clear hRs hR hA1 hA2 hee
                      go_wp2
                      (try rw [Exit.noGoto_ret])
                      refine bodyPost_ret (v := .tuple #[u12, .int .i64 0]) (by simp [results, Try.results14, go_sem] <;> rfl) rfl ?_
                      rw [hRn.out]
                      exact ⟨_, rfl, hown, hbel⟩
                    · exfalso; omega
        · have cS : decide (S < to) = false := by simpa using hS
          rw [winP_end hS] at hR
          go_wp2
          (try rw [Exit.noGoto_ret])
          refine bodyPost_ret (v := .tuple #[u12, .int .i64 0]) (by simp [results, Try.results14, go_sem] <;> rfl) rfl ?_
          rw [hR.out]
          exact ⟨_, rfl, hown, hbel⟩
    · have m1 : decide (fr < to) = false := by simp; omega
      go_enter Try.func14, Try.ntmps14
      go_wp2
      go_step3
      go_wp2
      go_step3
      go_wp2
      clear m1
      go_loopw [12, 13, 14] (fun vo va vs wr => vo = .slice none 0 0 ∧ va = .int .i64 0 ∧ vs = .int .i64 fr ∧ wr = w) (fun _ _ _ _ => 0)
      case atStart => exact ⟨rfl, rfl, rfl, rfl⟩
      case round =>
        obtain ⟨rfl, rfl, rfl, rfl⟩ := hrel
        have cS : decide (fr < to) = false := by simp; omega
        have hR := R'.out
        rw [winP_end (by omega)] at hR
        go_wp2
        (try rw [Exit.noGoto_ret])
        refine bodyPost_ret (v := .tuple #[.slice none 0 0, .int .i64 0]) (by simp [results, Try.results14, go_sem] <;> rfl) rfl ?_
        rw [hR]
        exact ⟨_, rfl, ⟨rfl, .inl ⟨rfl, rfl⟩⟩, Below.refl _ _⟩
end Go.Proofs.Ytijegnhkkgdihaa
