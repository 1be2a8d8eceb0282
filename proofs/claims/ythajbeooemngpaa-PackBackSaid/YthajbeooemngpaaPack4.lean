import Derived.Test.YthajbeooemngpaaPack3
/-! Samples as bytes: the document. -/
namespace Go.Proofs.Ythajbeooemngpaa
open Go.RowKit
set_option linter.unusedVariables false
set_option linter.unusedSimpArgs false
theorem pn_pred {l : List (Int × Int)} {j : Nat} (h : 0 < j) : pn l j = nm l (j - 1) := by
  cases j with
  | zero => omega
  | succ m => rfl
set_option maxRecDepth 100000 in
theorem growth_any (A : Option Addr) (n c : Nat) (l : List (Int × Int)) (j : Nat) (i : Int) (w : World) (hr : Reads w w.heap.size 2 A n (smps l)) (hg : goodP l = true) (hj : j ≤ n) (hi : i = (j : Int) - 1) (hn : n ≤ 65536) :
    Calls Try.prog 69 #[.slice A n c, .int .i64 i] w fun e w' => e = .returned (.int .i64 (pg l j)) ∧ Below w.heap.size w w' := by
  have hl : l.length = n := by have := hr.1; rw [smps_length] at this; omega
  subst hi
  rcases j with _ | _ | m
  · rw [show ((0 : Nat) : Int) - 1 = -1 by omega]
    go_enter Try.func69, Try.ntmps69
    go_wp2
    refine bodyPost_ret (v := .int .i64 0) (by simp [results, Try.results69, go_sem] <;> rfl) rfl ⟨?_, by (repeat' (first | with_reducible exact Below.refl _ _ | with_reducible refine Below.ext ?_ ?_ _ | with_reducible refine Below.alloc ?_ ?_ _ | with_reducible refine Below.setCell ?_ ?_ _ | with_reducible refine Below.drew ?_ | with_reducible assumption | (simp [World.size_ext]; done) | (simp [World.size_ext]; omega)))⟩
    rfl
  · rw [show ((0 + 1 : Nat) : Int) - 1 = 0 by omega, Nat.zero_add]
    obtain ⟨b, o, rfl, hbb, hc⟩ := hr.plain (by omega) (by omega)
    have hg0 : l[0]? = some l[0] := List.getElem?_eq_getElem (by omega)
    have m1 : w.cell? ⟨b, o, none⟩ = some (.int .i64 l[0].1) := by simpa using hc _ _ (smps_get l 0 _ hg0).1
    have hlj : (0 : Int) < n := by omega
    have e1 : pg l 1 = l[0].1 := by simp only [pg, pt]; rw [tm_get hg0]; omega
    rw [e1]
    generalize l[0] = p at *
    clear hc hr
    go_enter Try.func69, Try.ntmps69
    go_wp2
    refine bodyPost_ret (v := .int .i64 p.1) (by simp [results, Try.results69, go_sem] <;> rfl) rfl ⟨?_, by (repeat' (first | with_reducible exact Below.refl _ _ | with_reducible refine Below.ext ?_ ?_ _ | with_reducible refine Below.alloc ?_ ?_ _ | with_reducible refine Below.setCell ?_ ?_ _ | with_reducible refine Below.drew ?_ | with_reducible assumption | (simp [World.size_ext]; done) | (simp [World.size_ext]; omega)))⟩
    rfl
  · rw [show ((m + 1 + 1 : Nat) : Int) - 1 = (m : Int) + 1 by omega]
    obtain ⟨b, o, rfl, hbb, hc⟩ := hr.plain (by omega) (by omega)
    have hg0 : l[m]? = some l[m] := List.getElem?_eq_getElem (by omega)
    have hg1 : l[m + 1]? = some l[m + 1] := List.getElem?_eq_getElem (by omega)
    have m1 : w.cell? ⟨b, o + m * 2, none⟩ = some (.int .i64 l[m].1) := hc _ _ (smps_get l m _ hg0).1
    have m2 : w.cell? ⟨b, o + (m + 1) * 2, none⟩ = some (.int .i64 l[m + 1].1) := hc _ _ (smps_get l (m + 1) _ hg1).1
    have t1 := tm_bd hg (i := m) (by omega)
    have t2 := tm_bd hg (i := m + 1) (by omega)
    have e1 : pg l (m + 1 + 1) = l[m + 1].1 - l[m].1 := by simp only [pg, pt]; rw [tm_get hg0, tm_get hg1]
    have k3 : (m : Int) < n := by omega
    have k5 : m < n := by omega
    have k6 : (m : Int) + 1 < n := by omega
    have k7 : (0 : Int) ≤ (m : Int) + 1 := by omega
    have k8 : ((m : Int) + 1).toNat = m + 1 := by omega
    have k9 : m + 1 < n := by omega
    have k1 : IntKind.i64.wrap (m : Int) = (m : Int) := IntWalk.i64_in _ (by omega)
    have k2 : ((m : Int) + 1 == 0) = false := by simp; omega
    rw [e1]
    rw [tm_get hg0] at t1
    rw [tm_get hg1] at t2
    generalize l[m] = q at *
    generalize l[m + 1] = p at *
    have e2 : IntKind.i64.wrap (p.1 - q.1) = p.1 - q.1 := IntWalk.i64_in _ (by omega)
    clear hc hr hg0 hg1 e1
    go_enter Try.func69, Try.ntmps69
    go_wp2
    refine wp_region_ext_lit (by kernel_rfl) (by kernel_rfl) ?_
    (repeat (first | ((with_reducible refine wpQuiet_step (fun K hK => ?_)); go_simp; first | ((with_reducible refine hK _ ?_); clear hK K) | (apply Exists.intro; (with_reducible refine ⟨fun _ => ?_, hK _ ?_⟩); skip; clear hK K)) | ((with_reducible refine quiet_skipN ?_ (fun K hK => ?_)); (rfl); go_simp; (with_reducible refine hK _ ?_); clear hK K)))
    (with_reducible refine wpQuiet_nil ?_); intro _ hw'; obtain ⟨Y, hw''⟩ := hw'; subst hw''
    go_wp2
    refine bodyPost_ret (v := .int .i64 (p.1 - q.1)) (by simp [results, Try.results69, go_sem] <;> rfl) rfl ⟨?_, by (repeat' (first | with_reducible exact Below.refl _ _ | with_reducible refine Below.ext ?_ ?_ _ | with_reducible refine Below.alloc ?_ ?_ _ | with_reducible refine Below.setCell ?_ ?_ _ | with_reducible refine Below.drew ?_ | with_reducible assumption | (simp [World.size_ext]; done) | (simp [World.size_ext]; omega)))⟩
    rfl
set_option maxRecDepth 100000 in
set_option maxHeartbeats 2000000 in
theorem rpack_any (A : Option Addr) (n c : Nat) (l : List (Int × Int)) (w : World) (hr : Reads w w.heap.size 2 A n (smps l)) (h64 : I64s l) (hn : n * 16 ≤ 140737488355328) :
    Calls Try.prog 17 #[.slice A n c] w fun e w' => ((fineP l = true ∧ ∃ u, e = .returned (.tuple #[u, .int .i64 0]) ∧ Row w' w.heap.size u (packB l n)) ∨ (fineP l = false ∧ e = .returned (.tuple #[.slice none 0 0, .int .i64 1]))) ∧ Below w.heap.size w w' := by
  have hl : l.length = n := by have := hr.1; rw [smps_length] at this; omega
  have hpr := rpright_any A n c l w hr hn
  have hfp : (decide (n ≤ 65536) && goodP l) = fineP l := by unfold fineP; rw [hl]
  rw [hfp] at hpr
  by_cases hf : fineP l = true
  · rw [hf] at hpr
    have hlen : n ≤ 65536 := by unfold fineP at hf; rw [hl] at hf; simp at hf; exact hf.1
    have hg : goodP l = true := by unfold fineP at hf; simp at hf; exact hf.2
    have hUn : U64 (n : Int) := by unfold U64; omega
    go_enter Try.func17, Try.ntmps17
    go_wp2_with (first | (go_at_call 20; (with_reducible refine (hpr).mono ?_); rintro e w1 ⟨rfl, hb1⟩) | (go_at_call 67; (with_reducible refine (rnum_any w.heap.size _ _ _ _ (Row.nil _ _) hb1.size hUn (by simp)).mono ?_); rintro e w3 ⟨v3, rfl, hr3, hg3⟩))
    have hb3 : Below w.heap.size w w3 := hb1.trans (hg3.below (Row.nil w1 w.heap.size) hb1.size)
    rw [show [] ++ numB ((n : Int)).toNat = packB l 0 by simp [packB, hl]] at hr3
    clear hg3
    go_loopw [4, 5] (fun vb vi wr => ∃ (j : Nat), j ≤ n ∧ vi = .int .i64 (j : Int) ∧ Row wr w.heap.size vb (packB l j) ∧ Below w.heap.size w wr) (fun _ vi _ => ((n : Int) - intOf vi).toNat)
    case atStart => exact ⟨0, by omega, rfl, hr3, hb3⟩
    case round =>
      clear hr3 hb3 hb1
      obtain ⟨j, hj, rfl, hrow, hb⟩ := hrel
      obtain ⟨wo, rfl⟩ : ∃ wo : World, wo = wr := ⟨_, rfl⟩
      have hs := hb.size
      have hk := packB_length l (by omega) hg j (by omega)
      by_cases hlt : j < n
      · have hro : Reads wo wo.heap.size 2 A n (smps l) := (hr.below hb).more hs
        obtain ⟨b, o, rfl, hbb, hc⟩ := hr.plain (by omega) (by omega)
        have hgj : l[j]? = some l[j] := List.getElem?_eq_getElem (by omega)
        have m2 : wo.cell? ⟨b, o + j * 2 + 1, none⟩ = some (.int .i64 l[j].2) := by rw [hb.cell (p := ⟨b, _, none⟩) hbb, Nat.add_assoc]; exact hc _ _ (smps_get l j _ hgj).2
        have hbw : b < wo.heap.size := by omega
        have hlj : (j : Int) < n := by omega
        have hU1 := dd_bd hg (i := j) (by omega)
        have hU2 : I64 (dn l j) := wrap_bd _
        have HB : Hid (packB l (j + 1) = packB l j ++ (numB (zig (dd l j)) ++ numB (zig (dn l j)))) := rfl
        have e1 : pg l (j + 1) - pg l j = dd l j := rfl
        have hlA : (packB l j).length + 9 ≤ 140737488355328 := by omega
        have HD := numB_le _ (zig_lt _ hU1)
        have hlB : (packB l j ++ numB (zig (dd l j))).length + 9 ≤ 140737488355328 := by rw [List.length_append]; omega
        have f1 : wrap64 (dd l j) = dd l j := by unfold I64 at hU1; unfold wrap64; omega
        have f2 : IntKind.i64.wrap (dd l j) = dd l j := IntWalk.i64_in _ hU1
        have hw1 : ∀ w', Below wo.heap.size wo w' → Calls Try.prog 69 #[.slice (some ⟨b, o, none⟩) n c, .int .i64 (j : Int)] w' fun e w'' => e = .returned (.int .i64 (pg l (j + 1))) ∧ Below w'.heap.size w' w'' := fun w' h => growth_any _ n c l (j + 1) _ w' ((hro.below h).more h.size) hg (by omega) (by omega) hlen
        have hw2 : ∀ w', Below wo.heap.size wo w' → Calls Try.prog 69 #[.slice (some ⟨b, o, none⟩) n c, .int .i64 ((j : Int) - 1)] w' fun e w'' => e = .returned (.int .i64 (pg l j)) ∧ Below w'.heap.size w' w'' := fun w' h => growth_any _ n c l j _ w' ((hro.below h).more h.size) hg (by omega) (by omega) hlen
        have k1 : IntKind.i64.wrap ((j : Int) - 1) = (j : Int) - 1 := IntWalk.i64_in _ (by omega)
        have hnn := nm_get hgj
        have t4 := (h64 l[j] (List.getElem_mem _))
        rcases Nat.eq_zero_or_pos j with h0 | h0
        · have c5 : decide ((0 : Int) < (j : Int)) = false := by simp only [decide_eq_false_iff_not]; omega
          have c6 : decide (0 < j) = false := by simp only [decide_eq_false_iff_not]; omega
          have e5 : dn l j = l[j].2 := by subst h0; unfold dn; rw [hnn]; simp only [pn]; unfold wrap64; omega
          rw [← e5] at m2
          clear hc hr h64 hpr hfp hf hg hgj hnn hl hro h0 t4 e5
          go_wp2_with (first | (go_at_call 69; (with_reducible refine (hw1 _ (Below.refl _ _)).mono ?_); rintro e w4 ⟨rfl, hb4⟩) | ((go_at_call 69; (with_reducible refine (hw2 _ hb4).mono ?_); rintro e w5 ⟨rfl, hb5⟩); have hb45 := hb4.trans (hb5.mono hb4.size); have hr5 := hrow.below hb45; have hsb5 := Nat.le_trans hs hb45.size) | (go_at_call 68; (with_reducible refine (rint_any w.heap.size _ _ _ _ hr5 hsb5 hU1 hlA).mono ?_); rintro e w6 ⟨v6, rfl, hr6, hg6⟩) | (go_at_call 68; (with_reducible refine (rint_any w.heap.size _ _ _ _ hr6 (Nat.le_trans hsb5 hg6.size) hU2 hlB).mono ?_); rintro e w7 ⟨v7, rfl, hr7, hg7⟩))
          go_roundw; (case rel => exact ⟨j + 1, by omega, by go_num, by rw [HB.out, ← List.append_assoc]; exact hr7, (hb.trans (hb45.mono hs)).trans (((hg6.trans hg7).below hr5 hsb5))⟩); (case measure => simp [intOf]; omega)
        · have hgi : l[j - 1]? = some l[j - 1] := List.getElem?_eq_getElem (by omega)
          have m3 : wo.cell? ⟨b, o + (j - 1) * 2 + 1, none⟩ = some (.int .i64 l[j - 1].2) := by rw [hb.cell (p := ⟨b, _, none⟩) hbb, Nat.add_assoc]; exact hc _ _ (smps_get l (j - 1) _ hgi).2
          have t5 := (h64 l[j - 1] (List.getElem_mem _))
          have c5 : decide ((0 : Int) < (j : Int)) = true := by simp only [decide_eq_true_eq]; omega
          have c6 : (0 : Int) < (j : Int) := by omega
          have k3 : (j : Int) - 1 < n := by omega
          have k5 : j - 1 < n := by omega
          have k7 : (0 : Int) ≤ (j : Int) - 1 := by omega
          have k8 : ((j : Int) - 1).toNat = j - 1 := by omega
          have e5 : dn l j = wrap64 (l[j].2 - l[j - 1].2) := by unfold dn; rw [hnn, pn_pred h0, nm_get hgi]
          generalize l[j] = p at *
          generalize l[j - 1] = q at *
          have f3 : IntKind.i64.wrap (IntKind.u64.wrap (IntKind.u64.wrap p.2 - IntKind.u64.wrap q.2)) = dn l j := by rw [e5]; unfold wrap64; simp [IntKind.wrap, IntKind.signed, IntKind.bits]; omega
          clear hc hr h64 hpr hfp hf hg hgj hnn hl hro h0 t4 t5 e5 hgi
          go_wp2_with (first | (go_at_call 69; (with_reducible refine (hw1 _ (Below.refl _ _)).mono ?_); rintro e w4 ⟨rfl, hb4⟩) | ((go_at_call 69; (with_reducible refine (hw2 _ hb4).mono ?_); rintro e w5 ⟨rfl, hb5⟩); have hb45 := hb4.trans (hb5.mono hb4.size); have hr5 := hrow.below hb45; have hsb5 := Nat.le_trans hs hb45.size) | (go_at_call 68; (with_reducible refine (rint_any w.heap.size _ _ _ _ hr5 hsb5 hU1 hlA).mono ?_); rintro e w6 ⟨v6, rfl, hr6, hg6⟩) | (go_at_call 68; (with_reducible refine (rint_any w.heap.size _ _ _ _ hr6 (Nat.le_trans hsb5 hg6.size) hU2 hlB).mono ?_); rintro e w7 ⟨v7, rfl, hr7, hg7⟩))
          go_roundw; (case rel => exact ⟨j + 1, by omega, by go_num, by rw [HB.out, ← List.append_assoc]; exact hr7, (hb.trans (hb45.mono hs)).trans (((hg6.trans hg7).below hr5 hsb5))⟩); (case measure => simp [intOf]; omega)
      · obtain rfl : j = n := by omega
        clear hr
        go_wp2
        refine bodyPost_ret (v := .tuple #[_, .int .i64 0]) (by simp [results, Try.results17, go_sem] <;> rfl) rfl ⟨.inl ⟨hf, _, rfl, hrow⟩, hb⟩
  · have hff : fineP l = false := by simpa using hf
    rw [hff] at hpr
    go_enter Try.func17, Try.ntmps17
    go_wp2_with (first | (go_at_call 20; (with_reducible refine (hpr).mono ?_); rintro e w1 ⟨rfl, hb1⟩))
    refine bodyPost_ret (v := .tuple #[.slice none 0 0, .int .i64 1]) (by simp [results, Try.results17, go_sem] <;> rfl) rfl ⟨.inr ⟨hff, rfl⟩, hb1⟩
end Go.Proofs.Ythajbeooemngpaa
