import Derived.Test.YtjhcgnmibnjocaaGJ
/-! Several texts in one. -/
/-! Nodes: a step: the control changes. -/
namespace Go.Proofs.Ytjhcgnmibnjocaa
open Go.RowKit Go.Maps
set_option linter.unusedVariables false
set_option linter.unusedSimpArgs false
attribute [local irreducible] First.wpF
def fiveN (s : Nd) (n : Nat) (ms : List Int) : Nd := if (∀ x ∈ ms, 0 ≤ x ∧ x < 4) ∧ changeE s.c n ms = 0 then leadN { s with c := changed s.c n ms } else s
theorem fiveN_no {s : Nd} {n : Nat} {ms : List Int} (h : ¬((∀ x ∈ ms, 0 ≤ x ∧ x < 4) ∧ changeE s.c n ms = 0)) : fiveN s n ms = s := by unfold fiveN; rw [if_neg h]
theorem fiveN_yes {s : Nd} {n : Nat} {ms : List Int} (h : (∀ x ∈ ms, 0 ≤ x ∧ x < 4) ∧ changeE s.c n ms = 0) : fiveN s n ms = leadN { s with c := changed s.c n ms } := by unfold fiveN; rw [if_pos h]
set_option maxRecDepth 100000 in
set_option maxHeartbeats 4000000 in
theorem does_five_yes {o : Nat → Option Nat} {g br bk gc bm bs cr : Nat} {gr : Nat → Nat} {vp : Value} {vk : Nat → Value} {s : Nd} (w : World) (h : NdX w o g s br bk gc bm bs cr gr vp vk) (a b : Int) (Am : Option Addr) (m cm : Nat) (hpl : s.post.length ≤ 1000) (hkl : ∀ n, n < 4 → (s.kept n).length ≤ 1000) (hn1 : s.n ≤ 1000) (ms : List Int) (hc0 : changeE s.c (nOf a) ms = 0) (hms : Reads w w.heap.size 1 Am m (ints ms) ∧ (0 < m → ∀ a, Am = some a → ¬OT o a.block) ∧ m * 8 ≤ 140737488355328) :
    Calls Try.prog 34 #[.pointer (some ⟨g, 0, none⟩), .agg #[.int .i64 (5), .int .i64 a, .int .i64 b, .slice Am m cm]] w (Does o g (fiveN s (nOf a) ms) w) := by
  have hna := nOf_eq a
  have hnl := nOf_lt a
  generalize nOf a = n at *
  have hke : 0 < s.post.length → wrap64 ((IntKind.u64.wrap b).tmod (s.post.length : Int)) = (kOf b s.post.length : Int) := fun h0 => kOf_eq b h0 (by omega)
  have hk0 : s.post.length = 0 → kOf b s.post.length = 0 := fun h0 => by rw [h0]; rfl
  have hkl0 : 0 < s.post.length → kOf b s.post.length < s.post.length := fun h0 => kOf_lt b h0
  generalize kOf b s.post.length = k at *
  obtain ⟨Ap, cp, hvp, _⟩ := h.po.sl
  subst hvp
  have c0 := h.blk.cell
  have l0 := h.blk.lt
  have hbA : Below w.heap.size w (w.alloc (.cells #[.int .i64 (5), .int .i64 a, .int .i64 b, .slice Am m cm] 80)) := Below.alloc (Below.refl _ _) (Nat.le_refl _) _
  have hP := Blk.new w 80 #[.int .i64 (5), .int .i64 a, .int .i64 b, .slice Am m cm]
  have hX0 := h.below hbA
  have HC := hide hc0
  clear hc0
  have HMS := hide hms
  clear hms
  go_enter Try.func34, Try.ntmps34
  go_upto_if 32 with fail
  rw [hna]
  go_cut [6] (fun v6 wx => v6 = .int .i64 (k : Int) ∧ Below w.heap.size w wx ∧ Blk wx w.heap.size 80 #[.int .i64 (5), .int .i64 a, .int .i64 b, .slice Am m cm])
  case first =>
    rcases Nat.eq_zero_or_pos s.post.length with h0 | h0
    · have d0 : decide ((0 : Int) < s.post.length) = false := decide_eq_false (by omega)
      have d0' : decide (0 < s.post.length) = false := decide_eq_false (by omega)
      have hk00 := hk0 h0
      subst hk00
      rw [d0']
      clear h0
      go_wp2
      go_meet
      case rel => exact ⟨rfl, hbA, hP⟩
    · have d0 : decide ((0 : Int) < s.post.length) = true := decide_eq_true (by omega)
      have d0' : decide (0 < s.post.length) = true := decide_eq_true h0
      have hwl : IntKind.u64.wrap (s.post.length : Int) = (s.post.length : Int) := by rw [IntKind.wrap_u64]; omega
      have hz2 : ¬s.post = [] := fun e => by rw [e] at h0; cases h0
      have hkb := hke h0
      have hkb' : IntKind.i64.wrap ((IntKind.u64.wrap b).tmod (s.post.length : Int)) = (k : Int) := (IntWalk.i64_left _).trans hkb
      rw [d0']
      clear h0
      go_wp2
      refine wp_region_ext_lit (by kernel_rfl) (by kernel_rfl) ?_
      (repeat (first | ((with_reducible refine wpQuiet_step (fun K hK => ?_)); go_simp; first | ((with_reducible refine hK _ ?_); clear hK K) | (apply Exists.intro; (with_reducible refine ⟨fun _ => ?_, hK _ ?_⟩); skip; clear hK K)) | ((with_reducible refine quiet_skipN ?_ (fun K hK => ?_)); (rfl); go_simp; (with_reducible refine hK _ ?_); clear hK K)))
      (with_reducible refine wpQuiet_nil ?_); intro _ hw'; obtain ⟨Y, hw''⟩ := hw'; subst hw''
      go_wp2
      go_meet
      case rel => exact ⟨rfl, by (repeat' (first | with_reducible exact Below.refl _ _ | with_reducible refine Below.ext ?_ ?_ _ | with_reducible refine Below.alloc ?_ ?_ _ | with_reducible refine Below.setCell ?_ ?_ _ | with_reducible refine Below.drew ?_ | with_reducible assumption | (simp [World.size_ext]; done) | (simp [World.size_ext]; omega))), hP.ext Y⟩
  case rest =>
  clear hX0 hbA hP c0 l0
  obtain ⟨rfl, hbW, hP⟩ := hcut
  have hX := h.below hbW
  have hgW := Goes.below (o := o) hbW
  have cP := hP.cell
  have lP := hP.lt
  have cX := hX.blk.cell
  have lX := hX.blk.lt
  obtain ⟨hmR, hmT, hml⟩ := HMS.out
  have hmRc : Reads wc wc.heap.size 1 Am m (ints ms) := Reads.kp hmR (Kp.of_below (S := fun _ => False) hbW) (fun _ _ _ h => h)
  go_wp2
  go_loopw [213] (fun vi wr => ∃ j : Nat, j ≤ m ∧ vi = .int .i64 (j : Int) ∧ (∀ x ∈ ms.take j, 0 ≤ x ∧ x < 4) ∧ wr = wc) (fun vi _ => ((m : Int) - intOf vi).toNat)
  case atStart => exact ⟨0, by omega, rfl, (fun x hx => by cases hx), rfl⟩
  case round =>
    obtain ⟨j, hj, rfl, hall, rfl⟩ := hrel
    have hlm : ms.length = m := by have := hmRc.1; rw [ints_length] at this; omega
    by_cases hlt : j < m
    · obtain ⟨bx, ox, rfl, hbx, hcx⟩ := hmRc.plain (by omega) (by omega)
      have hg : ms[j]? = some ms[j] := List.getElem?_eq_getElem (by omega)
      have mx := hcx _ _ (ints_get hg)
      have htk : ms.take (j + 1) = ms.take j ++ [ms[j]] := by rw [List.take_add_one, hg]; rfl
      have hmem : ms[j] ∈ ms := List.getElem_mem (by omega)
      generalize ms[j] = x at *
      have HG := hide (⟨htk, hmem, hall⟩ : _ ∧ _ ∧ _)
      have hlj : (j : Int) < m := by omega
      clear hg htk hmem hall hcx
      have cP' := hP.cell
      by_cases hx : 0 ≤ x ∧ x < 4
      · have d1 : decide (x < 0) = false := decide_eq_false (by omega)
        have d2 : decide ((4 : Int) ≤ x) = false := decide_eq_false (by omega)
        have HX := hide hx
        clear hx
        go_wp2
        go_roundw
        case rel =>
          refine ⟨j + 1, by omega, by go_num, fun y hy => ?_, by first | rfl | trivial⟩
          obtain ⟨g1, g2, g3⟩ := HG.out
          rw [g1] at hy
          rcases List.mem_append.1 hy with hy | hy
          · exact g3 y hy
          · rw [List.mem_singleton] at hy; rw [hy]; exact HX.out
        case measure => simp [intOf]; omega
      · have hfn : fiveN s n ms = s := fiveN_no (fun h => hx (h.1 x HG.out.2.1))
        rw [hfn]
        by_cases h0 : x < 0
        · have d1 : decide (x < 0) = true := decide_eq_true h0
          clear h0 hx
          go_wp2
          go_ret
          exact does_mk hX hgW
        · have d1 : decide (x < 0) = false := decide_eq_false h0
          have d2 : decide ((4 : Int) ≤ x) = true := decide_eq_true (by omega)
          clear h0 hx
          go_wp2
          go_ret
          exact does_mk hX hgW
    · obtain rfl : j = m := by omega
      rw [List.take_of_length_le (by omega)] at hall
      have hXb := hX.blk
      have hoc := hX.oct
      have hck := hX.ck
      obtain ⟨W, hWe⟩ : ∃ W : World, W = wr := ⟨_, rfl⟩
      have hc := HC.out
      have hfn : fiveN s n ms = leadN { s with c := changed s.c n ms } := fiveN_yes ⟨hall, hc⟩
      have HFN := hide hfn
      have hCh := fun (V : World) (hb : Below wr.heap.size wr V) => change_yes gc bm bs s.c (n : Int) Am j cm ms V (hX.below hb).ct (Reads.kp hmRc (Kp.of_below (S := fun _ => False) hb) (fun _ _ _ h => h)) hml hck.sb hc hck.e.1 (fun h0 a ha e => hmT h0 a ha (by rw [e]; exact tg_OT hoc.1)) (fun h0 a ha e => hmT h0 a ha (by rw [e]; exact tg_OT hoc.2.2))
      have hck2 := changeK_ok hck hc (by have : ms.length = j := hlm; omega)
      go_upto_region 33 with fail
      go_cut [19] (fun v19 wx => v19 = .int .i64 0 ∧ ∃ o5 bm', NdX wx o5 g { s with c := changed s.c n ms } br bk gc bm' bs cr gr (.slice Ap s.post.length cp) vk ∧ Goes o o5 w wx)
      case first =>
        refine First.wp_region_tree_ext [3, 6] [0, 1, 2, 4, 5, 8, 9, 10] (.fork [(true, false, 0), (true, false, 1), (true, false, 2), (true, true, 3), (true, false, 4), (true, false, 5), (true, true, 6)] false 7 (.leaf [(true, false, 8), (true, false, 9), (true, false, 10), (false, false, 11), (false, false, 12), (false, false, 13)]) true 11 (.leaf [(false, false, 7), (true, false, 8), (true, false, 9), (true, false, 10), (false, false, 12), (false, false, 13)])) (by kernel_rfl) (by kernel_rfl) (fun X => ?_); simp only [First.wpT, List.map_cons, List.map_nil, List.getD_cons_zero, List.getD_cons_succ]
        (repeat (first | (refine First.wpF_pure (fun K hK => ?_); go_simp; first | (refine hK _ _ ?_; clear hK K) | (apply Exists.intro; refine ⟨fun _ => ?_, hK _ _ ?_⟩; fail)) | (refine First.wpF_free (fun K hK => ?_); go_simp; first | (refine hK _ _ ?_; clear hK K))))
        have hbx : Below wr.heap.size wr (wr.ext X) := World.below_ext wr X
        have hXV := hX.below hbx
        have hgV := hgW.trans (Goes.below (o := o) hbx)
        have hCX := hCh _ hbx
        have hCY := hCh _ (hbx.alloc hbx.size (.cells #[.int .i64 0, .int .i64 0, .slice none 0 0] 39))
        generalize wr.ext X = V at *
        refine First.wpF_nil ?_
        refine First.Both.mk ?_ ?_
        · refine First.wpF_must (fun K hK => ?_)
          go_wp2_with (go_at_call 86; (with_reducible refine hCX.mono ?_); rintro e w5 ⟨⟨v5, bm', B5, rfl, ho5, hC5, hbm5, hB5⟩, hO5⟩; obtain ⟨A5, c5, rfl, _⟩ := own_sl ho5; obtain ⟨o5, hX5, hg5⟩ := hXV.control (Kp.of_both hO5 hoc.1 hoc.2.2) hC5 hck2 (.inr hbm5) (.inl rfl))
          (refine hK _ _ (fun hnd => by first | exact Bool.noConfusion hnd | assumption | with_reducible exact grown_alloc _ _ | with_reducible exact First.Grown.refl _ | with_reducible exact First.Grown.cat _ _ _ | with_reducible exact First.Grown.ext _ _) ?_; clear hK K)
          refine First.wpF_nil ?_
          (repeat (first | (refine First.wpF_pure (fun K hK => ?_); go_simp; first | (refine hK _ _ ?_; clear hK K) | (apply Exists.intro; refine ⟨fun _ => ?_, hK _ _ ?_⟩; fail)) | (refine First.wpF_free (fun K hK => ?_); go_simp; first | (refine hK _ _ ?_; clear hK K))))
          refine First.wpF_must (fun K hK => ?_)
          go_wp2
          (refine hK _ _ (fun hnd => by first | exact Bool.noConfusion hnd | assumption | with_reducible exact grown_alloc _ _ | with_reducible exact First.Grown.refl _ | with_reducible exact First.Grown.cat _ _ _ | with_reducible exact First.Grown.ext _ _) ?_; clear hK K)
          (repeat (first | (refine First.wpF_pure (fun K hK => ?_); go_simp; first | (refine hK _ _ ?_; clear hK K) | (apply Exists.intro; refine ⟨fun _ => ?_, hK _ _ ?_⟩; fail)) | (refine First.wpF_free (fun K hK => ?_); go_simp; first | (refine hK _ _ ?_; clear hK K))))
          refine First.wpF_must (fun K hK => ?_)
          go_wp2
          (refine hK _ _ (fun hnd => by first | exact Bool.noConfusion hnd | assumption | with_reducible exact grown_alloc _ _ | with_reducible exact First.Grown.refl _ | with_reducible exact First.Grown.cat _ _ _ | with_reducible exact First.Grown.ext _ _) ?_; clear hK K)
          refine First.wpF_must (fun K hK => ?_)
          go_wp2
          (refine hK _ _ (fun hnd => by first | exact Bool.noConfusion hnd | assumption | with_reducible exact grown_alloc _ _ | with_reducible exact First.Grown.refl _ | with_reducible exact First.Grown.cat _ _ _ | with_reducible exact First.Grown.ext _ _) ?_; clear hK K)
          refine First.wpF_nil ?_
          go_wp2_with fail
          go_meet
          case rel =>
            have hbA : Below w5.heap.size w5 (w5.alloc (.cells #[.int .i64 (s.c.e + 1), .int .i64 (n : Int), .slice A5 j c5] 39)) := Below.alloc (Below.refl _ _) (Nat.le_refl _) _
            exact ⟨rfl, o5, bm', hX5.below hbA, (hgV.trans hg5).trans (Goes.below hbA)⟩
        · refine First.wpF_must (fun K hK => ?_)
          go_wp2
          (refine hK _ _ (fun hnd => by first | exact Bool.noConfusion hnd | assumption | with_reducible exact grown_alloc _ _ | with_reducible exact First.Grown.refl _ | with_reducible exact First.Grown.cat _ _ _ | with_reducible exact First.Grown.ext _ _) ?_; clear hK K)
          refine First.wpF_nil ?_
          (repeat (first | (refine First.wpF_pure (fun K hK => ?_); go_simp; first | (refine hK _ _ ?_; clear hK K) | (apply Exists.intro; refine ⟨fun _ => ?_, hK _ _ ?_⟩; fail)) | (refine First.wpF_free (fun K hK => ?_); go_simp; first | (refine hK _ _ ?_; clear hK K))))
          have hlC := hXV.ct.lt
          have hZ := Blk.new V 39 #[.int .i64 0, .int .i64 0, .slice none 0 0]
          refine First.wpF_must (fun K hK => ?_)
          go_wp2_with ((go_at_call 86; (with_reducible refine hCY.mono ?_); rintro e w5 ⟨⟨v5, bm', B5, rfl, ho5, hC5, hbm5, hB5⟩, hO5⟩; obtain ⟨A5, c5, rfl, _⟩ := own_sl ho5; have hZ5 := Blk.both2 hZ hO5 (by omega) (by omega); have cZ := hZ5.cell; have fZ := hZ5.frozen; have lZ := hZ5.lt))
          (refine hK _ _ (fun hnd => by first | exact Bool.noConfusion hnd | assumption | with_reducible exact grown_alloc _ _ | with_reducible exact First.Grown.refl _ | with_reducible exact First.Grown.cat _ _ _ | with_reducible exact First.Grown.ext _ _) ?_; clear hK K)
          (repeat (first | (refine First.wpF_pure (fun K hK => ?_); go_simp; first | (refine hK _ _ ?_; clear hK K) | (apply Exists.intro; refine ⟨fun _ => ?_, hK _ _ ?_⟩; fail)) | (refine First.wpF_free (fun K hK => ?_); go_simp; first | (refine hK _ _ ?_; clear hK K))))
          refine First.wpF_must (fun K hK => ?_)
          go_wp2
          (refine hK _ _ (fun hnd => by first | exact Bool.noConfusion hnd | assumption | with_reducible exact grown_alloc _ _ | with_reducible exact First.Grown.refl _ | with_reducible exact First.Grown.cat _ _ _ | with_reducible exact First.Grown.ext _ _) ?_; clear hK K)
          refine First.wpF_must (fun K hK => ?_)
          go_wp2
          (refine hK _ _ (fun hnd => by first | exact Bool.noConfusion hnd | assumption | with_reducible exact grown_alloc _ _ | with_reducible exact First.Grown.refl _ | with_reducible exact First.Grown.cat _ _ _ | with_reducible exact First.Grown.ext _ _) ?_; clear hK K)
          refine First.wpF_nil ?_
          go_wp2_with fail
          go_meet
          case rel =>
            simp only [World.size_alloc] at hbm5
            have hK : Kp (tg o 3) V (((w5.setCell ⟨V.heap.size, 0, none⟩ (.int .i64 (s.c.e + 1))).setCell ⟨V.heap.size, 1, none⟩ (.int .i64 (n : Int))).setCell ⟨V.heap.size, 2, none⟩ (.slice A5 j c5)) := ((((Kp.of_below (Below.alloc (Below.refl _ _) (Nat.le_refl _) _)).trans (Kp.of_both hO5 hoc.1 hoc.2.2)).set_ (.inr (Nat.le_refl _)) _).set_ (.inr (Nat.le_refl _)) _).set_ (.inr (Nat.le_refl _)) _
            have hC6 : Ctl (((w5.setCell ⟨V.heap.size, 0, none⟩ (.int .i64 (s.c.e + 1))).setCell ⟨V.heap.size, 1, none⟩ (.int .i64 (n : Int))).setCell ⟨V.heap.size, 2, none⟩ (.slice A5 j c5)) gc bm' bs _ := ((hC5.set_ (q := ⟨V.heap.size, 0, none⟩) (by show gc ≠ V.heap.size; omega) (by show bm' ≠ V.heap.size; omega) (by show bs ≠ V.heap.size; omega) _).set_ (q := ⟨V.heap.size, 1, none⟩) (by show gc ≠ V.heap.size; omega) (by show bm' ≠ V.heap.size; omega) (by show bs ≠ V.heap.size; omega) _).set_ (q := ⟨V.heap.size, 2, none⟩) (by show gc ≠ V.heap.size; omega) (by show bm' ≠ V.heap.size; omega) (by show bs ≠ V.heap.size; omega) _
            obtain ⟨o5, hX5, hg5⟩ := hXV.control hK hC6 hck2 (.inr (by omega)) (.inl rfl)
            exact ⟨rfl, o5, bm', hX5, hgV.trans hg5⟩
      case rest =>
        obtain ⟨rfl, o5, bm', hX5, hg5⟩ := hcut
        have hld := nlead_any wc hX5 (by show s.post.length ≤ 10000; omega)
        go_wp2_with (go_at_call 84; (with_reducible refine hld.mono ?_); rintro e w6 ⟨rfl, o6, vp6, hX6, hg6⟩)
        go_ret
        rw [HFN.out]
        exact does_mk hX6 (hg5.trans hg6)
set_option maxRecDepth 100000 in
set_option maxHeartbeats 4000000 in
theorem does_five_no {o : Nat → Option Nat} {g br bk gc bm bs cr : Nat} {gr : Nat → Nat} {vp : Value} {vk : Nat → Value} {s : Nd} (w : World) (h : NdX w o g s br bk gc bm bs cr gr vp vk) (a b : Int) (Am : Option Addr) (m cm : Nat) (hpl : s.post.length ≤ 1000) (hkl : ∀ n, n < 4 → (s.kept n).length ≤ 1000) (hn1 : s.n ≤ 1000) (ms : List Int) (hc0 : ¬changeE s.c (nOf a) ms = 0) (hms : Reads w w.heap.size 1 Am m (ints ms) ∧ (0 < m → ∀ a, Am = some a → ¬OT o a.block) ∧ m * 8 ≤ 140737488355328) :
    Calls Try.prog 34 #[.pointer (some ⟨g, 0, none⟩), .agg #[.int .i64 (5), .int .i64 a, .int .i64 b, .slice Am m cm]] w (Does o g (fiveN s (nOf a) ms) w) := by
  have hna := nOf_eq a
  have hnl := nOf_lt a
  generalize nOf a = n at *
  have hke : 0 < s.post.length → wrap64 ((IntKind.u64.wrap b).tmod (s.post.length : Int)) = (kOf b s.post.length : Int) := fun h0 => kOf_eq b h0 (by omega)
  have hk0 : s.post.length = 0 → kOf b s.post.length = 0 := fun h0 => by rw [h0]; rfl
  have hkl0 : 0 < s.post.length → kOf b s.post.length < s.post.length := fun h0 => kOf_lt b h0
  generalize kOf b s.post.length = k at *
  obtain ⟨Ap, cp, hvp, _⟩ := h.po.sl
  subst hvp
  have c0 := h.blk.cell
  have l0 := h.blk.lt
  have hbA : Below w.heap.size w (w.alloc (.cells #[.int .i64 (5), .int .i64 a, .int .i64 b, .slice Am m cm] 80)) := Below.alloc (Below.refl _ _) (Nat.le_refl _) _
  have hP := Blk.new w 80 #[.int .i64 (5), .int .i64 a, .int .i64 b, .slice Am m cm]
  have hX0 := h.below hbA
  have HC := hide hc0
  clear hc0
  have HMS := hide hms
  clear hms
  go_enter Try.func34, Try.ntmps34
  go_upto_if 32 with fail
  rw [hna]
  go_cut [6] (fun v6 wx => v6 = .int .i64 (k : Int) ∧ Below w.heap.size w wx ∧ Blk wx w.heap.size 80 #[.int .i64 (5), .int .i64 a, .int .i64 b, .slice Am m cm])
  case first =>
    rcases Nat.eq_zero_or_pos s.post.length with h0 | h0
    · have d0 : decide ((0 : Int) < s.post.length) = false := decide_eq_false (by omega)
      have d0' : decide (0 < s.post.length) = false := decide_eq_false (by omega)
      have hk00 := hk0 h0
      subst hk00
      rw [d0']
      clear h0
      go_wp2
      go_meet
      case rel => exact ⟨rfl, hbA, hP⟩
    · have d0 : decide ((0 : Int) < s.post.length) = true := decide_eq_true (by omega)
      have d0' : decide (0 < s.post.length) = true := decide_eq_true h0
      have hwl : IntKind.u64.wrap (s.post.length : Int) = (s.post.length : Int) := by rw [IntKind.wrap_u64]; omega
      have hz2 : ¬s.post = [] := fun e => by rw [e] at h0; cases h0
      have hkb := hke h0
      have hkb' : IntKind.i64.wrap ((IntKind.u64.wrap b).tmod (s.post.length : Int)) = (k : Int) := (IntWalk.i64_left _).trans hkb
      rw [d0']
      clear h0
      go_wp2
      refine wp_region_ext_lit (by kernel_rfl) (by kernel_rfl) ?_
      (repeat (first | ((with_reducible refine wpQuiet_step (fun K hK => ?_)); go_simp; first | ((with_reducible refine hK _ ?_); clear hK K) | (apply Exists.intro; (with_reducible refine ⟨fun _ => ?_, hK _ ?_⟩); skip; clear hK K)) | ((with_reducible refine quiet_skipN ?_ (fun K hK => ?_)); (rfl); go_simp; (with_reducible refine hK _ ?_); clear hK K)))
      (with_reducible refine wpQuiet_nil ?_); intro _ hw'; obtain ⟨Y, hw''⟩ := hw'; subst hw''
      go_wp2
      go_meet
      case rel => exact ⟨rfl, by (repeat' (first | with_reducible exact Below.refl _ _ | with_reducible refine Below.ext ?_ ?_ _ | with_reducible refine Below.alloc ?_ ?_ _ | with_reducible refine Below.setCell ?_ ?_ _ | with_reducible refine Below.drew ?_ | with_reducible assumption | (simp [World.size_ext]; done) | (simp [World.size_ext]; omega))), hP.ext Y⟩
  case rest =>
  clear hX0 hbA hP c0 l0
  obtain ⟨rfl, hbW, hP⟩ := hcut
  have hX := h.below hbW
  have hgW := Goes.below (o := o) hbW
  have cP := hP.cell
  have lP := hP.lt
  have cX := hX.blk.cell
  have lX := hX.blk.lt
  obtain ⟨hmR, hmT, hml⟩ := HMS.out
  have hmRc : Reads wc wc.heap.size 1 Am m (ints ms) := Reads.kp hmR (Kp.of_below (S := fun _ => False) hbW) (fun _ _ _ h => h)
  go_wp2
  go_loopw [213] (fun vi wr => ∃ j : Nat, j ≤ m ∧ vi = .int .i64 (j : Int) ∧ (∀ x ∈ ms.take j, 0 ≤ x ∧ x < 4) ∧ wr = wc) (fun vi _ => ((m : Int) - intOf vi).toNat)
  case atStart => exact ⟨0, by omega, rfl, (fun x hx => by cases hx), rfl⟩
  case round =>
    obtain ⟨j, hj, rfl, hall, rfl⟩ := hrel
    have hlm : ms.length = m := by have := hmRc.1; rw [ints_length] at this; omega
    by_cases hlt : j < m
    · obtain ⟨bx, ox, rfl, hbx, hcx⟩ := hmRc.plain (by omega) (by omega)
      have hg : ms[j]? = some ms[j] := List.getElem?_eq_getElem (by omega)
      have mx := hcx _ _ (ints_get hg)
      have htk : ms.take (j + 1) = ms.take j ++ [ms[j]] := by rw [List.take_add_one, hg]; rfl
      have hmem : ms[j] ∈ ms := List.getElem_mem (by omega)
      generalize ms[j] = x at *
      have HG := hide (⟨htk, hmem, hall⟩ : _ ∧ _ ∧ _)
      have hlj : (j : Int) < m := by omega
      clear hg htk hmem hall hcx
      have cP' := hP.cell
      by_cases hx : 0 ≤ x ∧ x < 4
      · have d1 : decide (x < 0) = false := decide_eq_false (by omega)
        have d2 : decide ((4 : Int) ≤ x) = false := decide_eq_false (by omega)
        have HX := hide hx
        clear hx
        go_wp2
        go_roundw
        case rel =>
          refine ⟨j + 1, by omega, by go_num, fun y hy => ?_, by first | rfl | trivial⟩
          obtain ⟨g1, g2, g3⟩ := HG.out
          rw [g1] at hy
          rcases List.mem_append.1 hy with hy | hy
          · exact g3 y hy
          · rw [List.mem_singleton] at hy; rw [hy]; exact HX.out
        case measure => simp [intOf]; omega
      · have hfn : fiveN s n ms = s := fiveN_no (fun h => hx (h.1 x HG.out.2.1))
        rw [hfn]
        by_cases h0 : x < 0
        · have d1 : decide (x < 0) = true := decide_eq_true h0
          clear h0 hx
          go_wp2
          go_ret
          exact does_mk hX hgW
        · have d1 : decide (x < 0) = false := decide_eq_false h0
          have d2 : decide ((4 : Int) ≤ x) = true := decide_eq_true (by omega)
          clear h0 hx
          go_wp2
          go_ret
          exact does_mk hX hgW
    · obtain rfl : j = m := by omega
      rw [List.take_of_length_le (by omega)] at hall
      have hXb := hX.blk
      have hoc := hX.oct
      have hck := hX.ck
      obtain ⟨W, hWe⟩ : ∃ W : World, W = wr := ⟨_, rfl⟩
      have hc := HC.out
      have HFN := hide (fiveN_no (s := s) (n := n) (ms := ms) (fun h => hc h.2))
      have hCh := fun (V : World) (hb : Below wr.heap.size wr V) => change_no gc bm bs s.c (n : Int) Am j cm ms V (hX.below hb).ct (Reads.kp hmRc (Kp.of_below (S := fun _ => False) hb) (fun _ _ _ h => h)) (by omega) (by have := hck.sb; omega) hc
      have hce : (changeE s.c (n : Int) ms == 0) = false := by simpa using hc
      go_upto_region 33 with fail
      go_cut [19] (fun v19 wx => v19 = .int .i64 (changeE s.c (n : Int) ms) ∧ Below wr.heap.size wr wx)
      case first =>
        refine First.wp_region_tree_ext [3, 6] [0, 1, 2, 4, 5, 8, 9, 10] (.fork [(true, false, 0), (true, false, 1), (true, false, 2), (true, true, 3), (true, false, 4), (true, false, 5), (true, true, 6)] false 7 (.leaf [(true, false, 8), (true, false, 9), (true, false, 10), (false, false, 11), (false, false, 12), (false, false, 13)]) true 11 (.leaf [(false, false, 7), (true, false, 8), (true, false, 9), (true, false, 10), (false, false, 12), (false, false, 13)])) (by kernel_rfl) (by kernel_rfl) (fun X => ?_); simp only [First.wpT, List.map_cons, List.map_nil, List.getD_cons_zero, List.getD_cons_succ]
        (repeat (first | (refine First.wpF_pure (fun K hK => ?_); go_simp; first | (refine hK _ _ ?_; clear hK K) | (apply Exists.intro; refine ⟨fun _ => ?_, hK _ _ ?_⟩; fail)) | (refine First.wpF_free (fun K hK => ?_); go_simp; first | (refine hK _ _ ?_; clear hK K))))
        have hbx : Below wr.heap.size wr (wr.ext X) := World.below_ext wr X
        have hCX := hCh _ hbx
        have hCY := hCh _ (hbx.alloc hbx.size (.cells #[.int .i64 0, .int .i64 0, .slice none 0 0] 39))
        generalize wr.ext X = V at *
        have hsV := hbx.size
        generalize changeE s.c (n : Int) ms = ce at *
        refine First.wpF_nil ?_
        refine First.Both.mk ?_ ?_
        · refine First.wpF_must (fun K hK => ?_)
          go_wp2_with (go_at_call 86; (with_reducible refine hCX.mono ?_); rintro e w5 ⟨rfl, hb5⟩; have hgr5 := World.ext_of_below hb5)
          (refine hK _ _ (fun hnd => by first | exact Bool.noConfusion hnd | assumption | with_reducible exact grown_alloc _ _ | with_reducible exact First.Grown.refl _ | with_reducible exact First.Grown.cat _ _ _ | with_reducible exact First.Grown.ext _ _) ?_; clear hK K)
          refine First.wpF_nil ?_
          (repeat (first | (refine First.wpF_pure (fun K hK => ?_); go_simp; first | (refine hK _ _ ?_; clear hK K) | (apply Exists.intro; refine ⟨fun _ => ?_, hK _ _ ?_⟩; fail)) | (refine First.wpF_free (fun K hK => ?_); go_simp; first | (refine hK _ _ ?_; clear hK K))))
          refine First.wpF_must (fun K hK => ?_)
          go_wp2
          (refine hK _ _ (fun hnd => by first | exact Bool.noConfusion hnd | assumption | with_reducible exact grown_alloc _ _ | with_reducible exact First.Grown.refl _ | with_reducible exact First.Grown.cat _ _ _ | with_reducible exact First.Grown.ext _ _) ?_; clear hK K)
          (repeat (first | (refine First.wpF_pure (fun K hK => ?_); go_simp; first | (refine hK _ _ ?_; clear hK K) | (apply Exists.intro; refine ⟨fun _ => ?_, hK _ _ ?_⟩; fail)) | (refine First.wpF_free (fun K hK => ?_); go_simp; first | (refine hK _ _ ?_; clear hK K))))
          refine First.wpF_must (fun K hK => ?_)
          go_wp2
          (refine hK _ _ (fun hnd => by first | exact Bool.noConfusion hnd | assumption | with_reducible exact grown_alloc _ _ | with_reducible exact First.Grown.refl _ | with_reducible exact First.Grown.cat _ _ _ | with_reducible exact First.Grown.ext _ _) ?_; clear hK K)
          refine First.wpF_must (fun K hK => ?_)
          go_wp2
          (refine hK _ _ (fun hnd => by first | exact Bool.noConfusion hnd | assumption | with_reducible exact grown_alloc _ _ | with_reducible exact First.Grown.refl _ | with_reducible exact First.Grown.cat _ _ _ | with_reducible exact First.Grown.ext _ _) ?_; clear hK K)
          refine First.wpF_nil ?_
          go_wp2_with fail
          go_meet
          case rel => exact ⟨rfl, (hbx.trans (hb5.mono hsV)).alloc (by have := hb5.size; omega) _⟩
        · refine First.wpF_must (fun K hK => ?_)
          go_wp2
          (refine hK _ _ (fun hnd => by first | exact Bool.noConfusion hnd | assumption | with_reducible exact grown_alloc _ _ | with_reducible exact First.Grown.refl _ | with_reducible exact First.Grown.cat _ _ _ | with_reducible exact First.Grown.ext _ _) ?_; clear hK K)
          refine First.wpF_nil ?_
          (repeat (first | (refine First.wpF_pure (fun K hK => ?_); go_simp; first | (refine hK _ _ ?_; clear hK K) | (apply Exists.intro; refine ⟨fun _ => ?_, hK _ _ ?_⟩; fail)) | (refine First.wpF_free (fun K hK => ?_); go_simp; first | (refine hK _ _ ?_; clear hK K))))
          have hZ := Blk.new V 39 #[.int .i64 0, .int .i64 0, .slice none 0 0]
          refine First.wpF_must (fun K hK => ?_)
          go_wp2_with (go_at_call 86; (with_reducible refine hCY.mono ?_); rintro e w5 ⟨rfl, hb5⟩; have hZ5 := hZ.below hb5 hZ.lt; have cZ := hZ5.cell; have fZ := hZ5.frozen; have lZ := hZ5.lt; have hgr5 := World.ext_of_below hb5)
          (refine hK _ _ (fun hnd => by first | exact Bool.noConfusion hnd | assumption | with_reducible exact grown_alloc _ _ | with_reducible exact First.Grown.refl _ | with_reducible exact First.Grown.cat _ _ _ | with_reducible exact First.Grown.ext _ _) ?_; clear hK K)
          (repeat (first | (refine First.wpF_pure (fun K hK => ?_); go_simp; first | (refine hK _ _ ?_; clear hK K) | (apply Exists.intro; refine ⟨fun _ => ?_, hK _ _ ?_⟩; fail)) | (refine First.wpF_free (fun K hK => ?_); go_simp; first | (refine hK _ _ ?_; clear hK K))))
          refine First.wpF_must (fun K hK => ?_)
          go_wp2
          (refine hK _ _ (fun hnd => by first | exact Bool.noConfusion hnd | assumption | with_reducible exact grown_alloc _ _ | with_reducible exact First.Grown.refl _ | with_reducible exact First.Grown.cat _ _ _ | with_reducible exact First.Grown.ext _ _) ?_; clear hK K)
          refine First.wpF_must (fun K hK => ?_)
          go_wp2
          (refine hK _ _ (fun hnd => by first | exact Bool.noConfusion hnd | assumption | with_reducible exact grown_alloc _ _ | with_reducible exact First.Grown.refl _ | with_reducible exact First.Grown.cat _ _ _ | with_reducible exact First.Grown.ext _ _) ?_; clear hK K)
          refine First.wpF_nil ?_
          go_wp2_with fail
          go_meet
          case rel =>
            have hb05 : Below wr.heap.size wr w5 := (hbx.alloc hsV _).trans (hb5.mono (by simp; omega))
            refine ⟨rfl, ?_⟩
            first
              | exact hb05
              | exact hb05.trans (Kp.below ((Kp.put w5 V.heap.size 0 _).trans ((Kp.put _ V.heap.size 1 _).trans (Kp.put _ V.heap.size 2 _))) hb05.size (fun k hk => by omega))
      case rest =>
        obtain ⟨rfl, hb5⟩ := hcut
        go_wp2
        go_ret
        rw [HFN.out]
        exact does_mk (hX.below hb5) (hgW.trans (Goes.below (o := o) hb5))
end Go.Proofs.Ytjhcgnmibnjocaa
