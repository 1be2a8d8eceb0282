import Derived.Test.YtghinjnhcepaeaaCh12
/-! The document's chain: Put of what stands. -/
namespace Go.Proofs.Ytghinjnhcepaeaa
open Go.RowKit
set_option linter.unusedVariables false
set_option linter.unusedSimpArgs false
set_option maxRecDepth 100000 in
set_option maxHeartbeats 4000000 in
theorem rput_twice (A : Option Addr) (n c : Nat) (l : List Ver) (v : Ver) (w : World) (hr : Reads w w.heap.size 6 A n (vsV l)) (hn : (n + 1) * 48 ≤ 140737488355328) (hs : Srt l) (hok : ∀ x ∈ l, x.ok) (ht : v.ok) (h : vright v = true) (h2 : hasK l v.k = true) :
    Calls Try.prog 26 #[.slice A n c, .agg #[.int .i64 v.a, .int .u32 v.b, .int .u32 v.c, .int .i64 v.kd, .int .i64 v.num, .string v.text]] w fun e w' => e = .returned (.tuple #[.slice none 0 0, .int .i64 7]) ∧ Below w.heap.size w w' := by
  have hl := vreads_len hr
  obtain ⟨i0, hi, hz0, hz1, hz2⟩ := info_parts infoR
  have hP := rright10_any v
  rw [h] at hP
  have hr1 := (hr.alloc (Nat.le_refl _) (.cells (#[.int .i64 v.a, .int .u32 v.b, .int .u32 v.c, .int .i64 v.kd, .int .i64 v.num, .string v.text]) 26)).more (B' := (w.alloc (.cells (#[.int .i64 v.a, .int .u32 v.b, .int .u32 v.c, .int .i64 v.kd, .int .i64 v.num, .string v.text]) 26)).heap.size) (by simp)
  have hBx := Blk.new w 26 (#[.int .i64 v.a, .int .u32 v.b, .int .u32 v.c, .int .i64 v.kd, .int .i64 v.num, .string v.text])
  obtain ⟨y, hy, hyk⟩ := List.any_eq_true.1 h2
  obtain ⟨p, hgp⟩ := List.getElem?_of_mem hy
  have hyk : y.k = v.k := by simpa using hyk
  have hpn : p < n := by have := (List.getElem?_eq_some_iff.1 hgp).1; omega
  have hcmp : ∀ (j : Nat) (x : Ver), j < p → l[j]? = some x → x.k < v.k := fun j x hj hx => by have := hs.lt hj hx hgp; omega
  clear h2
  go_enter Try.func26, Try.ntmps26
  go_wp2_with (go_at_call 11; (with_reducible refine (hP _).mono ?_); rintro e w' ⟨rfl, hb⟩; obtain ⟨X, rfl⟩ := World.ext_of_below hb; clear hb)
  refine abstr (fun W => Below w.heap.size w W ∧ Reads W W.heap.size 6 A n (vsV l) ∧ Blk W w.heap.size 26 (#[.int .i64 v.a, .int .u32 v.b, .int .u32 v.c, .int .i64 v.kd, .int .i64 v.num, .string v.text])) ⟨by (repeat' (first | with_reducible exact Below.refl _ _ | with_reducible refine Below.ext ?_ ?_ _ | with_reducible refine Below.alloc ?_ ?_ _ | with_reducible refine Below.setCell ?_ ?_ _ | with_reducible refine Below.drew ?_ | with_reducible assumption | (simp [World.size_ext]; done) | (simp [World.size_ext]; omega))), Reads.grown hr1 _, hBx.ext _⟩ (fun W hW => ?_)
  obtain ⟨hbW, hrW, hBW⟩ := hW
  clear hr hr1 hP hs hBx
  have hbq := hBW.lt
  generalize hB : W.heap.size = B at *
  generalize hq : w.heap.size = q at *
  go_loopw [6, 7] (fun s6 s7 wr => ∃ j : Nat, j ≤ p ∧ s7 = .int .i64 (j : Int) ∧ wr.ownsRow B 26 6 s6 j (vsV (l.take j)) ∧ Below B W wr) (fun _ s7 _ => ((n : Int) - intOf s7).toNat)
  case atStart => exact ⟨0, by omega, rfl, World.ownsRow_nil _ _ _ _, Below.refl _ _⟩
  case round =>
    obtain ⟨j, hj, rfl, hown, hbel⟩ := hrel
    have hszw : B ≤ wr.heap.size := by have := hbel.size; omega
    have hBr := hBW.below hbel hbq
    have cB := hBr.cell
    have lB := hBr.lt
    have hlt : j < n := by omega
    · obtain ⟨b, o, rfl, hbb, hc⟩ := hrW.plain (by omega) (by omega)
      have hcw : ∀ (j : Nat) (u : Value), (vsV l)[j]? = some u → wr.cell? ⟨b, o + j, none⟩ = some u := fun j u hu => (hbel.cell (p := ⟨b, _, none⟩) hbb).trans (hc j u hu)
      obtain ⟨x, hg⟩ : ∃ x, l[j]? = some x := ⟨l[j]'(by omega), List.getElem?_eq_getElem (by omega)⟩
      have hxo := hok x (List.mem_of_getElem? hg)
      have m0 : (wr).cell? ⟨b, o + j * 6, none⟩ = some (.int .i64 (x).a) := hcw _ _ (vsV_get hg 0 _ rfl); have m1 : (wr).cell? ⟨b, o + j * 6 + 1, none⟩ = some (.int .u32 (x).b) := hcw _ _ (vsV_get hg 1 _ rfl); have m2 : (wr).cell? ⟨b, o + j * 6 + 2, none⟩ = some (.int .u32 (x).c) := hcw _ _ (vsV_get hg 2 _ rfl); have m3 : (wr).cell? ⟨b, o + j * 6 + 3, none⟩ = some (.int .i64 (x).kd) := hcw _ _ (vsV_get hg 3 _ rfl); have m4 : (wr).cell? ⟨b, o + j * 6 + 4, none⟩ = some (.int .i64 (x).num) := hcw _ _ (vsV_get hg 4 _ rfl); have m5 : (wr).cell? ⟨b, o + j * 6 + 5, none⟩ = some (.string (x).text) := hcw _ _ (vsV_get hg 5 _ rfl)
      have hbw : b < wr.heap.size := by omega
      have hji : (j : Int) < n := by omega
      have hE := stEqV hxo ht
      have hP := below_any x.a x.b x.c v.a v.b v.c
      rw [belowV hxo ht] at hP
      by_cases hjp : j < p
      · have hxv := hcmp j x hjp hg
        rw [decide_eq_false (by omega)] at hE
        rw [decide_eq_true hxv] at hP
        go_wp2
        refine wp_region_ext_lit (by kernel_rfl) (by kernel_rfl) ?_
        (repeat (first | ((with_reducible refine wpQuiet_step (fun K hK => ?_)); go_simp; first | ((with_reducible refine hK _ ?_); clear hK K) | (apply Exists.intro; (with_reducible refine ⟨fun _ => ?_, hK _ ?_⟩); fail; clear hK K)) | ((with_reducible refine quiet_skipN ?_ (fun K hK => ?_)); (rfl); go_simp; (with_reducible refine hK _ ?_); clear hK K)))
        (with_reducible refine wpQuiet_nil ?_); intro _ hw'; obtain ⟨Y, hw''⟩ := hw'; subst hw''
        go_wp2
        refine First.wp_region_first_ext [4, 6] [0, 1, 2, 3, 5] [(true, false, 0), (true, false, 1), (true, false, 2), (true, false, 3), (true, true, 4), (true, false, 5), (true, true, 6), (false, false, 7)] (by kernel_rfl) (by kernel_rfl) (fun Z => ?_); simp only [List.map_cons, List.map_nil, List.getD_cons_zero, List.getD_cons_succ]
        (repeat (first | (refine First.wpF_pure (fun K hK => ?_); go_simp; first | (refine hK _ _ ?_; clear hK K) | (apply Exists.intro; refine ⟨fun _ => ?_, hK _ _ ?_⟩; fail)) | (refine First.wpF_free (fun K hK => ?_); go_simp; first | (refine hK _ _ ?_; clear hK K))))
        refine First.wpF_must (fun K hK => ?_)
        go_wp2_with (go_at_call 23; (with_reducible refine (hP _).mono ?_); rintro e w' ⟨rfl, hb⟩; obtain ⟨X, rfl⟩ := World.ext_of_below hb; clear hb)
        (refine hK _ _ (fun hnd => by first | exact Bool.noConfusion hnd | assumption | with_reducible exact grown_alloc _ _ | with_reducible exact First.Grown.refl _ | with_reducible exact First.Grown.cat _ _ _ | with_reducible exact First.Grown.ext _ _) ?_; clear hK K)
        refine First.wpF_nil ?_
        refine abstr (fun U => Below B W U ∧ U.ownsRow B 26 6 u6 j (vsV (l.take j))) ⟨hbel.trans ((World.below_ext _ _).mono hszw), own_ext hown _⟩ (fun U hU => ?_)
        clear hbel hown hszw hBr cB lB m0 m1 m2 m3 m4 m5 hbw hcw
        obtain ⟨hbel, hown⟩ := hU
        have hszw : B ≤ U.heap.size := by have := hbel.size; omega
        have hcw : ∀ (j : Nat) (u : Value), (vsV l)[j]? = some u → U.cell? ⟨b, o + j, none⟩ = some u := fun j u hu => (hbel.cell (p := ⟨b, _, none⟩) hbb).trans (hc j u hu)
        have m0 : (U).cell? ⟨b, o + j * 6, none⟩ = some (.int .i64 (x).a) := hcw _ _ (vsV_get hg 0 _ rfl); have m1 : (U).cell? ⟨b, o + j * 6 + 1, none⟩ = some (.int .u32 (x).b) := hcw _ _ (vsV_get hg 1 _ rfl); have m2 : (U).cell? ⟨b, o + j * 6 + 2, none⟩ = some (.int .u32 (x).c) := hcw _ _ (vsV_get hg 2 _ rfl); have m3 : (U).cell? ⟨b, o + j * 6 + 3, none⟩ = some (.int .i64 (x).kd) := hcw _ _ (vsV_get hg 3 _ rfl); have m4 : (U).cell? ⟨b, o + j * 6 + 4, none⟩ = some (.int .i64 (x).num) := hcw _ _ (vsV_get hg 4 _ rfl); have m5 : (U).cell? ⟨b, o + j * 6 + 5, none⟩ = some (.string (x).text) := hcw _ _ (vsV_get hg 5 _ rfl)
        have hbw : b < U.heap.size := by omega
        have H := hide (show vsV (l.take j) ++ x.cells = vsV (l.take (j + 1)) by rw [List.take_add_one, hg, vsV_append]; simp [vsV, rowsV])
        clear hcw hc hrW hok hcmp hg
        go_wp2_with (at_builtin; go_must (refine wpList_append_own _ rfl (.tmp 34) (.tmp 39) 34 rfl (B) 26 i0 (.agg #[.int .i64 0, .int .u32 0, .int .u32 0, .int .i64 0, .int .i64 0, .string ⟨#[]⟩]) 6 48 Try.underlying34 hi hz0 hz1 hz2 rfl (by decide) u6 (j) _ rfl (hown.alloc _) ⟨U.heap.size, 0, none⟩ 1 1 (x.cells) rfl rfl ?c1 ?c2 ?c3 ?c4 ?c5 ?_))
        case c1 => first | exact fun j u hu => hu | exact cells_new_at _ (#[.int .i64 x.a, .int .u32 x.b, .int .u32 x.c, .int .i64 x.kd, .int .i64 x.num, .string x.text]) _ rfl
        case c2 => exact fun u hu => vsV_one (l := [x]) (by rw [vsV_cons]; exact List.mem_append_left _ hu)
        case c3 => unfold maxLen; omega
        case c4 => omega
        case c5 => first | omega | (simp; omega)
        intro v' w1 hown1 hg1 _
        have hbel1 := own_below (hbel.alloc hszw _) (hown.alloc _) hg1 (Nat.le_refl _) (by simp; omega)
        rw [H.out] at hown1
        clear hg1 hbel hown
        go_wp2
        go_roundw
        case rel => exact ⟨j + 1, by omega, by go_num, hown1, hbel1⟩
        case measure => simp [intOf]; omega
      · obtain rfl : j = p := by omega
        obtain rfl : x = y := by rw [hg] at hgp; cases hgp; rfl
        rw [decide_eq_true hyk] at hE
        clear hc hcw hrW hok hcmp hg hgp
        go_wp2
        refine wp_region_ext_lit (by kernel_rfl) (by kernel_rfl) ?_
        (repeat (first | ((with_reducible refine wpQuiet_step (fun K hK => ?_)); go_simp; first | ((with_reducible refine hK _ ?_); clear hK K) | (apply Exists.intro; (with_reducible refine ⟨fun _ => ?_, hK _ ?_⟩); fail; clear hK K)) | ((with_reducible refine quiet_skipN ?_ (fun K hK => ?_)); (rfl); go_simp; (with_reducible refine hK _ ?_); clear hK K)))
        (with_reducible refine wpQuiet_nil ?_); intro _ hw'; obtain ⟨Y, hw''⟩ := hw'; subst hw''
        go_wp2
        go_ret2
        exact ⟨rfl, by rw [hq]; exact hbW.trans ((hbel.trans ((World.below_ext _ _).mono hszw)).mono (by rw [← hB, ← hq]; exact hbW.size))⟩
end Go.Proofs.Ytghinjnhcepaeaa
