import Derived.Test.YthajbeooemngpaaRdBack
import Derived.Test.YthajbeooemngpaaDraw
import Derived.Test.YthajbeooemngpaaItem3
import Derived.Deep.CondSized
/-! What was laid is taken off as it was. -/
namespace Go.Proofs.Ythajbeooemngpaa
open Go.RowKit
set_option linter.unusedVariables false
set_option linter.unusedSimpArgs false
/-- Two stamps are one. -/
def stEq (a b c a' b' c' : Int) : Bool := a == a' && (b == b' && c == c')
@[go_sem] theorem stEq_self (a b c : Int) : stEq a b c a b c = true := by simp [stEq]
@[go_sem ↓] theorem run_eql_rstamp (a b c a' b' c' : Int) (w : World) : (binOp .eql 49 (.agg #[.int .i64 a, .int .u32 b, .int .u32 c]) (.agg #[.int .i64 a', .int .u32 b', .int .u32 c'])).run Try.prog w = .ok (.bool (stEq a b c a' b' c')) w := by
  by_cases h1 : a = a' <;> by_cases h2 : b = b' <;> by_cases h3 : c = c' <;> simp [go_sem, stEq, h1, h2, h3]
set_option maxRecDepth 100000 in
set_option maxHeartbeats 2000000 in
theorem law_wireBack (A : Option Addr) (n c : Nat) (l : List It) (w : World) (hr : Reads w w.heap.size 9 A n (itms l)) (hok : ∀ x ∈ l, x.ok) (htx : ∀ x ∈ l, x.text.size ≤ 9223372036854775807) (hlen : (itemsB l).length ≤ 140737488350000) (hn : n ≤ 9223372036854775807) :
    Calls Try.prog 12 #[.slice A n c] w fun e w' => e = .returned (.bool true) ∧ Below w.heap.size w w' := by
  have hla : ∀ w', Below w.heap.size w w' → _ := fun w' (h : Below w.heap.size w w') => laid_any A n c l w' ((hr.below h).more h.size) hok (by omega) hn
  have hby := itemsB_bytes hok (fun x hx => by have := htx x hx; omega)
  have hl : l.length = n := by have := hr.1; rw [itms_length] at this; omega
  go_enter Try.func12, Try.ntmps12
  go_wp2_with (first | (go_at_call 22; (with_reducible refine (hla _ (Below.refl _ _)).mono ?_); rintro e w1 ⟨u1, v1, rfl, hu1, hv1, hb1⟩; have hs1 := hb1.size; obtain ⟨A1, c1, rfl, hc1, hcm1, hnil1, hr1⟩ := hu1.slice) | (go_at_call 55; (with_reducible refine (read_any _ _ _ _ hr1 hby hnil1 (by omega)).mono ?_); rintro e w2 ⟨g, b, rfl, hr2, hg2, hb2, hbl2⟩))
  have hgw : w.heap.size ≤ g := by omega
  have hbw : w.heap.size ≤ b := by omega
  have hb12 := hb1.trans (hbl2.mono hs1)
  clear hu1 hv1 hr1 hla
  go_loopw [18] (fun vi wr => ∃ j : Nat, j ≤ n ∧ vi = .int .i64 (j : Int) ∧ Rdr wr g b (itemsB (l.drop j)) 0 ∧ Below w.heap.size w wr) (fun vi _ => ((n : Int) - intOf vi).toNat)
  case atStart => exact ⟨0, by omega, rfl, hr2, hb12⟩
  case round =>
    clear hr2 hb12 hbl2
    obtain ⟨j, hj, rfl, hrd, hb⟩ := hrel
    obtain ⟨wo, rfl⟩ : ∃ wo : World, wo = wr := ⟨_, rfl⟩
    have hs := hb.size
    have hgl := hrd.lt
    by_cases hlt : j < n
    · obtain ⟨ba, o, rfl, hbb, hc⟩ := hr.plain (by omega) (by omega)
      obtain ⟨x, hx⟩ : ∃ x, l[j]? = some x := ⟨l[j]'(by omega), List.getElem?_eq_getElem (by omega)⟩
      have hxm := List.mem_of_getElem? hx
      have hxo := hok x hxm
      have hxt := htx x hxm
      have hx3 := fun h => itemsB_text hxm h
      rw [itemsB_drop hx] at hrd
      have hcell : ∀ k u, x.cells[k]? = some u → wo.cell? ⟨ba, o + j * 9 + k, none⟩ = some u := fun k u hu => by
        rw [hb.cell (p := ⟨ba, _, none⟩) hbb, Nat.add_assoc]
        exact hc _ _ (itms_get l j x hx k u hu)
      have m0 := hcell 0 _ rfl
      have m1 := hcell 1 _ rfl
      have m2 := hcell 2 _ rfl
      have m3 := hcell 3 _ rfl
      have m4 := hcell 4 _ rfl
      have m5 := hcell 5 _ rfl
      have m6 := hcell 6 _ rfl
      have m7 := hcell 7 _ rfl
      have m8 := hcell 8 _ rfl
      rw [Nat.add_zero] at m0
      have hbw' : ba < wo.heap.size := by omega
      have hlj : (j : Int) < n := by omega
      have h0 := hrd.below (Below.alloc (Below.refl _ _) (Nat.le_refl _) (.cells x.cells.toArray 51))
      have hBs := Blk.new wo 51 x.cells.toArray
      have hne : wo.heap.size ≠ g := by omega
      clear hc hr hcell hok hx hby hxm htx hrd
      obtain ⟨xk, xn, xi, xf, xs, xa, xb, xc, xm⟩ := x
      obtain ⟨o1, o2, o3, o4, o5, o6, o7⟩ := hxo
      simp only [It.cells] at *
      by_cases k0 : xk = 0
      · subst k0
        rw [show itemB ⟨0, xn, xi, xf, xs, xa, xb, xc, xm⟩ = numB xn.toNat from rfl] at h0
        have hq := fun w1 (h1 : Rdr w1 g b (numB xn.toNat ++ itemsB (l.drop (j + 1))) 0) => rdnum_any g b _ 0 w1 h1
        unfold U64 at o2
        rw [numP_numB (by omega), Int.toNat_of_nonneg o2.1] at hq
        go_wp2
        (refine wp_region_only g [3] [0, 2, 4] [(true, false, 0), (true, false, 2), (true, true, 3), (false, true, 1), (true, false, 4), (false, false, 5)] (by kernel_rfl) (by kernel_rfl) (fun Y => ?_); simp only [List.map_cons, List.map_nil, List.getD_cons_zero, List.getD_cons_succ]; (have hBY := Blk.ext hBs Y); (repeat (first | (refine First.wpF_pure (fun K hK => ?_); go_simp; first | (refine hK _ _ ?_; clear hK K) | (apply Exists.intro; refine ⟨fun _ => ?_, hK _ _ ?_⟩; fail)) | (refine First.wpF_free (fun K hK => ?_); go_simp; first | (refine hK _ _ ?_; clear hK K)))); (refine first_read rfl (v := .int .u64 xn) (fun w' hw' => ?_) (fun K hK => ?_); rotate_left 1; go_simp; refine hK _ _ ?_; clear hK K; rotate_left 1; (have hB' := Blk.only hBY hw' hne; have c' := Blk.cell hB'; go_simp)); refine First.wpF_must (fun K hK => ?_); go_wp2_with (go_at_call 49; ((with_reducible refine (hq _ (h0.below (World.below_ext _ Y))).mono ?_); rintro e w1 ⟨rfl, hr1, ho1⟩)); (refine hK _ _ (fun hnd => by first | exact Bool.noConfusion hnd | exact ho1) ?_; clear hK K); (repeat (first | (refine First.wpF_pure (fun K hK => ?_); go_simp; first | (refine hK _ _ ?_; clear hK K) | (apply Exists.intro; refine ⟨fun _ => ?_, hK _ _ ?_⟩; fail)) | (refine First.wpF_free (fun K hK => ?_); go_simp; first | (refine hK _ _ ?_; clear hK K)))); refine First.wpF_must (fun K hK => ?_); go_wp2; (refine hK _ _ (fun hnd => by first | exact Bool.noConfusion hnd | exact Only.refl _ _ | ((repeat (refine Only.set_ ?_ (.inl rfl) _)); exact Only.refl _ _)) ?_; clear hK K); refine First.wpF_nil ?_)
        (go_wp2_with (go_at_call 53; (with_reducible refine (rderr_any _ _ _ _ _ hr1).mono ?_); rintro e w2 ⟨rfl, rfl⟩); go_roundw; (case rel => exact ⟨j + 1, by omega, by go_num, hr1, (Below.ext (hb.alloc hs _) (by simp; omega) Y).trans (ho1.below hgw (by simp [World.size_ext]; omega))⟩); (case measure => simp [intOf]; omega))
      · by_cases k1 : xk = 1
        · subst k1
          rw [show itemB ⟨1, xn, xi, xf, xs, xa, xb, xc, xm⟩ = numB (zig xi) from rfl] at h0
          have hq := fun w1 (h1 : Rdr w1 g b (numB (zig xi) ++ itemsB (l.drop (j + 1))) 0) => rdint_any g b _ 0 w1 h1
          rw [numP_numB (zig_lt _ o3), zag_zig] at hq
          clear k0
          go_wp2
          (refine wp_region_only g [3] [0, 2, 4] [(true, false, 0), (true, false, 2), (true, true, 3), (false, true, 1), (true, false, 4), (false, false, 5)] (by kernel_rfl) (by kernel_rfl) (fun Y => ?_); simp only [List.map_cons, List.map_nil, List.getD_cons_zero, List.getD_cons_succ]; (have hBY := Blk.ext hBs Y); (repeat (first | (refine First.wpF_pure (fun K hK => ?_); go_simp; first | (refine hK _ _ ?_; clear hK K) | (apply Exists.intro; refine ⟨fun _ => ?_, hK _ _ ?_⟩; fail)) | (refine First.wpF_free (fun K hK => ?_); go_simp; first | (refine hK _ _ ?_; clear hK K)))); (refine first_read rfl (v := .int .i64 xi) (fun w' hw' => ?_) (fun K hK => ?_); rotate_left 1; go_simp; refine hK _ _ ?_; clear hK K; rotate_left 1; (have hB' := Blk.only hBY hw' hne; have c' := Blk.cell hB'; go_simp)); refine First.wpF_must (fun K hK => ?_); go_wp2_with (go_at_call 50; ((with_reducible refine (hq _ (h0.below (World.below_ext _ Y))).mono ?_); rintro e w1 ⟨rfl, hr1, ho1⟩)); (refine hK _ _ (fun hnd => by first | exact Bool.noConfusion hnd | exact ho1) ?_; clear hK K); (repeat (first | (refine First.wpF_pure (fun K hK => ?_); go_simp; first | (refine hK _ _ ?_; clear hK K) | (apply Exists.intro; refine ⟨fun _ => ?_, hK _ _ ?_⟩; fail)) | (refine First.wpF_free (fun K hK => ?_); go_simp; first | (refine hK _ _ ?_; clear hK K)))); refine First.wpF_must (fun K hK => ?_); go_wp2; (refine hK _ _ (fun hnd => by first | exact Bool.noConfusion hnd | exact Only.refl _ _ | ((repeat (refine Only.set_ ?_ (.inl rfl) _)); exact Only.refl _ _)) ?_; clear hK K); refine First.wpF_nil ?_)
          (go_wp2_with (go_at_call 53; (with_reducible refine (rderr_any _ _ _ _ _ hr1).mono ?_); rintro e w2 ⟨rfl, rfl⟩); go_roundw; (case rel => exact ⟨j + 1, by omega, by go_num, hr1, (Below.ext (hb.alloc hs _) (by simp; omega) Y).trans (ho1.below hgw (by simp [World.size_ext]; omega))⟩); (case measure => simp [intOf]; omega))
        · by_cases k2 : xk = 2
          · subst k2
            rw [show itemB ⟨2, xn, xi, xf, xs, xa, xb, xc, xm⟩ = flagB xf from rfl] at h0
            have hq := fun w1 (h1 : Rdr w1 g b (flagB xf ++ itemsB (l.drop (j + 1))) 0) => rdflag_any g b _ 0 w1 h1
            rw [flagP_flagB] at hq
            clear k0 k1
            cases xf
            · go_wp2
              (refine wp_region_only g [3] [0, 2, 4] [(true, false, 0), (true, false, 2), (true, true, 3), (false, true, 1), (true, false, 4), (false, false, 5)] (by kernel_rfl) (by kernel_rfl) (fun Y => ?_); simp only [List.map_cons, List.map_nil, List.getD_cons_zero, List.getD_cons_succ]; (have hBY := Blk.ext hBs Y); (repeat (first | (refine First.wpF_pure (fun K hK => ?_); go_simp; first | (refine hK _ _ ?_; clear hK K) | (apply Exists.intro; refine ⟨fun _ => ?_, hK _ _ ?_⟩; fail)) | (refine First.wpF_free (fun K hK => ?_); go_simp; first | (refine hK _ _ ?_; clear hK K)))); (refine first_read rfl (v := .bool false) (fun w' hw' => ?_) (fun K hK => ?_); rotate_left 1; go_simp; refine hK _ _ ?_; clear hK K; rotate_left 1; (have hB' := Blk.only hBY hw' hne; have c' := Blk.cell hB'; go_simp)); refine First.wpF_must (fun K hK => ?_); go_wp2_with (go_at_call 51; ((with_reducible refine (hq _ (h0.below (World.below_ext _ Y))).mono ?_); rintro e w1 ⟨rfl, hr1, ho1⟩)); (refine hK _ _ (fun hnd => by first | exact Bool.noConfusion hnd | exact ho1) ?_; clear hK K); (repeat (first | (refine First.wpF_pure (fun K hK => ?_); go_simp; first | (refine hK _ _ ?_; clear hK K) | (apply Exists.intro; refine ⟨fun _ => ?_, hK _ _ ?_⟩; fail)) | (refine First.wpF_free (fun K hK => ?_); go_simp; first | (refine hK _ _ ?_; clear hK K)))); refine First.wpF_must (fun K hK => ?_); go_wp2; (refine hK _ _ (fun hnd => by first | exact Bool.noConfusion hnd | exact Only.refl _ _ | ((repeat (refine Only.set_ ?_ (.inl rfl) _)); exact Only.refl _ _)) ?_; clear hK K); refine First.wpF_nil ?_)
              (go_wp2_with (go_at_call 53; (with_reducible refine (rderr_any _ _ _ _ _ hr1).mono ?_); rintro e w2 ⟨rfl, rfl⟩); go_roundw; (case rel => exact ⟨j + 1, by omega, by go_num, hr1, (Below.ext (hb.alloc hs _) (by simp; omega) Y).trans (ho1.below hgw (by simp [World.size_ext]; omega))⟩); (case measure => simp [intOf]; omega))
            · go_wp2
              (refine wp_region_only g [3] [0, 2, 4] [(true, false, 0), (true, false, 2), (true, true, 3), (false, true, 1), (true, false, 4), (false, false, 5)] (by kernel_rfl) (by kernel_rfl) (fun Y => ?_); simp only [List.map_cons, List.map_nil, List.getD_cons_zero, List.getD_cons_succ]; (have hBY := Blk.ext hBs Y); (repeat (first | (refine First.wpF_pure (fun K hK => ?_); go_simp; first | (refine hK _ _ ?_; clear hK K) | (apply Exists.intro; refine ⟨fun _ => ?_, hK _ _ ?_⟩; fail)) | (refine First.wpF_free (fun K hK => ?_); go_simp; first | (refine hK _ _ ?_; clear hK K)))); (refine first_read rfl (v := .bool true) (fun w' hw' => ?_) (fun K hK => ?_); rotate_left 1; go_simp; refine hK _ _ ?_; clear hK K; rotate_left 1; (have hB' := Blk.only hBY hw' hne; have c' := Blk.cell hB'; go_simp)); refine First.wpF_must (fun K hK => ?_); go_wp2_with (go_at_call 51; ((with_reducible refine (hq _ (h0.below (World.below_ext _ Y))).mono ?_); rintro e w1 ⟨rfl, hr1, ho1⟩)); (refine hK _ _ (fun hnd => by first | exact Bool.noConfusion hnd | exact ho1) ?_; clear hK K); (repeat (first | (refine First.wpF_pure (fun K hK => ?_); go_simp; first | (refine hK _ _ ?_; clear hK K) | (apply Exists.intro; refine ⟨fun _ => ?_, hK _ _ ?_⟩; fail)) | (refine First.wpF_free (fun K hK => ?_); go_simp; first | (refine hK _ _ ?_; clear hK K)))); refine First.wpF_must (fun K hK => ?_); go_wp2; (refine hK _ _ (fun hnd => by first | exact Bool.noConfusion hnd | exact Only.refl _ _ | ((repeat (refine Only.set_ ?_ (.inl rfl) _)); exact Only.refl _ _)) ?_; clear hK K); refine First.wpF_nil ?_)
              (go_wp2_with (go_at_call 53; (with_reducible refine (rderr_any _ _ _ _ _ hr1).mono ?_); rintro e w2 ⟨rfl, rfl⟩); go_roundw; (case rel => exact ⟨j + 1, by omega, by go_num, hr1, (Below.ext (hb.alloc hs _) (by simp; omega) Y).trans (ho1.below hgw (by simp [World.size_ext]; omega))⟩); (case measure => simp [intOf]; omega))
          · by_cases k3 : xk = 3
            · subst k3
              rw [show itemB ⟨3, xn, xi, xf, xs, xa, xb, xc, xm⟩ = textB xs from rfl] at h0
              have hq := fun w1 (h1 : Rdr w1 g b (textB xs ++ itemsB (l.drop (j + 1))) 0) => rdtext_any g b _ 0 (xs.size : Int) w1 h1 (by unfold I64; omega)
              rw [textP_textB xs (by omega), strOf_numsOf] at hq
              have hxs : (xs.size : Int) ≤ 9223372036854775807 := by omega
              clear k0 k1 k2
              go_wp2
              refine wp_region_only g [2, 6] [0, 1, 3, 5, 7] [(true, false, 0), (true, false, 1), (true, true, 2), (true, false, 3), (true, false, 5), (true, true, 6), (false, true, 4), (true, false, 7), (false, false, 8)] (by kernel_rfl) (by kernel_rfl) (fun Y => ?_); simp only [List.map_cons, List.map_nil, List.getD_cons_zero, List.getD_cons_succ]
              have hBY := Blk.ext hBs Y
              (repeat (first | (refine First.wpF_pure (fun K hK => ?_); go_simp; first | (refine hK _ _ ?_; clear hK K) | (apply Exists.intro; refine ⟨fun _ => ?_, hK _ _ ?_⟩; fail)) | (refine First.wpF_free (fun K hK => ?_); go_simp; first | (refine hK _ _ ?_; clear hK K))))
              (refine first_read rfl (v := .string xs) (fun w' hw' => ?_) (fun K hK => ?_); rotate_left 1; go_simp; refine hK _ _ ?_; clear hK K; rotate_left 1; (have hB' := Blk.only hBY hw' hne; have c' := Blk.cell hB'; go_simp))
              (repeat (first | (refine First.wpF_pure (fun K hK => ?_); go_simp; first | (refine hK _ _ ?_; clear hK K) | (apply Exists.intro; refine ⟨fun _ => ?_, hK _ _ ?_⟩; fail)) | (refine First.wpF_free (fun K hK => ?_); go_simp; first | (refine hK _ _ ?_; clear hK K))))
              (refine first_read rfl (v := .string xs) (fun w' hw' => ?_) (fun K hK => ?_); rotate_left 1; go_simp; refine hK _ _ ?_; clear hK K; rotate_left 1; (have hB' := Blk.only hBY hw' hne; have c' := Blk.cell hB'; go_simp))
              refine First.wpF_must (fun K hK => ?_)
              go_wp2_with (go_at_call 56; ((with_reducible refine (hq _ (h0.below (World.below_ext _ Y))).mono ?_); rintro e w1 ⟨rfl, hr1, ho1⟩))
              (refine hK _ _ (fun hnd => by first | exact Bool.noConfusion hnd | exact ho1) ?_; clear hK K)
              (repeat (first | (refine First.wpF_pure (fun K hK => ?_); go_simp; first | (refine hK _ _ ?_; clear hK K) | (apply Exists.intro; refine ⟨fun _ => ?_, hK _ _ ?_⟩; fail)) | (refine First.wpF_free (fun K hK => ?_); go_simp; first | (refine hK _ _ ?_; clear hK K))))
              refine First.wpF_must (fun K hK => ?_)
              go_wp2
              (refine hK _ _ (fun hnd => by first | exact Bool.noConfusion hnd | exact Only.refl _ _ | ((repeat (refine Only.set_ ?_ (.inl rfl) _)); exact Only.refl _ _)) ?_; clear hK K)
              refine First.wpF_nil ?_
              (go_wp2_with (go_at_call 53; (with_reducible refine (rderr_any _ _ _ _ _ hr1).mono ?_); rintro e w2 ⟨rfl, rfl⟩); go_roundw; (case rel => exact ⟨j + 1, by omega, by go_num, hr1, (Below.ext (hb.alloc hs _) (by simp; omega) Y).trans (ho1.below hgw (by simp [World.size_ext]; omega))⟩); (case measure => simp [intOf]; omega))
            · by_cases k4 : xk = 4
              · subst k4
                rw [show itemB ⟨4, xn, xi, xf, xs, xa, xb, xc, xm⟩ = stampBytes xa xb xc from rfl] at h0
                clear k0 k1 k2 k3
                have hrr := fun w1 => rright_any xa xb xc w1
                cases hrb : rightB xa with
                | false =>
                  rw [hrb] at hrr
                  go_wp2_with (first | (go_at_call 57; (with_reducible refine (hrr _).mono ?_); rintro e w1 ⟨rfl, hb1⟩) | (go_at_call 26; (with_reducible refine (wawake_any _).mono ?_); rintro e w2 ⟨rfl, hb2⟩))
                  go_ret
                  exact ⟨rfl, ((hb.alloc hs _).trans (hb1.mono (by simp; omega))).trans (hb2.mono (by have := hb1.size; simp at this; omega))⟩
                | true =>
                  rw [hrb] at hrr
                  have hq := fun w1 (h1 : Rdr w1 g b (stampBytes xa xb xc ++ itemsB (l.drop (j + 1))) 0) => rdstamp_any g b _ 0 w1 h1
                  rw [stampP_stampB xa xb xc o5 o6 hrb] at hq
                  dsimp only at hq
                  have hbY := fun (w1 : World) (h1 : Below (wo.alloc (.cells #[.int .i64 4, .int .u64 xn, .int .i64 xi, .bool xf, .string xs, .int .i64 xa, .int .u32 xb, .int .u32 xc, .int .i64 xm] 51)).heap.size (wo.alloc (.cells #[.int .i64 4, .int .u64 xn, .int .i64 xi, .bool xf, .string xs, .int .i64 xa, .int .u32 xb, .int .u32 xc, .int .i64 xm] 51)) w1) => And.intro (h0.below h1) (Blk.below hBs h1 (Blk.lt hBs))
                  go_wp2_with (first | (go_at_call 57; (with_reducible refine (hrr _).mono ?_); rintro e w3 ⟨rfl, hb3⟩; obtain ⟨h3, hB3⟩ := hbY _ hb3))
                  refine wp_region_only g [4] [0, 3, 5] [(true, false, 0), (true, false, 3), (true, true, 4), (false, true, 1), (false, true, 2), (true, false, 5), (false, false, 6)] (by kernel_rfl) (by kernel_rfl) (fun Y => ?_); simp only [List.map_cons, List.map_nil, List.getD_cons_zero, List.getD_cons_succ]
                  have hBY := Blk.ext hB3 Y
                  (repeat (first | (refine First.wpF_pure (fun K hK => ?_); go_simp; first | (refine hK _ _ ?_; clear hK K) | (apply Exists.intro; refine ⟨fun _ => ?_, hK _ _ ?_⟩; fail)) | (refine First.wpF_free (fun K hK => ?_); go_simp; first | (refine hK _ _ ?_; clear hK K))))
                  (refine first_read rfl (v := .agg #[.int .i64 xa, .int .u32 xb, .int .u32 xc]) (fun w' hw' => ?_) (fun K hK => ?_); rotate_left 1; go_simp; refine hK _ _ ?_; clear hK K; rotate_left 1; (have hB' := Blk.only hBY hw' hne; have c' := Blk.cell hB'; go_simp))
                  refine First.wpF_must (fun K hK => ?_)
                  go_wp2_with (go_at_call 52; ((with_reducible refine (hq _ (h3.below (World.below_ext _ Y))).mono ?_); rintro e w1 ⟨rfl, hr1, ho1⟩))
                  (refine hK _ _ (fun hnd => by first | exact Bool.noConfusion hnd | exact ho1) ?_; clear hK K)
                  refine First.wpF_must (fun K hK => ?_)
                  go_wp2_with (go_at_call 58; ((with_reducible refine (from_any _ _ _ _).mono ?_); rintro e w4 ⟨rfl, hb4⟩))
                  (refine hK _ _ (fun hnd => by first | exact Bool.noConfusion hnd | exact Only.of_below hb4) ?_; clear hK K)
                  (repeat (first | (refine First.wpF_pure (fun K hK => ?_); go_simp; first | (refine hK _ _ ?_; clear hK K) | (apply Exists.intro; refine ⟨fun _ => ?_, hK _ _ ?_⟩; fail)) | (refine First.wpF_free (fun K hK => ?_); go_simp; first | (refine hK _ _ ?_; clear hK K))))
                  refine First.wpF_must (fun K hK => ?_)
                  go_wp2
                  (refine hK _ _ (fun hnd => by first | exact Bool.noConfusion hnd | exact Only.refl _ _ | ((repeat (refine Only.set_ ?_ (.inl rfl) _)); exact Only.refl _ _)) ?_; clear hK K)
                  refine First.wpF_nil ?_
                  have hr4 := hr1.below hb4
                  go_wp2_with (go_at_call 53; (with_reducible refine (rderr_any _ _ _ _ _ hr4).mono ?_); rintro e w2 ⟨rfl, rfl⟩)
                  go_roundw
                  case rel =>
                    have hs3 := hb3.size
                    have hs1 := ho1.size
                    simp only [World.size_alloc, World.size_ext] at hs3 hs1
                    exact ⟨j + 1, by omega, by go_num, hr4, ((Below.ext ((hb.alloc hs _).trans (hb3.mono (by simp; omega))) (by omega) Y).trans (ho1.below hgw (by simp [World.size_ext]; omega))).trans (hb4.mono (by omega))⟩
                  case measure => simp [intOf]; omega
              · rw [show itemB ⟨xk, xn, xi, xf, xs, xa, xb, xc, xm⟩ = [] by simp [itemB, k0, k1, k2, k3, k4]] at h0
                have e0 : (xk == 0) = false := by simpa using k0
                have e1 : (xk == 1) = false := by simpa using k1
                have e2 : (xk == 2) = false := by simpa using k2
                have e3 : (xk == 3) = false := by simpa using k3
                have e4 : (xk == 4) = false := by simpa using k4
                go_wp2_with (go_at_call 53; (with_reducible refine (rderr_any _ _ _ _ _ h0).mono ?_); rintro e w2 ⟨rfl, rfl⟩)
                go_roundw
                case rel => exact ⟨j + 1, by omega, by go_num, h0, hb.alloc hs _⟩
                case measure => simp [intOf]; omega
    · obtain rfl : j = n := by omega
      rw [List.drop_of_length_le (by omega), show itemsB [] = [] from rfl] at hrd
      have hq := fun w1 (h1 : Rdr w1 g b [] 0) => rdend_any g b [] 0 w1 h1
      rw [show endP ⟨[], 0⟩ = ⟨[], 0⟩ from rfl] at hq
      clear hr
      go_wp2_with (first | (go_at_call 26; (with_reducible refine (wawake_any _).mono ?_); rintro e w2 ⟨rfl, hb2⟩) | (go_at_call 54; (with_reducible refine (hq _ (hrd.below hb2)).mono ?_); rintro e w3 ⟨rfl, hr3, ho3⟩))
      go_ret
      exact ⟨rfl, (hb.trans (hb2.mono hs)).trans (ho3.below hgw (by have := hb2.size; omega))⟩
section
open Go.ChangeShapes Go.WideShapes Go.ChangeAt
variable {H : Type} {enc : TypeId × Value → H}
set_option maxRecDepth 100000 in
theorem wireBack_walk : LawWalkU enc Try.prog 12 Try.f12 Rows.uptoSmall := by
  intro W base args ds ps hval hA hlt _ hk hs
  rw [Try.params12] at hA hval hs
  obtain ⟨v0, d0, rfl, rfl, h0⟩ := trodAll_one hA
  obtain ⟨A, n, c, l, rfl, hnc, hcm, hr, hl, hb, ht⟩ := items_open2 (hval 0 _ v0 rfl rfl) h0
  have hk' := bulk_bound hk
  simp only [Rows.uptoBulkAll] at hk'
  exact law_wireBack A n c l W hr hl (fun x hx => by have := ht x hx; unfold maxLen at this; omega) (by omega) (by unfold maxLen at hcm; omega)
set_option maxRecDepth 100000 in
theorem wireBack_lifted (os : Os) (started : os.Started) (H : Type) (enc : TypeId × Value → H) (F : Stop.Interp) :
    ReturnsInHanded {} Try.checked os 12 .any ((Rows.OpenSpec.upto Rows.wireBackSpec).pre6 enc Try.prog Try.f12 Rows.wireBackUptoRow.domain false) (((Rows.OpenSpec.upto Rows.wireBackSpec).at F).post enc Try.prog Try.f12 false true false false) :=
  law_lifted_upto (C := Try.checked) (s := Rows.OpenSpec.upto Rows.wireBackSpec) (s0 := Rows.wireBackSpec) (k := Rows.uptoSmall) rfl rfl own started (by kernel_rfl) Try.func12 laidOut (by kernel_rfl) rfl Try.underlying4 rfl rfl rfl
    (fun ds h => by obtain ⟨d0, rfl⟩ := list1 h; rfl)
    (OpenSpec.witness (enc := enc) (C := Try.checked) (s := Rows.OpenSpec.upto Rows.wireBackSpec) (k := Rows.uptoSmall) rfl false ⟨#[], #[.slice none 0 0], []⟩ 8 (by kernel_rfl) (by kernel_rfl) (by kernel_rfl)
      (x := ([.nil], [], [])) (by kernel_rfl) rfl (by kernel_rfl))
    wireBack_walk
theorem wireBack_holds : Rows.WireBackUptoSaid :=
  OpenClaim.holds_of_cond 12 Try.f12 rfl rfl rfl rfl rfl rfl rfl ⟨rfl, rfl, rfl, rfl, rfl⟩ rfl rfl rfl rfl rfl (by kernel_rfl) Try.func12 (by kernel_rfl)
    (of_decide_eq_true (by kernel_rfl)) (by unfold Func.isWrapper; rw [if_neg (of_decide_eq_false (by kernel_rfl))]; exact ⟨rfl, rfl⟩)
    (fun os started H enc _ F => wireBack_lifted os started H enc F)
#print axioms wireBack_holds
end
end Go.Proofs.Ythajbeooemngpaa
