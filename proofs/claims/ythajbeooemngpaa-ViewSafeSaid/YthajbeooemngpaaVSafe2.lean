import Derived.Test.YthajbeooemngpaaVSafe
/-! The law: who is safe. -/
namespace Go.Proofs.Ythajbeooemngpaa
open Go.RowKit
set_option linter.unusedVariables false
set_option linter.unusedSimpArgs false
set_option maxRecDepth 100000 in
set_option maxHeartbeats 40000000 in
theorem law_viewSafe (A0 : Option Addr) (n0 c0 : Nat) (l0 : List Int) (A : Option Addr) (n c : Nat) (l : List VOp) (w : World) (hr0 : Reads w w.heap.size 1 A0 n0 (ints l0)) (hn0 : n0 * 8 ≤ 140737488355328)
    (hr : Reads w w.heap.size 3 A n (rowsV VOp.cells l)) (hok : ∀ x ∈ l, x.ok w) (hn : n ≤ 9223372036854775807) :
    Calls Try.prog 9 #[.slice A0 n0 c0, .slice A n c] w fun e w' => e = .returned (.bool true) ∧ Below w.heap.size w w' := by
  have hl : l.length = n := by have := hr.1; rw [rowsV_length VOp.len] at this; omega
  cases hu : risingB l0 with
  | false =>
    have hN := new_no A0 n0 c0 l0 w hr0 hn0 hu
    go_enter Try.func9, Try.ntmps9
    go_wp2_with (first | (go_at_call 32; (with_reducible refine hN.mono ?_); rintro e w1 ⟨rfl, rfl⟩) | (go_at_call 28; (with_reducible refine (vawake_any _).mono ?_); rintro e w' ⟨rfl, hb⟩; obtain ⟨X, rfl⟩ := World.ext_of_below hb; clear hb))
    go_ret
    exact ⟨rfl, by (repeat' (first | with_reducible exact Below.refl _ _ | with_reducible refine Below.ext ?_ ?_ _ | with_reducible refine Below.alloc ?_ ?_ _ | with_reducible refine Below.setCell ?_ ?_ _ | with_reducible refine Below.drew ?_ | with_reducible assumption | (simp [World.size_ext]; done) | (simp [World.size_ext]; omega)))⟩
  | true =>
    obtain ⟨x0, l1, rfl⟩ : ∃ x t, l0 = x :: t := by
      cases l0 with
      | nil => cases hu
      | cons x t => exact ⟨x, t, rfl⟩
    have hN := new_yes A0 n0 c0 x0 l1 w hr0 hn0 hu
    have hk0 : Vw.ok ⟨1, x0, x0 :: l1, x0 :: l1⟩ := ⟨⟨by simp only; omega, by simp only; omega⟩, hu, by simp, by simp, fun x hx => hx, by have := reads_len hr0; simp only [List.length_cons] at *; omega, by have := reads_len hr0; simp only [List.length_cons] at *; omega⟩
    go_enter Try.func9, Try.ntmps9
    go_wp2_with (first | (go_at_call 32; (with_reducible refine hN.mono ?_); rintro e w1 ⟨⟨g, bm0, bs0, rfl, hC1, hg, hbm, hbs⟩, hb1⟩) | (go_at_call 28; (with_reducible refine (vawake_any _).mono ?_); rintro e w2 ⟨rfl, hb2⟩))
    have hC2 := hC1.below hb2
    have hb02 := hb1.trans (hb2.mono hb1.size)
    clear hC1 hb1 hb2 hN hr0 hu
    go_loopw [33] (fun vi wr => ∃ (j bm bs : Nat) (k : Vw), j ≤ n ∧ vi = .int .i64 (j : Int) ∧ k.ok ∧ Ctl wr g bm bs k ∧ w.heap.size ≤ bm ∧ w.heap.size ≤ bs ∧ Below w.heap.size w wr) (fun vi _ => ((n : Int) - intOf vi).toNat)
    case atStart => exact ⟨0, bm0, bs0, _, by omega, rfl, hk0, hC2, hbm, hbs, hb02⟩
    case round =>
      clear hC2 hb02 hbm hbs hk0
      obtain ⟨j, bm, bs, k, hj, rfl, hk, hC0, hbm, hbs, hb⟩ := hrel
      obtain ⟨wo, rfl⟩ : ∃ wo : World, wo = wr := ⟨_, rfl⟩
      have hs := hb.size
      have hgl := hC0.lt
      by_cases hlt : j < n
      · obtain ⟨b, o, rfl, hbb, hc⟩ := hr.plain (by omega) (by omega)
        obtain ⟨x, hx⟩ : ∃ x, l[j]? = some x := ⟨l[j]'(by omega), List.getElem?_eq_getElem (by omega)⟩
        have hxo := hok x (List.mem_of_getElem? hx)
        have hcell : ∀ k u, x.cells[k]? = some u → wo.cell? ⟨b, o + j * 3 + k, none⟩ = some u := fun k u hu => by
          rw [hb.cell (p := ⟨b, _, none⟩) hbb, Nat.add_assoc]
          exact hc _ _ (rowsV_get VOp.len l j x hx k u hu)
        have m0 := hcell 0 _ rfl
        have m1 := hcell 1 _ rfl
        have m2 := hcell 2 _ rfl
        rw [Nat.add_zero] at m0
        have hbw : b < wo.heap.size := by omega
        have hlj : (j : Int) < n := by omega
        clear hc hr hcell hok hx
        obtain ⟨kd, nn, A, m, c, ms⟩ := x
        obtain ⟨o1, o2, o3, o4⟩ := hxo
        simp only at o1 o2 o3 o4 m0 m1 m2
        have hO := Blk.new wo 72 #[.int .i64 kd, .int .i64 nn, .slice A m c]
        have hS0 := safe_any g bm bs k _ (hC0.alloc (.cells #[.int .i64 kd, .int .i64 nn, .slice A m c] 72)) hk.sb
        have hArd := (o1.below hb).more hs
        have hAg : 0 < m → ∀ a, A = some a → a.block ≠ g := fun h0 a ha => by
          obtain ⟨a', e, hb', _⟩ := o1.2 h0
          rw [ha] at e; cases e; omega
        have hAs : 0 < m → ∀ a, A = some a → a.block ≠ bs := fun h0 a ha => by
          obtain ⟨a', e, hb', _⟩ := o1.2 h0
          rw [ha] at e; cases e; omega
        by_cases k0 : kd = 0
        · subst k0
          go_wp2_with (first | (go_at_call 31; (with_reducible refine hS0.mono ?_); rintro e w1 ⟨⟨v, rfl, ho1⟩, hb1⟩; obtain ⟨A1, c1, rfl, hc1⟩ := own_sl ho1; have hO1 := Blk.below hO hb1 hO.lt; have co := hO1.cell; have lo := hO1.lt; have hs1 := hb1.size; have hC1 := (hC0.alloc _).below hb1; have hr1 := Reads.of_own ho1; have ha1 := own_addr ho1; (simp only [World.size_alloc] at hs1 ha1); have hA1 : Reads w1 w1.heap.size 1 A m (ints ms) := ((hArd.below (Below.alloc (Below.refl _ _) (Nat.le_refl _) _)).below (hb1.mono (by simp))).more (by omega)) | (go_at_call 27; (with_reducible refine (change_safe g bm bs k nn A m c ms _ hC1 hk hA1 (by omega) hAg hAs).mono ?_); rintro e w2 ⟨⟨u, rfl⟩, ⟨bm2, k2, hC2, hk2, hsub, hbm2⟩, hO2⟩) | (go_at_call 31; (with_reducible refine (safe_any g bm2 bs k2 _ hC2 hk2.sb).mono ?_); rintro e w3 ⟨⟨v, rfl, ho3⟩, hb3⟩; obtain ⟨A3, c3, rfl, hc3⟩ := own_sl ho3))
          have hs2 := hO2.size
          have hwas : Reads w3 w3.heap.size 1 A1 k.ss.length (ints k.ss) := ((Reads.both hr1 hO2 (fun _ a ha => by have := ha1 a ha; omega) (fun _ a ha => by have := ha1 a ha; omega)).below hb3).more hb3.size
          have hq3 := Reads.of_own ho3
          have hC3 := hC2.below hb3
          have hb01 : Below w.heap.size w w1 := (hb.alloc hs _).trans (hb1.mono (by simp; omega))
          have hb03 : Below w.heap.size w w3 := (hb01.trans (hO2.below (by omega) (by omega) (by omega))).trans (hb3.mono (by omega))
          clear hO hS0 hb1 ho1 hO1 co lo hC1 hr1 ha1 hA1 hO2 hC2 ho3 hb3 hb01 hArd hAg hAs m0 m1 m2 o1
          go_loopw [51] (fun vi wr => ∃ i : Nat, i ≤ k2.ss.length ∧ vi = .int .i64 (i : Int) ∧ w3 = wr) (fun vi _ => ((k2.ss.length : Int) - intOf vi).toNat)
          case atStart => exact ⟨0, by omega, rfl, rfl⟩
          case round =>
            obtain ⟨i, hi, rfl, rfl⟩ := hrel
            by_cases hil : i < k2.ss.length
            · obtain ⟨b3, p3, rfl, hb3b, hc3'⟩ := hq3.plain (by omega) (by omega)
              have hg3 : k2.ss[i]? = some k2.ss[i] := List.getElem?_eq_getElem hil
              have m3 := hc3' _ _ (ints_get hg3)
              have hm3 := hsub _ (List.getElem_mem hil)
              have hsb2 := hk2.sb
              have hil' : (i : Int) < (k2.ss.length : Int) := by omega
              generalize k2.ss[i] = y at *
              have hH := rhas_yes _ _ c1 k.ss y _ hwas (by have := hk.sb; omega) hm3
              clear hc3' hg3
              go_wp2_with (go_at_call 41; (with_reducible refine hH.mono ?_); rintro e w' ⟨rfl, rfl⟩)
              go_roundw
              case rel => exact ⟨i + 1, by omega, by go_num, by trivial⟩
              case measure => simp [intOf]; omega
            · obtain rfl : i = k2.ss.length := by omega
              obtain ⟨bm3, bs3, k3, hk3, hC3, hbm3, hbs3⟩ : ∃ bm3 bs3 k3, Vw.ok k3 ∧ Ctl w3 g bm3 bs3 k3 ∧ w.heap.size ≤ bm3 ∧ w.heap.size ≤ bs3 := ⟨bm2, bs, k2, hk2, hC3, by omega, hbs⟩
              clear hwas hq3 hsub
              go_wp2_with (go_at_call 30; (with_reducible refine (now_any g bm3 bs3 k3 _ hC3 hk3.mb).mono ?_); rintro e w4 ⟨⟨v, rfl, ho4⟩, hb4⟩; obtain ⟨A4, c4, rfl, hc4⟩ := own_sl ho4)
              have hs3 := hb03.size
              have hs4 := hb4.size
              refine abstr (fun W => Below w.heap.size w W ∧ Ctl W g bm3 bs3 k3 ∧ Blk W w4.heap.size 56 #[.int .i64 k3.e, .int .i64 k3.p, .slice A4 k3.ms.length c4] ∧ Reads W W.heap.size 1 A4 k3.ms.length (ints k3.ms))
                ⟨(hb03.trans (hb4.mono hs3)).alloc (by omega) _, (hC3.below hb4).alloc _, Blk.new _ _ _, ((Reads.of_own ho4).alloc (Nat.le_refl _) _).more (by simp)⟩ (fun W hW => ?_)
              obtain ⟨hbW, hCW, hVW, hqW⟩ := hW
              generalize w4.heap.size = pv at *
              clear hC3 hb4 ho4 hb03 hC0 hb hs hs3 hs4
              have cV := hVW.cell
              have lV := hVW.lt
              refine First.wp_region_first_ext [0, 7] [2, 3, 4, 6, 9, 10] [(true, true, 0), (false, true, 1), (true, false, 2), (true, false, 3), (true, false, 4), (true, false, 6), (true, true, 7), (false, true, 5), (false, false, 8), (true, false, 9), (true, false, 10)] (by kernel_rfl) (by kernel_rfl) (fun Y => ?_); simp only [List.map_cons, List.map_nil, List.getD_cons_zero, List.getD_cons_succ]
              (repeat (first | (refine First.wpF_pure (fun K hK => ?_); go_simp; first | (refine hK _ _ ?_; clear hK K) | (apply Exists.intro; refine ⟨fun _ => ?_, hK _ _ ?_⟩; fail)) | (refine First.wpF_free (fun K hK => ?_); go_simp; first | (refine hK _ _ ?_; clear hK K))))
              refine First.wpF_must (fun K hK => ?_)
              go_wp2_with (go_at_call 39; (with_reducible refine (vright_yes k3 hk3 A4 _ c4 _ ((hqW.ext (Nat.le_refl _) Y).more (by simp [World.size_ext])) (by have := hk3.mb; omega)).mono ?_); rintro e w' ⟨rfl, hb⟩; obtain ⟨Z, rfl⟩ := World.ext_of_below hb; clear hb)
              (refine hK _ _ (fun hnd => by first | exact Bool.noConfusion hnd | assumption | with_reducible exact grown_alloc _ _ | with_reducible exact First.Grown.refl _ | with_reducible exact First.Grown.cat _ _ _ | with_reducible exact First.Grown.ext _ _) ?_; clear hK K)
              (repeat (first | (refine First.wpF_pure (fun K hK => ?_); go_simp; first | (refine hK _ _ ?_; clear hK K) | (apply Exists.intro; refine ⟨fun _ => ?_, hK _ _ ?_⟩; fail)) | (refine First.wpF_free (fun K hK => ?_); go_simp; first | (refine hK _ _ ?_; clear hK K))))
              refine First.wpF_must (fun K hK => ?_)
              go_wp2_with (go_at_call 31; (with_reducible refine (safe_any g bm3 bs3 k3 _ (hCW.below (World.below_ext W (Y.cat Z))) hk3.sb).mono ?_); rintro e w' ⟨⟨v, rfl, ho5⟩, hb5⟩; obtain ⟨A5, c5, rfl, hc5⟩ := own_sl ho5; obtain ⟨U, rfl⟩ := World.ext_of_below hb5; clear hb5; rw [World.ext_ext] at ho5)
              (refine hK _ _ (fun hnd => by first | exact Bool.noConfusion hnd | assumption | with_reducible exact grown_alloc _ _ | with_reducible exact First.Grown.refl _ | with_reducible exact First.Grown.cat _ _ _ | with_reducible exact First.Grown.ext _ _) ?_; clear hK K)
              (repeat (first | (refine First.wpF_pure (fun K hK => ?_); go_simp; first | (refine hK _ _ ?_; clear hK K) | (apply Exists.intro; refine ⟨fun _ => ?_, hK _ _ ?_⟩; fail)) | (refine First.wpF_free (fun K hK => ?_); go_simp; first | (refine hK _ _ ?_; clear hK K))))
              refine First.wpF_must (fun K hK => ?_)
              go_wp2_with (go_at_call 41; (with_reducible refine (rhas_yes _ _ c5 k3.ss k3.p _ (Reads.of_own ho5) (by have := hk3.sb; omega) hk3.ps).mono ?_); rintro e w' ⟨rfl, rfl⟩)
              (refine hK _ _ (fun hnd => by first | exact Bool.noConfusion hnd | assumption | with_reducible exact grown_alloc _ _ | with_reducible exact First.Grown.refl _ | with_reducible exact First.Grown.cat _ _ _ | with_reducible exact First.Grown.ext _ _) ?_; clear hK K)
              (repeat (first | (refine First.wpF_pure (fun K hK => ?_); go_simp; first | (refine hK _ _ ?_; clear hK K) | (apply Exists.intro; refine ⟨fun _ => ?_, hK _ _ ?_⟩; fail)) | (refine First.wpF_free (fun K hK => ?_); go_simp; first | (refine hK _ _ ?_; clear hK K))))
              refine First.wpF_nil ?_
              clear ho5
              go_wp2_with (go_at_call 31; (with_reducible refine (safe_any g bm3 bs3 k3 _ (hCW.below (World.below_ext W ((Y.cat Z).cat U))) hk3.sb).mono ?_); rintro e w6 ⟨⟨v, rfl, ho6⟩, hb6⟩; obtain ⟨A6, c6, rfl, hc6⟩ := own_sl ho6)
              have hW6 : Below W.heap.size W w6 := (World.below_ext W _).trans (hb6.mono (by simp [World.size_ext]))
              have hq6 := Reads.of_own ho6
              have hV6 := hVW.below hW6 lV
              have hm6 := (hqW.below hW6).more hW6.size
              have hC6 := hCW.below hW6
              have hb06 := hbW.trans (hW6.mono hbW.size)
              have cV6 := hV6.cell
              have lV6 := hV6.lt
              clear hW6 hb6 ho6 hVW hqW hCW hbW cV lV
              go_loopw [80] (fun vi wr => ∃ i : Nat, i ≤ k3.ss.length ∧ vi = .int .i64 (i : Int) ∧ w6 = wr) (fun vi _ => ((k3.ss.length : Int) - intOf vi).toNat)
              case atStart => exact ⟨0, by omega, rfl, rfl⟩
              case round =>
                obtain ⟨i, hi, rfl, rfl⟩ := hrel
                by_cases hil : i < k3.ss.length
                · obtain ⟨b3, p3, rfl, hb3b, hc3'⟩ := hq6.plain (by omega) (by omega)
                  have hg3 : k3.ss[i]? = some k3.ss[i] := List.getElem?_eq_getElem hil
                  have m3 := hc3' _ _ (ints_get hg3)
                  have hm3 := hk3.sub _ (List.getElem_mem hil)
                  have hsb2 := hk3.sb
                  have hil' : (i : Int) < (k3.ss.length : Int) := by omega
                  generalize k3.ss[i] = y at *
                  have hH := rhas_yes _ _ c4 k3.ms y _ hm6 (by have := hk3.mb; omega) hm3
                  clear hc3' hg3 hm6 hq6
                  go_wp2_with (go_at_call 41; (with_reducible refine hH.mono ?_); rintro e w' ⟨rfl, rfl⟩)
                  go_roundw
                  case rel => exact ⟨i + 1, by omega, by go_num, by trivial⟩
                  case measure => simp [intOf]; omega
                · obtain rfl : i = k3.ss.length := by omega
                  clear hm6 hq6
                  go_wp2
                  go_roundw
                  case rel => exact ⟨j + 1, bm3, bs3, k3, by omega, by go_num, hk3, hC6, hbm3, hbs3, hb06⟩
                  case measure => simp [intOf]; omega
        · have k0' : (kd == 0) = false := by simpa using k0
          go_wp2_with (first | (go_at_call 31; (with_reducible refine hS0.mono ?_); rintro e w1 ⟨⟨v, rfl, ho1⟩, hb1⟩; obtain ⟨A1, c1, rfl, hc1⟩ := own_sl ho1; have hO1 := Blk.below hO hb1 hO.lt; have co := hO1.cell; have lo := hO1.lt; have hs1 := hb1.size; have hC1 := (hC0.alloc _).below hb1; have hr1 := Reads.of_own ho1; have ha1 := own_addr ho1; (simp only [World.size_alloc] at hs1 ha1); have hA1 : Reads w1 w1.heap.size 1 A m (ints ms) := ((hArd.below (Below.alloc (Below.refl _ _) (Nat.le_refl _) _)).below (hb1.mono (by simp))).more (by omega)) | (go_at_call 29; (with_reducible refine (active_safe g bm bs k nn _ hC1 hk).mono ?_); rintro e w3 ⟨⟨u, rfl⟩, ⟨bs3, k3, hC3, hk3, hbs3'⟩, hO2⟩))
          have hb01 : Below w.heap.size w w1 := (hb.alloc hs _).trans (hb1.mono (by simp; omega))
          have hb03 : Below w.heap.size w w3 := hb01.trans (hO2.below (by omega) (by omega) (by omega))
          obtain ⟨bm3, hbm3, hC3⟩ : ∃ bm3, w.heap.size ≤ bm3 ∧ Ctl w3 g bm3 bs3 k3 := ⟨bm, hbm, hC3⟩
          have hbs3 : w.heap.size ≤ bs3 := by omega
          clear hO hS0 hb1 ho1 hO1 co lo hC1 hr1 ha1 hA1 hO2 hb01 hArd hAg hAs m0 m1 m2 o1
          go_wp2_with (go_at_call 30; (with_reducible refine (now_any g bm3 bs3 k3 _ hC3 hk3.mb).mono ?_); rintro e w4 ⟨⟨v, rfl, ho4⟩, hb4⟩; obtain ⟨A4, c4, rfl, hc4⟩ := own_sl ho4)
          have hs3 := hb03.size
          have hs4 := hb4.size
          refine abstr (fun W => Below w.heap.size w W ∧ Ctl W g bm3 bs3 k3 ∧ Blk W w4.heap.size 56 #[.int .i64 k3.e, .int .i64 k3.p, .slice A4 k3.ms.length c4] ∧ Reads W W.heap.size 1 A4 k3.ms.length (ints k3.ms))
            ⟨(hb03.trans (hb4.mono hs3)).alloc (by omega) _, (hC3.below hb4).alloc _, Blk.new _ _ _, ((Reads.of_own ho4).alloc (Nat.le_refl _) _).more (by simp)⟩ (fun W hW => ?_)
          obtain ⟨hbW, hCW, hVW, hqW⟩ := hW
          generalize w4.heap.size = pv at *
          clear hC3 hb4 ho4 hb03 hC0 hb hs hs3 hs4
          have cV := hVW.cell
          have lV := hVW.lt
          refine First.wp_region_first_ext [0, 7] [2, 3, 4, 6, 9, 10] [(true, true, 0), (false, true, 1), (true, false, 2), (true, false, 3), (true, false, 4), (true, false, 6), (true, true, 7), (false, true, 5), (false, false, 8), (true, false, 9), (true, false, 10)] (by kernel_rfl) (by kernel_rfl) (fun Y => ?_); simp only [List.map_cons, List.map_nil, List.getD_cons_zero, List.getD_cons_succ]
          (repeat (first | (refine First.wpF_pure (fun K hK => ?_); go_simp; first | (refine hK _ _ ?_; clear hK K) | (apply Exists.intro; refine ⟨fun _ => ?_, hK _ _ ?_⟩; fail)) | (refine First.wpF_free (fun K hK => ?_); go_simp; first | (refine hK _ _ ?_; clear hK K))))
          refine First.wpF_must (fun K hK => ?_)
          go_wp2_with (go_at_call 39; (with_reducible refine (vright_yes k3 hk3 A4 _ c4 _ ((hqW.ext (Nat.le_refl _) Y).more (by simp [World.size_ext])) (by have := hk3.mb; omega)).mono ?_); rintro e w' ⟨rfl, hb⟩; obtain ⟨Z, rfl⟩ := World.ext_of_below hb; clear hb)
          (refine hK _ _ (fun hnd => by first | exact Bool.noConfusion hnd | assumption | with_reducible exact grown_alloc _ _ | with_reducible exact First.Grown.refl _ | with_reducible exact First.Grown.cat _ _ _ | with_reducible exact First.Grown.ext _ _) ?_; clear hK K)
          (repeat (first | (refine First.wpF_pure (fun K hK => ?_); go_simp; first | (refine hK _ _ ?_; clear hK K) | (apply Exists.intro; refine ⟨fun _ => ?_, hK _ _ ?_⟩; fail)) | (refine First.wpF_free (fun K hK => ?_); go_simp; first | (refine hK _ _ ?_; clear hK K))))
          refine First.wpF_must (fun K hK => ?_)
          go_wp2_with (go_at_call 31; (with_reducible refine (safe_any g bm3 bs3 k3 _ (hCW.below (World.below_ext W (Y.cat Z))) hk3.sb).mono ?_); rintro e w' ⟨⟨v, rfl, ho5⟩, hb5⟩; obtain ⟨A5, c5, rfl, hc5⟩ := own_sl ho5; obtain ⟨U, rfl⟩ := World.ext_of_below hb5; clear hb5; rw [World.ext_ext] at ho5)
          (refine hK _ _ (fun hnd => by first | exact Bool.noConfusion hnd | assumption | with_reducible exact grown_alloc _ _ | with_reducible exact First.Grown.refl _ | with_reducible exact First.Grown.cat _ _ _ | with_reducible exact First.Grown.ext _ _) ?_; clear hK K)
          (repeat (first | (refine First.wpF_pure (fun K hK => ?_); go_simp; first | (refine hK _ _ ?_; clear hK K) | (apply Exists.intro; refine ⟨fun _ => ?_, hK _ _ ?_⟩; fail)) | (refine First.wpF_free (fun K hK => ?_); go_simp; first | (refine hK _ _ ?_; clear hK K))))
          refine First.wpF_must (fun K hK => ?_)
          go_wp2_with (go_at_call 41; (with_reducible refine (rhas_yes _ _ c5 k3.ss k3.p _ (Reads.of_own ho5) (by have := hk3.sb; omega) hk3.ps).mono ?_); rintro e w' ⟨rfl, rfl⟩)
          (refine hK _ _ (fun hnd => by first | exact Bool.noConfusion hnd | assumption | with_reducible exact grown_alloc _ _ | with_reducible exact First.Grown.refl _ | with_reducible exact First.Grown.cat _ _ _ | with_reducible exact First.Grown.ext _ _) ?_; clear hK K)
          (repeat (first | (refine First.wpF_pure (fun K hK => ?_); go_simp; first | (refine hK _ _ ?_; clear hK K) | (apply Exists.intro; refine ⟨fun _ => ?_, hK _ _ ?_⟩; fail)) | (refine First.wpF_free (fun K hK => ?_); go_simp; first | (refine hK _ _ ?_; clear hK K))))
          refine First.wpF_nil ?_
          clear ho5
          go_wp2_with (go_at_call 31; (with_reducible refine (safe_any g bm3 bs3 k3 _ (hCW.below (World.below_ext W ((Y.cat Z).cat U))) hk3.sb).mono ?_); rintro e w6 ⟨⟨v, rfl, ho6⟩, hb6⟩; obtain ⟨A6, c6, rfl, hc6⟩ := own_sl ho6)
          have hW6 : Below W.heap.size W w6 := (World.below_ext W _).trans (hb6.mono (by simp [World.size_ext]))
          have hq6 := Reads.of_own ho6
          have hV6 := hVW.below hW6 lV
          have hm6 := (hqW.below hW6).more hW6.size
          have hC6 := hCW.below hW6
          have hb06 := hbW.trans (hW6.mono hbW.size)
          have cV6 := hV6.cell
          have lV6 := hV6.lt
          clear hW6 hb6 ho6 hVW hqW hCW hbW cV lV
          go_loopw [80] (fun vi wr => ∃ i : Nat, i ≤ k3.ss.length ∧ vi = .int .i64 (i : Int) ∧ w6 = wr) (fun vi _ => ((k3.ss.length : Int) - intOf vi).toNat)
          case atStart => exact ⟨0, by omega, rfl, rfl⟩
          case round =>
            obtain ⟨i, hi, rfl, rfl⟩ := hrel
            by_cases hil : i < k3.ss.length
            · obtain ⟨b3, p3, rfl, hb3b, hc3'⟩ := hq6.plain (by omega) (by omega)
              have hg3 : k3.ss[i]? = some k3.ss[i] := List.getElem?_eq_getElem hil
              have m3 := hc3' _ _ (ints_get hg3)
              have hm3 := hk3.sub _ (List.getElem_mem hil)
              have hsb2 := hk3.sb
              have hil' : (i : Int) < (k3.ss.length : Int) := by omega
              generalize k3.ss[i] = y at *
              have hH := rhas_yes _ _ c4 k3.ms y _ hm6 (by have := hk3.mb; omega) hm3
              clear hc3' hg3 hm6 hq6
              go_wp2_with (go_at_call 41; (with_reducible refine hH.mono ?_); rintro e w' ⟨rfl, rfl⟩)
              go_roundw
              case rel => exact ⟨i + 1, by omega, by go_num, by trivial⟩
              case measure => simp [intOf]; omega
            · obtain rfl : i = k3.ss.length := by omega
              clear hm6 hq6
              go_wp2
              go_roundw
              case rel => exact ⟨j + 1, bm3, bs3, k3, by omega, by go_num, hk3, hC6, hbm3, hbs3, hb06⟩
              case measure => simp [intOf]; omega
      · obtain rfl : j = n := by omega
        go_wp2
        go_ret
        exact ⟨rfl, hb⟩
section
open Go.ChangeShapes Go.WideShapes Go.ChangeAt
variable {H : Type} {enc : TypeId × Value → H}
set_option maxRecDepth 100000 in
theorem viewSafe_walk : LawWalkS enc Try.prog 9 Try.f9 := by
  intro W base args ds ps hval hA hlt _ hs
  rw [Try.params9] at hA hval hs
  obtain ⟨v0, v1, d0, d1, p0, p1, rfl, rfl, rfl, h0, h1⟩ := trodAll_two hA
  obtain ⟨A, n, c, l, rfl, hnc, hcm, hr, _, hn⟩ := ints_open (hval 0 _ v0 rfl rfl) h0
  have hb := ints_weight (weights_at hs (j := 0) rfl rfl) hn
  obtain ⟨A1, n1, c1, l1, rfl, hnc1, hcm1, hr1, hok⟩ := vops_open (hval 1 _ v1 rfl rfl) h1 (weights_at hs (j := 1) rfl rfl)
  exact law_viewSafe A n c l A1 n1 c1 l1 W hr (by omega) hr1 hok (by unfold maxLen at hcm1; omega)
set_option maxRecDepth 100000 in
theorem viewSafe_lifted (os : Os) (started : os.Started) (H : Type) (enc : TypeId × Value → H) :
    ReturnsInHanded {} Try.checked os 9 .any (Rows.viewSafeSpec.pre6 enc Try.prog Try.f9 Rows.viewSafeRow.domain false) (Rows.viewSafeSpec.post enc Try.prog Try.f9 false true false false) :=
  law_lifted_sized (C := Try.checked) own started (by kernel_rfl) Try.func9 laidOut (by kernel_rfl) rfl Try.underlying4 rfl rfl
    (fun ds h => by obtain ⟨d0, d1, rfl⟩ := list2 h; rfl)
    (ChangeSpec.witness6 (enc := enc) (C := Try.checked) false ⟨#[], #[.slice none 0 0, .slice none 0 0], []⟩ 8 (by kernel_rfl) (by kernel_rfl) (by kernel_rfl) (by kernel_rfl))
    viewSafe_walk
theorem viewSafe_holds : Rows.ViewSafeSaid :=
  OpenClaim.holds_of_wide 9 Try.f9 rfl rfl rfl rfl rfl rfl rfl ⟨rfl, rfl, rfl, rfl, rfl⟩ rfl rfl rfl rfl rfl (by kernel_rfl) Try.func9 (by kernel_rfl)
    (of_decide_eq_true (by kernel_rfl)) (by unfold Func.isWrapper; rw [if_neg (of_decide_eq_false (by kernel_rfl))]; exact ⟨rfl, rfl⟩)
    (fun os started H enc _ => viewSafe_lifted os started H enc)
#print axioms viewSafe_holds
end
end Go.Proofs.Ythajbeooemngpaa
