import Derived.Test.YthajbeooemngpaaVPlays
/-! The law: step by step the program's control is the document's. -/
namespace Go.Proofs.Ythajbeooemngpaa
open Go.RowKit
set_option linter.unusedVariables false
set_option linter.unusedSimpArgs false
set_option maxRecDepth 100000 in
set_option maxHeartbeats 40000000 in
theorem law_viewPlays (A0 : Option Addr) (n0 c0 : Nat) (l0 : List Int) (A : Option Addr) (n c : Nat) (l : List VOp) (w : World) (hr0 : Reads w w.heap.size 1 A0 n0 (ints l0)) (hn0 : n0 * 8 ≤ 140737488355328)
    (hr : Reads w w.heap.size 3 A n (rowsV VOp.cells l)) (hok : ∀ x ∈ l, x.ok w) (hn : n ≤ 9223372036854775807) :
    Calls Try.prog 8 #[.slice A0 n0 c0, .slice A n c] w fun e w' => e = .returned (.bool true) ∧ Below w.heap.size w w' := by
  have hl : l.length = n := by have := hr.1; rw [rowsV_length VOp.len] at this; omega
  have hl0 := reads_len hr0
  obtain ⟨v1, w1, hap, ho1, hb1⟩ := run_copy w A0 n0 c0 l0 hr0 hn0
  obtain ⟨A1, c1, rfl, hc1⟩ := own_sl ho1
  have hq1 := Reads.of_own ho1
  have hs1 := hb1.size
  cases hu : risingB l0 with
  | false =>
    have hN := new_no A1 n0 c1 l0 w1 hq1 hn0 hu
    have hR := rnew_no A0 n0 c0 l0 w1 ((hr0.below hb1).more hs1) (by omega) hu
    go_enter Try.func8, Try.ntmps8
    go_wp2_with (first | (at_builtin; refine wpList_append_run rfl _ _ 54 rfl rfl rfl hap ?_) | (go_at_call 32; (with_reducible refine hN.mono ?_); rintro e w2 ⟨rfl, hw2⟩; subst hw2) | (go_at_call 33; (with_reducible refine hR.mono ?_); rintro e w3 ⟨rfl, hb3⟩) | (go_at_call 28; (with_reducible refine (vawake_any _).mono ?_); rintro e w4 ⟨rfl, hb4⟩))
    go_ret
    have hs3 := hb3.size
    exact ⟨rfl, ((hb1.trans (hb3.mono hs1)).alloc (by omega) _).trans (hb4.mono (by simp; omega))⟩
  | true =>
    obtain ⟨x0, l1, rfl⟩ : ∃ x t, l0 = x :: t := by
      cases l0 with
      | nil => cases hu
      | cons x t => exact ⟨x, t, rfl⟩
    have hN := new_yes A1 n0 c1 x0 l1 w1 hq1 hn0 hu
    have hR : ∀ w', Below w.heap.size w w' → _ := fun w' (h : Below w.heap.size w w') => rnew_yes A0 n0 c0 x0 l1 w' ((hr0.below h).more h.size) (by omega) hu
    have hk0 : Vw.ok ⟨1, x0, x0 :: l1, x0 :: l1⟩ := ⟨⟨by simp only; omega, by simp only; omega⟩, hu, by simp, by simp, fun x hx => hx, by simp only [List.length_cons] at *; omega, by simp only [List.length_cons] at *; omega⟩
    go_enter Try.func8, Try.ntmps8
    go_wp2_with (first | (at_builtin; refine wpList_append_run rfl _ _ 54 rfl rfl rfl hap ?_) | (go_at_call 32; (with_reducible refine hN.mono ?_); rintro e w2 ⟨⟨g, bm0, bs0, rfl, hC2, hg, hbm, hbs⟩, hb2⟩; have hb02 := hb1.trans (hb2.mono hs1)) | (go_at_call 33; (with_reducible refine (hR _ hb02).mono ?_); rintro e w3 ⟨rfl, hb3⟩; have hC3 := hC2.below hb3; have hs3 := hb3.size) | (go_at_call 28; (with_reducible refine (vawake_any _).mono ?_); rintro e w4 ⟨rfl, hb4⟩))
    have hg2 := hC2.lt
    have hs2 := hb2.size
    have HM : Mid w w4 g w3.heap.size bm0 bs0 ⟨1, x0, x0 :: l1, x0 :: l1⟩ A0 c0 A0 c0 := by
      have hA : ∀ b, A0 = some b → b.block < w.heap.size := fun b hb => by
        obtain ⟨a, e, h, _⟩ := hr0.2 (by have : 0 < (x0 :: l1).length := by simp
                                         omega)
        rw [hb] at e; cases e; exact h
      have hb03 := hb02.trans (hb3.mono hb02.size)
      have hb04 : Below w.heap.size w w4 := (hb03.alloc hb03.size _).trans (hb4.mono (by simp; omega))
      have hB := (Blk.new w3 68 #[.int .i64 1, .int .i64 x0, .slice A0 n0 c0, .slice A0 n0 c0]).below hb4 (by simp)
      refine ⟨hk0, (Ctl.alloc hC3 _).below hb4, by omega, by omega, by omega, by omega, ?_, ?_, ?_, fun _ b hb => ?_, by omega, by omega, by omega, hb04⟩
      · simp only [hl0]; exact hB
      · simp only [hl0]; exact hr0
      · simp only [hl0]; exact (hr0.below hb04).more hb04.size
      · have := hA b hb
        omega
    clear hC2 hC3 hb1 hb2 hb02 hb3 hb4 hN hR hap ho1 hq1 hr0 hu hk0 hg hbm hbs
    generalize w3.heap.size = p at *
    go_loopw [51] (fun vi wr => ∃ (j bm bs : Nat) (k : Vw) (A1 : Option Addr) (c1 : Nat) (B1 : Option Addr) (d1 : Nat), j ≤ n ∧ vi = .int .i64 (j : Int) ∧ Mid w wr g p bm bs k A1 c1 B1 d1) (fun vi _ => ((n : Int) - intOf vi).toNat)
    case atStart => exact ⟨0, bm0, bs0, _, _, _, _, _, by omega, rfl, HM⟩
    case round =>
      clear HM
      obtain ⟨j, bm, bs, k, A1, c1, B1, d1, hj, rfl, HM⟩ := hrel
      obtain ⟨wo, rfl⟩ : ∃ wo : World, wo = wr := ⟨_, rfl⟩
      have hb := HM.below
      have hs := hb.size
      by_cases hlt : j < n
      · obtain ⟨b, o, rfl, hbb, hc⟩ := hr.plain (by omega) (by omega)
        obtain ⟨x, hx⟩ : ∃ x, l[j]? = some x := ⟨l[j]'(by omega), List.getElem?_eq_getElem (by omega)⟩
        have hxo := hok x (List.mem_of_getElem? hx)
        have hcell : ∀ k u, x.cells[k]? = some u → wo.cell? ⟨b, o + j * 3 + k, none⟩ = some u := fun k u hu => by
          rw [hb.cell (p := ⟨b, _, none⟩) hbb, Nat.add_assoc]
          exact hc _ _ (rowsV_get VOp.len l j x hx k u hu)
        have m0 := hcell 0 _ rfl
        have m1 := hcell 1 _ rfl
        have m2 := hcell 2 _ rfl
        rw [Nat.add_zero] at m0
        have hbw : b < wo.heap.size := by omega
        have hlj : (j : Int) < n := by omega
        clear hc hr hcell hok hx
        obtain ⟨kd, nn, A, m, c, ms⟩ := x
        obtain ⟨o1, o2, o3, o4⟩ := hxo
        simp only at o1 o2 o3 o4 m0 m1 m2
        have hgl := HM.ctl.lt
        have hD := HM.doc.alloc (.cells #[.int .i64 kd, .int .i64 nn, .slice A m c] 72)
        have cD := hD.cell
        have lD := HM.doc.lt
        have hBlt : 0 < k.ss.length → ∀ b, B1 = some b → b.block < wo.heap.size := fun h0 b hb => by
          obtain ⟨a, e, h, _⟩ := HM.rb.2 h0
          rw [hb] at e; cases e; exact h
        have hsp0 := HM.sp
        have hls0 := HM.ls
        by_cases k0 : kd = 0
        · subst k0
          have hlg := HM.lg
          have hlp := HM.lp
          have hlm := HM.lm
          have hgp := HM.gp
          have hmp := HM.mp
          have hlp' := lD
          have hArd := (o1.below hb).more hs
          obtain ⟨v2, w1, hap, ho2, hb1⟩ := run_copy (wo.alloc (.cells #[.int .i64 0, .int .i64 nn, .slice A m c] 72)) A m c ms ((hArd.alloc (Nat.le_refl _) _).more (by simp)) (by omega)
          obtain ⟨A2, c2, rfl, hc2⟩ := own_sl ho2
          have ha2 := own_addr ho2
          have hs1 := hb1.size
          have hq2 := Reads.of_own ho2
          simp only [World.size_alloc] at hap ha2 hs1
          have hC1 := (Ctl.alloc HM.ctl (.cells #[.int .i64 0, .int .i64 nn, .slice A m c] 72)).below hb1
          have hO1 := (Blk.new wo 72 #[.int .i64 0, .int .i64 nn, .slice A m c]).below hb1 (by simp)
          have cO := hO1.cell
          have lO := hO1.lt
          have hW1 := Wr.of_own ho2
          have hK1 : Kp (fun i => i = g ∨ i = bs) wo w1 := ((Kp.refl _ wo).alloc _).trans (Kp.of_below hb1)
          by_cases he : changeE k nn ms = 0
          · go_wp2_with (first | (at_builtin; refine wpList_append_run rfl _ _ 54 rfl rfl rfl hap ?_) | (go_at_call 27; (with_reducible refine (change_yes g bm bs k nn A2 m c2 ms _ hC1 hq2 (by omega) HM.ok.sb he HM.ok.e.1 (fun _ a ha => by have := ha2 a ha; omega) (fun _ a ha => by have := ha2 a ha; omega)).mono ?_); rintro e w2 ⟨⟨v, bm2, B5, rfl, ho3, hC2, hbm2, hB5⟩, hO2⟩; obtain ⟨A5, c5, rfl, hc5⟩ := own_sl ho3))
            have hs2 := hO2.size
            have ha5 := own_addr ho3
            have hK2 := hK1.trans (Kp.of_both hO2 (.inl rfl) (.inr rfl))
            have HV : Va w (w2.alloc (.cells #[.int .i64 (k.e + 1), .int .i64 nn, .slice A5 m c5] 56)) g p wo.heap.size w2.heap.size bm2 bs k ⟨k.e + 1, nn, ms, k.ss.filter (hasB ms)⟩ A1 c1 B1 d1 nn A m c (k.e + 1) nn A5 m c5 ms :=
              ⟨hC2.alloc _, (Blk.kp HM.doc hK2 (by omega)).alloc _, (Reads.kp HM.rb hK2 (fun h0 b hb => by have := HM.nb h0 b hb; omega)).alloc (Nat.le_refl _) _ |>.more (by simp), ((Blk.both2 hO1 hO2 (by omega) (by omega)).alloc _), Blk.new _ _ _, ((Reads.of_own ho3).alloc (Nat.le_refl _) _).more (by simp), (Wr.of_own ho3).below (Below.alloc (Below.refl _ _) (Nat.le_refl _) _), ((HM.below.trans (hK2.below hs (fun i hi => by omega))).alloc (by omega) _)⟩
            have hW2 : Wr (w2.alloc (.cells #[.int .i64 (k.e + 1), .int .i64 nn, .slice A5 m c5] 56)) A2 m := (hW1.keep (fun a ha hl => hO2.block _ hl (by have := ha2 a ha; omega) (by have := ha2 a ha; omega))).below (Below.alloc (Below.refl _ _) (Nat.le_refl _) _)
            have hm2 : ∀ a, A2 = some a → bm2 ≠ a.block := fun a ha => by have := ha2 a ha; omega
            have hm5 : ∀ a, A2 = some a → ∀ b, A5 = some b → b.block ≠ a.block := fun a ha b hb => by have := ha2 a ha; have := ha5 b hb; omega
            have hm6 : ∀ b, A5 = some b → b.block ≠ g ∧ b.block ≠ bm2 ∧ b.block ≠ bs ∧ b.block ≠ p ∧ b.block ≠ w2.heap.size ∧ w.heap.size ≤ b.block := fun b hb => by have := ha5 b hb; omega
            have hm7 : w.heap.size ≤ bm2 ∧ bm2 ≠ p := by omega
            have hm8 : ∀ a, A5 = some a → a.block < w2.heap.size := fun a ha => by have := ha5 a ha; omega
            refine abstr (fun W => Va w W g p wo.heap.size w2.heap.size bm2 bs k _ A1 c1 B1 d1 nn A m c _ _ A5 _ _ _ ∧ Wr W A2 m) ⟨HV, hW2⟩ (fun W hW => ?_)
            clear HV hW2 hK2 hO2 hC1 hO1 cO lO hW1 hK1 hap hq2 cD hD
            obtain ⟨HV, hW2⟩ := hW
            have hpv : w1.heap.size ≤ w2.heap.size := hs2
            generalize w2.heap.size = pv at *
            go_loopw [72] (fun vi wr => ∃ i : Nat, i ≤ m ∧ vi = .int .i64 (i : Int) ∧ Scr A2 W wr ∧ Wr wr A2 m) (fun vi _ => ((m : Int) - intOf vi).toNat)
            case atStart => exact ⟨0, by omega, rfl, Scr.refl _ _, hW2⟩
            case round =>
              clear hW2
              obtain ⟨i, hi, rfl, hsc, hwr⟩ := hrel
              by_cases hil : i < m
              · obtain ⟨b2, cs2, rfl, hB2, hcs2⟩ := hwr (by omega)
                have hi2 : i < cs2.size := by omega
                have mm := (hB2.cell i).trans (Array.getElem?_eq_getElem hi2)
                have ff := hB2.frozen
                have ll := hB2.lt
                have hil' : (i : Int) < m := by omega
                generalize cs2[i] = old at *
                go_wp2
                go_roundw
                case rel => exact ⟨i + 1, by omega, by go_num, hsc.set_ (p := ⟨b2, i, none⟩) ⟨_, rfl, rfl⟩ _, fun _ => ⟨b2, _, rfl, hB2.set_ i _, by simp; omega⟩⟩
                case measure => simp [intOf]; omega
              · obtain rfl : m = i := by omega
                have HV3 := HV.kp (Kp.of_scr hsc (S := fun j => ∃ a, A2 = some a ∧ j = a.block) (fun a ha => ⟨a, ha, rfl⟩)) (fun ⟨a, ha, e⟩ => by have := ha2 a ha; omega) (fun ⟨a, ha, e⟩ => hm2 a ha e) (fun ⟨a, ha, e⟩ => by have := ha2 a ha; omega) (fun ⟨a, ha, e⟩ => by have := ha2 a ha; omega) (fun ⟨a, ha, e⟩ => by have := ha2 a ha; omega) (fun ⟨a, ha, e⟩ => by have := ha2 a ha; omega) (fun h0 b hb ⟨a, ha, e⟩ => by have := ha2 a ha; have := hBlt h0 b hb; omega) (fun b hb ⟨a, ha, e⟩ => hm5 a ha b hb e) (fun j ⟨a, ha, e⟩ => by have := ha2 a ha; omega)
                have hRA := (o1.below HV3.below).more HV3.below.size
                have cD3 := HV3.doc.cell
                have lD3 := HV3.doc.lt
                have cO3 := HV3.op.cell
                have lO3 := HV3.op.lt
                clear HV hsc hwr
                go_wp2_with (go_at_call 34; (with_reducible refine (rchange_yes k A1 B1 _ c1 _ d1 nn A m c ms _ hRA (by omega) HV3.rb HM.ok.sb he HM.ok.e.1).mono ?_); rintro e w5 ⟨⟨B7, d7, rfl, ho7⟩, hb5⟩)
                have hs5 := hb5.size
                have ha7 := own_addr ho7
                have hlw := HV3.view.lt
                have hpw := HV3.doc.lt
                have hsw := HV3.ctl.lt
                have HV5 := HV3.kp (S := fun _ => False) (((Kp.of_below hb5).alloc (.cells #[.int .i64 (k.e + 1), .int .i64 nn, .slice A m c, .slice B7 (k.ss.filter (hasB ms)).length d7] 68)).alloc (.cells #[.int .i64 (k.e + 1), .int .i64 nn, .slice A m c] 66)) id id id id id id (fun _ _ _ => id) (fun _ _ => id) (fun _ h => h.elim)
                have hml := reads_len o1
                have HB : Vb w _ g p pv w5.heap.size (w5.heap.size + 1) bm2 bs ⟨k.e + 1, nn, ms, k.ss.filter (hasB ms)⟩ A c B7 d7 (k.e + 1) nn A5 m c5 A c ms (.int .i64 k.e) (.int .i64 k.p) (.slice A1 k.ms.length c1) (.slice B1 k.ss.length d1) :=
                  ⟨changeK_ok HM.ok he (by omega), HV5.ctl, hm7.1, hls0, hlg, hlp, HV5.doc, by simp only [hml]; exact (Blk.new w5 _ _).alloc _, by simp only [hml]; exact o1, (((Reads.of_own ho7).alloc (Nat.le_refl _) _).alloc (by simp) _).more (by simp; omega), fun _ b hb => by have := ha7 b hb; omega, hgp, hm7.2, hsp0, HV5.below, HV5.view, Blk.made w5 _ _ _, HV5.rv, (o1.below HV5.below).more HV5.below.size, HV5.wv, hm6, fun a ha _ b hb => by have := ha7 b hb; have := hm8 a ha; omega, by omega, by omega⟩
                obtain ⟨p16, hp16⟩ : ∃ q, w5.heap.size = q := ⟨_, rfl⟩
                rw [hp16] at HB
                have hm5b : m * 8 ≤ 140737488355328 := by omega
                obtain ⟨k2, A7, c7, B7', d7', e5, p5, m5, c5', A6, c6, ms5, y0, y1, y2, y3, HB, hm5b⟩ : ∃ k2 A7 c7 Bx dx e5 p5 m5 cx A6 c6 ms5 y0 y1 y2 y3, Vb w ((w5.alloc (.cells #[.int .i64 (k.e + 1), .int .i64 nn, .slice A m c, .slice B7 (k.ss.filter (hasB ms)).length d7] 68)).alloc (.cells #[.int .i64 (k.e + 1), .int .i64 nn, .slice A m c] 66)) g p pv p16 (p16 + 1) bm2 bs k2 A7 c7 Bx dx e5 p5 A5 m5 cx A6 c6 ms5 y0 y1 y2 y3 ∧ m5 * 8 ≤ 140737488355328 := ⟨_, _, _, _, _, _, _, _, _, _, _, _, _, _, _, _, HB, hm5b⟩
                clear HV3 HV5 hRA cD3 lD3 cO3 lO3 hb5 ho7 ha7 hml hlw hpw hsw hs5
                rw [hp16]
                clear hp16
                refine abstr (fun W => Vb w W g p pv p16 (p16 + 1) bm2 bs k2 A7 c7 B7' d7' e5 p5 A5 m5 c5' A6 c6 ms5 y0 y1 y2 y3) HB (fun W HB => ?_)
                have cV := HB.view.cell
                have lV := HB.view.lt
                have cS := HB.same.cell
                have lS := HB.same.lt
                have cN := HB.new.cell
                have lN := HB.new.lt
                have cP := HB.doc.cell
                have fP := HB.doc.frozen
                have lP := HB.doc.lt
                refine First.wp_region_first_ext [4, 6] [0, 1, 2, 3, 8, 9] [(true, false, 0), (true, false, 1), (true, false, 2), (true, false, 3), (true, true, 4), (true, true, 6), (false, true, 5), (false, false, 7), (true, false, 8), (true, false, 9)] (by kernel_rfl) (by kernel_rfl) (fun Y => ?_); simp only [List.map_cons, List.map_nil, List.getD_cons_zero, List.getD_cons_succ]
                (repeat (first | (refine First.wpF_pure (fun K hK => ?_); go_simp; first | (refine hK _ _ ?_; clear hK K) | (apply Exists.intro; refine ⟨fun _ => ?_, hK _ _ ?_⟩; fail)) | (refine First.wpF_free (fun K hK => ?_); go_simp; first | (refine hK _ _ ?_; clear hK K))))
                refine First.wpF_must (fun K hK => ?_)
                go_wp2_with (go_at_call 36; (with_reducible refine (vfrom_any _ _ _ _ _ _).mono ?_); rintro e w' ⟨rfl, hb⟩; obtain ⟨Z2, rfl⟩ := World.ext_of_below hb; clear hb)
                (refine hK _ _ (fun hnd => by first | exact Bool.noConfusion hnd | assumption | with_reducible exact grown_alloc _ _ | with_reducible exact First.Grown.refl _ | with_reducible exact First.Grown.cat _ _ _ | with_reducible exact First.Grown.ext _ _) ?_; clear hK K)
                (repeat (first | (refine First.wpF_pure (fun K hK => ?_); go_simp; first | (refine hK _ _ ?_; clear hK K) | (apply Exists.intro; refine ⟨fun _ => ?_, hK _ _ ?_⟩; fail)) | (refine First.wpF_free (fun K hK => ?_); go_simp; first | (refine hK _ _ ?_; clear hK K))))
                refine First.wpF_must (fun K hK => ?_)
                go_wp2_with (go_at_call 35; (with_reducible refine (same_any _ _ _ _ _ _ _ ms5 _ (HB.r5.grown _) (HB.r6.grown _) (by omega)).mono ?_); rintro e w' ⟨rfl, hb⟩; obtain ⟨Z3, rfl⟩ := World.ext_of_below hb; clear hb)
                (refine hK _ _ (fun hnd => by first | exact Bool.noConfusion hnd | assumption | with_reducible exact grown_alloc _ _ | with_reducible exact First.Grown.refl _ | with_reducible exact First.Grown.cat _ _ _ | with_reducible exact First.Grown.ext _ _) ?_; clear hK K)
                (repeat (first | (refine First.wpF_pure (fun K hK => ?_); go_simp; first | (refine hK _ _ ?_; clear hK K) | (apply Exists.intro; refine ⟨fun _ => ?_, hK _ _ ?_⟩; fail)) | (refine First.wpF_free (fun K hK => ?_); go_simp; first | (refine hK _ _ ?_; clear hK K))))
                refine First.wpF_nil ?_
                go_wp2
                have HK6 : Kp (fun i => i = p) W (((((W.ext ((Y.cat Z2).cat Z3)).setCell ⟨p, 0, none⟩ (.int .i64 k2.e)).setCell ⟨p, 1, none⟩ (.int .i64 k2.p)).setCell ⟨p, 2, none⟩ (.slice A7 k2.ms.length c7)).setCell ⟨p, 3, none⟩ (.slice B7' k2.ss.length d7')) :=
                  ((((Kp.of_below (S := fun i => i = p) (World.below_ext W ((Y.cat Z2).cat Z3))).set_ (p := ⟨p, 0, none⟩) (.inl rfl) (.int .i64 k2.e)).set_ (p := ⟨p, 1, none⟩) (.inl rfl) (.int .i64 k2.p)).set_ (p := ⟨p, 2, none⟩) (.inl rfl) (.slice A7 k2.ms.length c7)).set_ (p := ⟨p, 3, none⟩) (.inl rfl) (.slice B7' k2.ss.length d7')
                have hn5 := HB.n5
                have hn7 := HB.n7
                refine abstr (fun X => Mid w X g p bm2 bs k2 A7 c7 B7' d7' ∧ Blk X pv 56 #[.int .i64 e5, .int .i64 p5, .slice A5 m5 c5'] ∧ Wr X A5 m5)
                  ⟨⟨HB.ok, Ctl.kp HB.ctl HK6 HB.gp HB.mp HB.sp, HB.lm, HB.ls, HB.lg, HB.lp, Blk.four (HB.doc.ext _), HB.ra, Reads.kp HB.rb HK6 (fun h0 b hb => (HB.nb h0 b hb).2.2), HB.nb, HB.gp, HB.mp, HB.sp, HB.below.trans (HK6.below HB.below.size (fun i hi => by have := HB.lp; omega))⟩, Blk.kp HB.view HK6 HB.vp, Wr.kp HB.w5 HK6 (fun a ha => (HB.n5 a ha).2.2.2.1)⟩ (fun X hX => ?_)
                clear HK6 HB cV lV cS lS cN lN cP fP lP
                obtain ⟨H7, V7, W7⟩ := hX
                go_loopw [107] (fun vi wr => ∃ i : Nat, i ≤ m5 ∧ vi = .int .i64 (i : Int) ∧ Scr A5 X wr ∧ Wr wr A5 m5 ∧ Blk wr pv 56 #[.int .i64 e5, .int .i64 p5, .slice A5 m5 c5']) (fun vi _ => ((m5 : Int) - intOf vi).toNat)
                case atStart => exact ⟨0, by omega, rfl, Scr.refl _ _, W7, V7⟩
                case round =>
                  clear W7 V7
                  obtain ⟨i, hi, rfl, hsc, hwr, hpvB⟩ := hrel
                  have cv := hpvB.cell
                  have lv := hpvB.lt
                  by_cases hil : i < m5
                  · obtain ⟨b5, cs5, rfl, hB5, hcs5⟩ := hwr (by omega)
                    have h5 := hn5 _ rfl
                    have hi2 : i < cs5.size := by omega
                    have mm := (hB5.cell i).trans (Array.getElem?_eq_getElem hi2)
                    have ff := hB5.frozen
                    have ll := hB5.lt
                    have hil' : (i : Int) < m5 := by omega
                    generalize cs5[i] = old at *
                    go_wp2
                    go_roundw
                    case rel => exact ⟨i + 1, by omega, by go_num, hsc.set_ (p := ⟨b5, i, none⟩) ⟨_, rfl, rfl⟩ _, fun _ => ⟨b5, _, rfl, hB5.set_ i _, by simp; omega⟩, hpvB.far (by exact h5.2.2.2.2.1.symm) _⟩
                    case measure => simp [intOf]; omega
                  · obtain rfl : m5 = i := by omega
                    have HM3 := H7.kp (Kp.of_scr hsc (S := fun j => ∃ a, A5 = some a ∧ j = a.block) (fun a ha => ⟨a, ha, rfl⟩)) (fun ⟨a, ha, e⟩ => (hn5 a ha).1 e.symm) (fun ⟨a, ha, e⟩ => (hn5 a ha).2.1 e.symm) (fun ⟨a, ha, e⟩ => (hn5 a ha).2.2.1 e.symm) (fun ⟨a, ha, e⟩ => (hn5 a ha).2.2.2.1 e.symm) (fun h0 b hb ⟨a, ha, e⟩ => hn7 a ha h0 b hb e) (fun j ⟨a, ha, e⟩ => by have := (hn5 a ha).2.2.2.2.2; omega)
                    obtain ⟨bm3, bs3, k3, A3, c3, B3, d3, HM4⟩ : ∃ bm3 bs3 k3 A3 c3 B3 d3, Mid w _ g p bm3 bs3 k3 A3 c3 B3 d3 := ⟨_, _, _, _, _, _, _, HM3⟩
                    clear HM3 H7 hsc hwr hpvB cv lv
                    go_wp2
                    refine abstr (fun W => Mid w W g p bm3 bs3 k3 A3 c3 B3 d3) HM4 (fun W H => ?_)
                    clear HM4 HM m0 m1 m2 o1 hb
                    have hk := H.ok
                    have cD := H.doc.cell
                    have lD := H.doc.lt
                    have hqa : Reads W W.heap.size 1 A3 k3.ms.length (ints k3.ms) := (H.ra.below H.below).more H.below.size
                    refine First.wp_region_first_ext [4, 11, 20] [0, 3, 6, 7, 8, 10, 13, 14, 15, 16, 19, 22, 23] [(true, false, 0), (true, false, 3), (true, true, 4), (false, true, 1), (false, true, 2), (false, true, 5), (true, false, 6), (true, false, 7), (true, false, 8), (true, false, 10), (true, true, 11), (false, true, 9), (false, true, 12), (true, false, 13), (true, false, 14), (true, false, 15), (true, false, 16), (true, false, 19), (true, true, 20), (false, true, 17), (false, true, 18), (false, false, 21), (true, false, 22), (true, false, 23)] (by kernel_rfl) (by kernel_rfl) (fun Y => ?_); simp only [List.map_cons, List.map_nil, List.getD_cons_zero, List.getD_cons_succ]
                    (repeat (first | (refine First.wpF_pure (fun K hK => ?_); go_simp; first | (refine hK _ _ ?_; clear hK K) | (apply Exists.intro; refine ⟨fun _ => ?_, hK _ _ ?_⟩; fail)) | (refine First.wpF_free (fun K hK => ?_); go_simp; first | (refine hK _ _ ?_; clear hK K))))
                    refine First.wpF_must (fun K hK => ?_)
                    go_wp2_with (go_at_call 30; (with_reducible refine (now_any g bm3 bs3 k3 _ (H.ctl.below (World.below_ext W _)) H.ok.mb).mono ?_); rintro e w' ⟨⟨v, rfl, ho⟩, hb⟩; obtain ⟨V1, f1, rfl, hc⟩ := own_sl ho; have hq := Reads.of_own ho; clear ho; obtain ⟨Z1, rfl⟩ := World.ext_of_below hb; clear hb; rw [World.ext_ext] at hq)
                    (refine hK _ _ (fun hnd => by first | exact Bool.noConfusion hnd | assumption | with_reducible exact grown_alloc _ _ | with_reducible exact First.Grown.refl _ | with_reducible exact First.Grown.cat _ _ _ | with_reducible exact First.Grown.ext _ _) ?_; clear hK K)
                    (repeat (first | (refine First.wpF_pure (fun K hK => ?_); go_simp; first | (refine hK _ _ ?_; clear hK K) | (apply Exists.intro; refine ⟨fun _ => ?_, hK _ _ ?_⟩; fail)) | (refine First.wpF_free (fun K hK => ?_); go_simp; first | (refine hK _ _ ?_; clear hK K))))
                    refine First.wpF_must (fun K hK => ?_)
                    go_wp2_with (go_at_call 36; (with_reducible refine (vfrom_any _ _ _ _ _ _).mono ?_); rintro e w' ⟨rfl, hb⟩; obtain ⟨Z2, rfl⟩ := World.ext_of_below hb; clear hb; have hq2 := hq.grown Z2; rw [World.ext_ext] at hq2)
                    (refine hK _ _ (fun hnd => by first | exact Bool.noConfusion hnd | assumption | with_reducible exact grown_alloc _ _ | with_reducible exact First.Grown.refl _ | with_reducible exact First.Grown.cat _ _ _ | with_reducible exact First.Grown.ext _ _) ?_; clear hK K)
                    (repeat (first | (refine First.wpF_pure (fun K hK => ?_); go_simp; first | (refine hK _ _ ?_; clear hK K) | (apply Exists.intro; refine ⟨fun _ => ?_, hK _ _ ?_⟩; fail)) | (refine First.wpF_free (fun K hK => ?_); go_simp; first | (refine hK _ _ ?_; clear hK K))))
                    refine First.wpF_must (fun K hK => ?_)
                    go_wp2_with (go_at_call 35; (with_reducible refine (same_any _ _ _ _ _ _ _ k3.ms _ hq2 (hqa.grown _) (by have := hk.mb; omega)).mono ?_); rintro e w' ⟨rfl, hb⟩; obtain ⟨Z3, rfl⟩ := World.ext_of_below hb; clear hb)
                    clear hq hq2
                    (refine hK _ _ (fun hnd => by first | exact Bool.noConfusion hnd | assumption | with_reducible exact grown_alloc _ _ | with_reducible exact First.Grown.refl _ | with_reducible exact First.Grown.cat _ _ _ | with_reducible exact First.Grown.ext _ _) ?_; clear hK K)
                    (repeat (first | (refine First.wpF_pure (fun K hK => ?_); go_simp; first | (refine hK _ _ ?_; clear hK K) | (apply Exists.intro; refine ⟨fun _ => ?_, hK _ _ ?_⟩; fail)) | (refine First.wpF_free (fun K hK => ?_); go_simp; first | (refine hK _ _ ?_; clear hK K))))
                    refine First.wpF_must (fun K hK => ?_)
                    go_wp2_with (go_at_call 31; (with_reducible refine (safe_any g bm3 bs3 k3 _ (H.ctl.below (World.below_ext W _)) H.ok.sb).mono ?_); rintro e w' ⟨⟨v, rfl, ho⟩, hb⟩; obtain ⟨V4, f4, rfl, hc⟩ := own_sl ho; have hq := Reads.of_own ho; clear ho; obtain ⟨Z4, rfl⟩ := World.ext_of_below hb; clear hb; rw [World.ext_ext] at hq)
                    (refine hK _ _ (fun hnd => by first | exact Bool.noConfusion hnd | assumption | with_reducible exact grown_alloc _ _ | with_reducible exact First.Grown.refl _ | with_reducible exact First.Grown.cat _ _ _ | with_reducible exact First.Grown.ext _ _) ?_; clear hK K)
                    (repeat (first | (refine First.wpF_pure (fun K hK => ?_); go_simp; first | (refine hK _ _ ?_; clear hK K) | (apply Exists.intro; refine ⟨fun _ => ?_, hK _ _ ?_⟩; fail)) | (refine First.wpF_free (fun K hK => ?_); go_simp; first | (refine hK _ _ ?_; clear hK K))))
                    refine First.wpF_must (fun K hK => ?_)
                    go_wp2_with (go_at_call 38; (with_reducible refine (samel_any _ _ _ _ _ k3.ss _ hq (H.rb.grown _) (by have := hk.sb; omega)).mono ?_); rintro e w' ⟨rfl, hb⟩; obtain ⟨Z5, rfl⟩ := World.ext_of_below hb; clear hb)
                    clear hq
                    (refine hK _ _ (fun hnd => by first | exact Bool.noConfusion hnd | assumption | with_reducible exact grown_alloc _ _ | with_reducible exact First.Grown.refl _ | with_reducible exact First.Grown.cat _ _ _ | with_reducible exact First.Grown.ext _ _) ?_; clear hK K)
                    (repeat (first | (refine First.wpF_pure (fun K hK => ?_); go_simp; first | (refine hK _ _ ?_; clear hK K) | (apply Exists.intro; refine ⟨fun _ => ?_, hK _ _ ?_⟩; fail)) | (refine First.wpF_free (fun K hK => ?_); go_simp; first | (refine hK _ _ ?_; clear hK K))))
                    refine First.wpF_must (fun K hK => ?_)
                    go_wp2_with (go_at_call 30; (with_reducible refine (now_any g bm3 bs3 k3 _ (H.ctl.below (World.below_ext W _)) H.ok.mb).mono ?_); rintro e w' ⟨⟨v, rfl, ho⟩, hb⟩; obtain ⟨V6, f6, rfl, hc⟩ := own_sl ho; have hq := Reads.of_own ho; clear ho; obtain ⟨Z6, rfl⟩ := World.ext_of_below hb; clear hb; rw [World.ext_ext] at hq)
                    (refine hK _ _ (fun hnd => by first | exact Bool.noConfusion hnd | assumption | with_reducible exact grown_alloc _ _ | with_reducible exact First.Grown.refl _ | with_reducible exact First.Grown.cat _ _ _ | with_reducible exact First.Grown.ext _ _) ?_; clear hK K)
                    (repeat (first | (refine First.wpF_pure (fun K hK => ?_); go_simp; first | (refine hK _ _ ?_; clear hK K) | (apply Exists.intro; refine ⟨fun _ => ?_, hK _ _ ?_⟩; fail)) | (refine First.wpF_free (fun K hK => ?_); go_simp; first | (refine hK _ _ ?_; clear hK K))))
                    refine First.wpF_must (fun K hK => ?_)
                    go_wp2_with (go_at_call 39; (with_reducible refine (vright_yes k3 hk _ _ _ _ hq (by have := hk.mb; omega)).mono ?_); rintro e w' ⟨rfl, hb⟩; obtain ⟨Z7, rfl⟩ := World.ext_of_below hb; clear hb)
                    clear hq
                    (refine hK _ _ (fun hnd => by first | exact Bool.noConfusion hnd | assumption | with_reducible exact grown_alloc _ _ | with_reducible exact First.Grown.refl _ | with_reducible exact First.Grown.cat _ _ _ | with_reducible exact First.Grown.ext _ _) ?_; clear hK K)
                    (repeat (first | (refine First.wpF_pure (fun K hK => ?_); go_simp; first | (refine hK _ _ ?_; clear hK K) | (apply Exists.intro; refine ⟨fun _ => ?_, hK _ _ ?_⟩; fail)) | (refine First.wpF_free (fun K hK => ?_); go_simp; first | (refine hK _ _ ?_; clear hK K))))
                    refine First.wpF_must (fun K hK => ?_)
                    go_wp2_with (go_at_call 40; (with_reducible refine (rvright_yes k3 hk _ _ _ _ (hqa.grown _) (by have := hk.mb; omega)).mono ?_); rintro e w' ⟨rfl, hb⟩; obtain ⟨Z8, rfl⟩ := World.ext_of_below hb; clear hb)
                    (refine hK _ _ (fun hnd => by first | exact Bool.noConfusion hnd | assumption | with_reducible exact grown_alloc _ _ | with_reducible exact First.Grown.refl _ | with_reducible exact First.Grown.cat _ _ _ | with_reducible exact First.Grown.ext _ _) ?_; clear hK K)
                    (repeat (first | (refine First.wpF_pure (fun K hK => ?_); go_simp; first | (refine hK _ _ ?_; clear hK K) | (apply Exists.intro; refine ⟨fun _ => ?_, hK _ _ ?_⟩; fail)) | (refine First.wpF_free (fun K hK => ?_); go_simp; first | (refine hK _ _ ?_; clear hK K))))
                    refine First.wpF_nil ?_
                    go_wp2
                    go_roundw
                    case rel => exact ⟨j + 1, bm3, bs3, k3, A3, c3, B3, d3, by omega, by go_num, H.grow _⟩
                    case measure => simp [intOf]; omega
          · obtain ⟨A5, hA5⟩ : ∃ q : Option Addr, q = none := ⟨_, rfl⟩
            have hsb := HM.ok.sb
            have he' : (changeE k nn ms == 0) = false := by simpa using he
            go_wp2_with (first | (at_builtin; refine wpList_append_run rfl _ _ 54 rfl rfl rfl hap ?_) | (go_at_call 27; (with_reducible refine (change_no g bm bs k nn A2 m c2 ms _ hC1 hq2 (by omega) (by omega) he).mono ?_); rintro e w2 ⟨rfl, hO2⟩))
            have hs2 := hO2.size
            have hK2 := hK1.trans (Kp.of_below hO2)
            have HV : Va w (w2.alloc (.cells #[.int .i64 0, .int .i64 0, .slice none 0 0] 56)) g p wo.heap.size w2.heap.size bm bs k k A1 c1 B1 d1 nn A m c 0 0 A5 0 0 [] :=
              ⟨(hC1.below hO2).alloc _, (Blk.kp HM.doc hK2 (by omega)).alloc _, (Reads.kp HM.rb hK2 (fun h0 b hb => by have := HM.nb h0 b hb; omega)).alloc (Nat.le_refl _) _ |>.more (by simp), (hO1.below hO2 hO1.lt).alloc _, by rw [hA5]; exact Blk.new _ _ _, by rw [hA5]; exact Reads.none_, Wr.nil _ _, ((HM.below.trans (hK2.below hs (fun i hi => by omega))).alloc (by omega) _)⟩
            have hW2 : Wr (w2.alloc (.cells #[.int .i64 0, .int .i64 0, .slice none 0 0] 56)) A2 m := (hW1.below hO2).below (Below.alloc (Below.refl _ _) (Nat.le_refl _) _)
            obtain ⟨bm2, rfl⟩ : ∃ q, q = bm := ⟨_, rfl⟩
            have hm2 : ∀ a, A2 = some a → bm2 ≠ a.block := fun a ha => by have := ha2 a ha; omega
            have hm5 : ∀ a, A2 = some a → ∀ b, A5 = some b → b.block ≠ a.block := fun a ha b hb => by rw [hA5] at hb; cases hb
            have hm6 : ∀ b, A5 = some b → b.block ≠ g ∧ b.block ≠ bm2 ∧ b.block ≠ bs ∧ b.block ≠ p ∧ b.block ≠ w2.heap.size ∧ w.heap.size ≤ b.block := fun b hb => by rw [hA5] at hb; cases hb
            have hm7 : w.heap.size ≤ bm2 ∧ bm2 ≠ p := ⟨hlm, hmp⟩
            refine abstr (fun W => Va w W g p wo.heap.size w2.heap.size bm2 bs k _ A1 c1 B1 d1 nn A m c _ _ A5 _ _ _ ∧ Wr W A2 m) ⟨HV, hW2⟩ (fun W hW => ?_)
            clear HV hW2 hK2 hO2 hC1 hO1 cO lO hW1 hK1 hap hq2 cD hD
            obtain ⟨HV, hW2⟩ := hW
            have hpv : w1.heap.size ≤ w2.heap.size := hs2
            generalize w2.heap.size = pv at *
            go_loopw [72] (fun vi wr => ∃ i : Nat, i ≤ m ∧ vi = .int .i64 (i : Int) ∧ Scr A2 W wr ∧ Wr wr A2 m) (fun vi _ => ((m : Int) - intOf vi).toNat)
            case atStart => exact ⟨0, by omega, rfl, Scr.refl _ _, hW2⟩
            case round =>
              clear hW2
              obtain ⟨i, hi, rfl, hsc, hwr⟩ := hrel
              by_cases hil : i < m
              · obtain ⟨b2, cs2, rfl, hB2, hcs2⟩ := hwr (by omega)
                have hi2 : i < cs2.size := by omega
                have mm := (hB2.cell i).trans (Array.getElem?_eq_getElem hi2)
                have ff := hB2.frozen
                have ll := hB2.lt
                have hil' : (i : Int) < m := by omega
                generalize cs2[i] = old at *
                go_wp2
                go_roundw
                case rel => exact ⟨i + 1, by omega, by go_num, hsc.set_ (p := ⟨b2, i, none⟩) ⟨_, rfl, rfl⟩ _, fun _ => ⟨b2, _, rfl, hB2.set_ i _, by simp; omega⟩⟩
                case measure => simp [intOf]; omega
              · obtain rfl : m = i := by omega
                have HV3 := HV.kp (Kp.of_scr hsc (S := fun j => ∃ a, A2 = some a ∧ j = a.block) (fun a ha => ⟨a, ha, rfl⟩)) (fun ⟨a, ha, e⟩ => by have := ha2 a ha; omega) (fun ⟨a, ha, e⟩ => hm2 a ha e) (fun ⟨a, ha, e⟩ => by have := ha2 a ha; omega) (fun ⟨a, ha, e⟩ => by have := ha2 a ha; omega) (fun ⟨a, ha, e⟩ => by have := ha2 a ha; omega) (fun ⟨a, ha, e⟩ => by have := ha2 a ha; omega) (fun h0 b hb ⟨a, ha, e⟩ => by have := ha2 a ha; have := hBlt h0 b hb; omega) (fun b hb ⟨a, ha, e⟩ => hm5 a ha b hb e) (fun j ⟨a, ha, e⟩ => by have := ha2 a ha; omega)
                have hRA := (o1.below HV3.below).more HV3.below.size
                have cD3 := HV3.doc.cell
                have lD3 := HV3.doc.lt
                have cO3 := HV3.op.cell
                have lO3 := HV3.op.lt
                clear HV hsc hwr
                go_wp2_with (go_at_call 34; (with_reducible refine (rchange_no k A1 B1 _ c1 _ d1 nn A m c ms _ hRA (by omega) HV3.rb (by omega) he).mono ?_); rintro e w5 ⟨rfl, hb5⟩)
                have hs5 := hb5.size
                have hlw := HV3.view.lt
                have hpw := HV3.doc.lt
                have hsw := HV3.ctl.lt
                have HV5 := HV3.kp (S := fun _ => False) (((Kp.of_below hb5).alloc (.cells #[.int .i64 k.e, .int .i64 k.p, .slice A1 k.ms.length c1, .slice B1 k.ss.length d1] 68)).alloc (.cells #[.int .i64 0, .int .i64 0, .slice none 0 0] 66)) id id id id id id (fun _ _ _ => id) (fun _ _ => id) (fun _ h => h.elim)
                have HB : Vb w _ g p pv w5.heap.size (w5.heap.size + 1) bm2 bs k A1 c1 B1 d1 0 0 A5 0 0 none 0 [] (.int .i64 k.e) (.int .i64 k.p) (.slice A1 k.ms.length c1) (.slice B1 k.ss.length d1) :=
                  ⟨HM.ok, HV5.ctl, hm7.1, hls0, hlg, hlp, HV5.doc, (Blk.new w5 _ _).alloc _, HM.ra, HV5.rb, HM.nb, hgp, hm7.2, hsp0, HV5.below, HV5.view, Blk.made w5 _ _ _, HV5.rv, Reads.none_, HV5.wv, hm6, fun a ha => by (rw [hA5] at ha; cases ha), by omega, by omega⟩
                obtain ⟨p16, hp16⟩ : ∃ q, w5.heap.size = q := ⟨_, rfl⟩
                rw [hp16] at HB
                have hm5b : 0 * 8 ≤ 140737488355328 := by omega
                obtain ⟨k2, A7, c7, B7', d7', e5, p5, m5, c5', A6, c6, ms5, y0, y1, y2, y3, HB, hm5b⟩ : ∃ k2 A7 c7 Bx dx e5 p5 m5 cx A6 c6 ms5 y0 y1 y2 y3, Vb w ((w5.alloc (.cells #[.int .i64 k.e, .int .i64 k.p, .slice A1 k.ms.length c1, .slice B1 k.ss.length d1] 68)).alloc (.cells #[.int .i64 0, .int .i64 0, .slice none 0 0] 66)) g p pv p16 (p16 + 1) bm2 bs k2 A7 c7 Bx dx e5 p5 A5 m5 cx A6 c6 ms5 y0 y1 y2 y3 ∧ m5 * 8 ≤ 140737488355328 := ⟨_, _, _, _, _, _, _, _, _, _, _, _, _, _, _, _, HB, hm5b⟩
                clear HV3 HV5 hRA cD3 lD3 cO3 lO3 hb5 hlw hpw hsw hs5 hA5
                rw [hp16]
                clear hp16
                refine abstr (fun W => Vb w W g p pv p16 (p16 + 1) bm2 bs k2 A7 c7 B7' d7' e5 p5 A5 m5 c5' A6 c6 ms5 y0 y1 y2 y3) HB (fun W HB => ?_)
                have cV := HB.view.cell
                have lV := HB.view.lt
                have cS := HB.same.cell
                have lS := HB.same.lt
                have cN := HB.new.cell
                have lN := HB.new.lt
                have cP := HB.doc.cell
                have fP := HB.doc.frozen
                have lP := HB.doc.lt
                refine First.wp_region_first_ext [4, 6] [0, 1, 2, 3, 8, 9] [(true, false, 0), (true, false, 1), (true, false, 2), (true, false, 3), (true, true, 4), (true, true, 6), (false, true, 5), (false, false, 7), (true, false, 8), (true, false, 9)] (by kernel_rfl) (by kernel_rfl) (fun Y => ?_); simp only [List.map_cons, List.map_nil, List.getD_cons_zero, List.getD_cons_succ]
                (repeat (first | (refine First.wpF_pure (fun K hK => ?_); go_simp; first | (refine hK _ _ ?_; clear hK K) | (apply Exists.intro; refine ⟨fun _ => ?_, hK _ _ ?_⟩; fail)) | (refine First.wpF_free (fun K hK => ?_); go_simp; first | (refine hK _ _ ?_; clear hK K))))
                refine First.wpF_must (fun K hK => ?_)
                go_wp2_with (go_at_call 36; (with_reducible refine (vfrom_any _ _ _ _ _ _).mono ?_); rintro e w' ⟨rfl, hb⟩; obtain ⟨Z2, rfl⟩ := World.ext_of_below hb; clear hb)
                (refine hK _ _ (fun hnd => by first | exact Bool.noConfusion hnd | assumption | with_reducible exact grown_alloc _ _ | with_reducible exact First.Grown.refl _ | with_reducible exact First.Grown.cat _ _ _ | with_reducible exact First.Grown.ext _ _) ?_; clear hK K)
                (repeat (first | (refine First.wpF_pure (fun K hK => ?_); go_simp; first | (refine hK _ _ ?_; clear hK K) | (apply Exists.intro; refine ⟨fun _ => ?_, hK _ _ ?_⟩; fail)) | (refine First.wpF_free (fun K hK => ?_); go_simp; first | (refine hK _ _ ?_; clear hK K))))
                refine First.wpF_must (fun K hK => ?_)
                go_wp2_with (go_at_call 35; (with_reducible refine (same_any _ _ _ _ _ _ _ ms5 _ (HB.r5.grown _) (HB.r6.grown _) (by omega)).mono ?_); rintro e w' ⟨rfl, hb⟩; obtain ⟨Z3, rfl⟩ := World.ext_of_below hb; clear hb)
                (refine hK _ _ (fun hnd => by first | exact Bool.noConfusion hnd | assumption | with_reducible exact grown_alloc _ _ | with_reducible exact First.Grown.refl _ | with_reducible exact First.Grown.cat _ _ _ | with_reducible exact First.Grown.ext _ _) ?_; clear hK K)
                (repeat (first | (refine First.wpF_pure (fun K hK => ?_); go_simp; first | (refine hK _ _ ?_; clear hK K) | (apply Exists.intro; refine ⟨fun _ => ?_, hK _ _ ?_⟩; fail)) | (refine First.wpF_free (fun K hK => ?_); go_simp; first | (refine hK _ _ ?_; clear hK K))))
                refine First.wpF_nil ?_
                go_wp2
                have HK6 : Kp (fun i => i = p) W (((((W.ext ((Y.cat Z2).cat Z3)).setCell ⟨p, 0, none⟩ (.int .i64 k2.e)).setCell ⟨p, 1, none⟩ (.int .i64 k2.p)).setCell ⟨p, 2, none⟩ (.slice A7 k2.ms.length c7)).setCell ⟨p, 3, none⟩ (.slice B7' k2.ss.length d7')) :=
                  ((((Kp.of_below (S := fun i => i = p) (World.below_ext W ((Y.cat Z2).cat Z3))).set_ (p := ⟨p, 0, none⟩) (.inl rfl) (.int .i64 k2.e)).set_ (p := ⟨p, 1, none⟩) (.inl rfl) (.int .i64 k2.p)).set_ (p := ⟨p, 2, none⟩) (.inl rfl) (.slice A7 k2.ms.length c7)).set_ (p := ⟨p, 3, none⟩) (.inl rfl) (.slice B7' k2.ss.length d7')
                have hn5 := HB.n5
                have hn7 := HB.n7
                refine abstr (fun X => Mid w X g p bm2 bs k2 A7 c7 B7' d7' ∧ Blk X pv 56 #[.int .i64 e5, .int .i64 p5, .slice A5 m5 c5'] ∧ Wr X A5 m5)
                  ⟨⟨HB.ok, Ctl.kp HB.ctl HK6 HB.gp HB.mp HB.sp, HB.lm, HB.ls, HB.lg, HB.lp, Blk.four (HB.doc.ext _), HB.ra, Reads.kp HB.rb HK6 (fun h0 b hb => (HB.nb h0 b hb).2.2), HB.nb, HB.gp, HB.mp, HB.sp, HB.below.trans (HK6.below HB.below.size (fun i hi => by have := HB.lp; omega))⟩, Blk.kp HB.view HK6 HB.vp, Wr.kp HB.w5 HK6 (fun a ha => (HB.n5 a ha).2.2.2.1)⟩ (fun X hX => ?_)
                clear HK6 HB cV lV cS lS cN lN cP fP lP
                obtain ⟨H7, V7, W7⟩ := hX
                go_loopw [107] (fun vi wr => ∃ i : Nat, i ≤ m5 ∧ vi = .int .i64 (i : Int) ∧ Scr A5 X wr ∧ Wr wr A5 m5 ∧ Blk wr pv 56 #[.int .i64 e5, .int .i64 p5, .slice A5 m5 c5']) (fun vi _ => ((m5 : Int) - intOf vi).toNat)
                case atStart => exact ⟨0, by omega, rfl, Scr.refl _ _, W7, V7⟩
                case round =>
                  clear W7 V7
                  obtain ⟨i, hi, rfl, hsc, hwr, hpvB⟩ := hrel
                  have cv := hpvB.cell
                  have lv := hpvB.lt
                  by_cases hil : i < m5
                  · obtain ⟨b5, cs5, rfl, hB5, hcs5⟩ := hwr (by omega)
                    have h5 := hn5 _ rfl
                    have hi2 : i < cs5.size := by omega
                    have mm := (hB5.cell i).trans (Array.getElem?_eq_getElem hi2)
                    have ff := hB5.frozen
                    have ll := hB5.lt
                    have hil' : (i : Int) < m5 := by omega
                    generalize cs5[i] = old at *
                    go_wp2
                    go_roundw
                    case rel => exact ⟨i + 1, by omega, by go_num, hsc.set_ (p := ⟨b5, i, none⟩) ⟨_, rfl, rfl⟩ _, fun _ => ⟨b5, _, rfl, hB5.set_ i _, by simp; omega⟩, hpvB.far (by exact h5.2.2.2.2.1.symm) _⟩
                    case measure => simp [intOf]; omega
                  · obtain rfl : m5 = i := by omega
                    have HM3 := H7.kp (Kp.of_scr hsc (S := fun j => ∃ a, A5 = some a ∧ j = a.block) (fun a ha => ⟨a, ha, rfl⟩)) (fun ⟨a, ha, e⟩ => (hn5 a ha).1 e.symm) (fun ⟨a, ha, e⟩ => (hn5 a ha).2.1 e.symm) (fun ⟨a, ha, e⟩ => (hn5 a ha).2.2.1 e.symm) (fun ⟨a, ha, e⟩ => (hn5 a ha).2.2.2.1 e.symm) (fun h0 b hb ⟨a, ha, e⟩ => hn7 a ha h0 b hb e) (fun j ⟨a, ha, e⟩ => by have := (hn5 a ha).2.2.2.2.2; omega)
                    obtain ⟨bm3, bs3, k3, A3, c3, B3, d3, HM4⟩ : ∃ bm3 bs3 k3 A3 c3 B3 d3, Mid w _ g p bm3 bs3 k3 A3 c3 B3 d3 := ⟨_, _, _, _, _, _, _, HM3⟩
                    clear HM3 H7 hsc hwr hpvB cv lv
                    go_wp2
                    refine abstr (fun W => Mid w W g p bm3 bs3 k3 A3 c3 B3 d3) HM4 (fun W H => ?_)
                    clear HM4 HM m0 m1 m2 o1 hb
                    have hk := H.ok
                    have cD := H.doc.cell
                    have lD := H.doc.lt
                    have hqa : Reads W W.heap.size 1 A3 k3.ms.length (ints k3.ms) := (H.ra.below H.below).more H.below.size
                    refine First.wp_region_first_ext [4, 11, 20] [0, 3, 6, 7, 8, 10, 13, 14, 15, 16, 19, 22, 23] [(true, false, 0), (true, false, 3), (true, true, 4), (false, true, 1), (false, true, 2), (false, true, 5), (true, false, 6), (true, false, 7), (true, false, 8), (true, false, 10), (true, true, 11), (false, true, 9), (false, true, 12), (true, false, 13), (true, false, 14), (true, false, 15), (true, false, 16), (true, false, 19), (true, true, 20), (false, true, 17), (false, true, 18), (false, false, 21), (true, false, 22), (true, false, 23)] (by kernel_rfl) (by kernel_rfl) (fun Y => ?_); simp only [List.map_cons, List.map_nil, List.getD_cons_zero, List.getD_cons_succ]
                    (repeat (first | (refine First.wpF_pure (fun K hK => ?_); go_simp; first | (refine hK _ _ ?_; clear hK K) | (apply Exists.intro; refine ⟨fun _ => ?_, hK _ _ ?_⟩; fail)) | (refine First.wpF_free (fun K hK => ?_); go_simp; first | (refine hK _ _ ?_; clear hK K))))
                    refine First.wpF_must (fun K hK => ?_)
                    go_wp2_with (go_at_call 30; (with_reducible refine (now_any g bm3 bs3 k3 _ (H.ctl.below (World.below_ext W _)) H.ok.mb).mono ?_); rintro e w' ⟨⟨v, rfl, ho⟩, hb⟩; obtain ⟨V1, f1, rfl, hc⟩ := own_sl ho; have hq := Reads.of_own ho; clear ho; obtain ⟨Z1, rfl⟩ := World.ext_of_below hb; clear hb; rw [World.ext_ext] at hq)
                    (refine hK _ _ (fun hnd => by first | exact Bool.noConfusion hnd | assumption | with_reducible exact grown_alloc _ _ | with_reducible exact First.Grown.refl _ | with_reducible exact First.Grown.cat _ _ _ | with_reducible exact First.Grown.ext _ _) ?_; clear hK K)
                    (repeat (first | (refine First.wpF_pure (fun K hK => ?_); go_simp; first | (refine hK _ _ ?_; clear hK K) | (apply Exists.intro; refine ⟨fun _ => ?_, hK _ _ ?_⟩; fail)) | (refine First.wpF_free (fun K hK => ?_); go_simp; first | (refine hK _ _ ?_; clear hK K))))
                    refine First.wpF_must (fun K hK => ?_)
                    go_wp2_with (go_at_call 36; (with_reducible refine (vfrom_any _ _ _ _ _ _).mono ?_); rintro e w' ⟨rfl, hb⟩; obtain ⟨Z2, rfl⟩ := World.ext_of_below hb; clear hb; have hq2 := hq.grown Z2; rw [World.ext_ext] at hq2)
                    (refine hK _ _ (fun hnd => by first | exact Bool.noConfusion hnd | assumption | with_reducible exact grown_alloc _ _ | with_reducible exact First.Grown.refl _ | with_reducible exact First.Grown.cat _ _ _ | with_reducible exact First.Grown.ext _ _) ?_; clear hK K)
                    (repeat (first | (refine First.wpF_pure (fun K hK => ?_); go_simp; first | (refine hK _ _ ?_; clear hK K) | (apply Exists.intro; refine ⟨fun _ => ?_, hK _ _ ?_⟩; fail)) | (refine First.wpF_free (fun K hK => ?_); go_simp; first | (refine hK _ _ ?_; clear hK K))))
                    refine First.wpF_must (fun K hK => ?_)
                    go_wp2_with (go_at_call 35; (with_reducible refine (same_any _ _ _ _ _ _ _ k3.ms _ hq2 (hqa.grown _) (by have := hk.mb; omega)).mono ?_); rintro e w' ⟨rfl, hb⟩; obtain ⟨Z3, rfl⟩ := World.ext_of_below hb; clear hb)
                    clear hq hq2
                    (refine hK _ _ (fun hnd => by first | exact Bool.noConfusion hnd | assumption | with_reducible exact grown_alloc _ _ | with_reducible exact First.Grown.refl _ | with_reducible exact First.Grown.cat _ _ _ | with_reducible exact First.Grown.ext _ _) ?_; clear hK K)
                    (repeat (first | (refine First.wpF_pure (fun K hK => ?_); go_simp; first | (refine hK _ _ ?_; clear hK K) | (apply Exists.intro; refine ⟨fun _ => ?_, hK _ _ ?_⟩; fail)) | (refine First.wpF_free (fun K hK => ?_); go_simp; first | (refine hK _ _ ?_; clear hK K))))
                    refine First.wpF_must (fun K hK => ?_)
                    go_wp2_with (go_at_call 31; (with_reducible refine (safe_any g bm3 bs3 k3 _ (H.ctl.below (World.below_ext W _)) H.ok.sb).mono ?_); rintro e w' ⟨⟨v, rfl, ho⟩, hb⟩; obtain ⟨V4, f4, rfl, hc⟩ := own_sl ho; have hq := Reads.of_own ho; clear ho; obtain ⟨Z4, rfl⟩ := World.ext_of_below hb; clear hb; rw [World.ext_ext] at hq)
                    (refine hK _ _ (fun hnd => by first | exact Bool.noConfusion hnd | assumption | with_reducible exact grown_alloc _ _ | with_reducible exact First.Grown.refl _ | with_reducible exact First.Grown.cat _ _ _ | with_reducible exact First.Grown.ext _ _) ?_; clear hK K)
                    (repeat (first | (refine First.wpF_pure (fun K hK => ?_); go_simp; first | (refine hK _ _ ?_; clear hK K) | (apply Exists.intro; refine ⟨fun _ => ?_, hK _ _ ?_⟩; fail)) | (refine First.wpF_free (fun K hK => ?_); go_simp; first | (refine hK _ _ ?_; clear hK K))))
                    refine First.wpF_must (fun K hK => ?_)
                    go_wp2_with (go_at_call 38; (with_reducible refine (samel_any _ _ _ _ _ k3.ss _ hq (H.rb.grown _) (by have := hk.sb; omega)).mono ?_); rintro e w' ⟨rfl, hb⟩; obtain ⟨Z5, rfl⟩ := World.ext_of_below hb; clear hb)
                    clear hq
                    (refine hK _ _ (fun hnd => by first | exact Bool.noConfusion hnd | assumption | with_reducible exact grown_alloc _ _ | with_reducible exact First.Grown.refl _ | with_reducible exact First.Grown.cat _ _ _ | with_reducible exact First.Grown.ext _ _) ?_; clear hK K)
                    (repeat (first | (refine First.wpF_pure (fun K hK => ?_); go_simp; first | (refine hK _ _ ?_; clear hK K) | (apply Exists.intro; refine ⟨fun _ => ?_, hK _ _ ?_⟩; fail)) | (refine First.wpF_free (fun K hK => ?_); go_simp; first | (refine hK _ _ ?_; clear hK K))))
                    refine First.wpF_must (fun K hK => ?_)
                    go_wp2_with (go_at_call 30; (with_reducible refine (now_any g bm3 bs3 k3 _ (H.ctl.below (World.below_ext W _)) H.ok.mb).mono ?_); rintro e w' ⟨⟨v, rfl, ho⟩, hb⟩; obtain ⟨V6, f6, rfl, hc⟩ := own_sl ho; have hq := Reads.of_own ho; clear ho; obtain ⟨Z6, rfl⟩ := World.ext_of_below hb; clear hb; rw [World.ext_ext] at hq)
                    (refine hK _ _ (fun hnd => by first | exact Bool.noConfusion hnd | assumption | with_reducible exact grown_alloc _ _ | with_reducible exact First.Grown.refl _ | with_reducible exact First.Grown.cat _ _ _ | with_reducible exact First.Grown.ext _ _) ?_; clear hK K)
                    (repeat (first | (refine First.wpF_pure (fun K hK => ?_); go_simp; first | (refine hK _ _ ?_; clear hK K) | (apply Exists.intro; refine ⟨fun _ => ?_, hK _ _ ?_⟩; fail)) | (refine First.wpF_free (fun K hK => ?_); go_simp; first | (refine hK _ _ ?_; clear hK K))))
                    refine First.wpF_must (fun K hK => ?_)
                    go_wp2_with (go_at_call 39; (with_reducible refine (vright_yes k3 hk _ _ _ _ hq (by have := hk.mb; omega)).mono ?_); rintro e w' ⟨rfl, hb⟩; obtain ⟨Z7, rfl⟩ := World.ext_of_below hb; clear hb)
                    clear hq
                    (refine hK _ _ (fun hnd => by first | exact Bool.noConfusion hnd | assumption | with_reducible exact grown_alloc _ _ | with_reducible exact First.Grown.refl _ | with_reducible exact First.Grown.cat _ _ _ | with_reducible exact First.Grown.ext _ _) ?_; clear hK K)
                    (repeat (first | (refine First.wpF_pure (fun K hK => ?_); go_simp; first | (refine hK _ _ ?_; clear hK K) | (apply Exists.intro; refine ⟨fun _ => ?_, hK _ _ ?_⟩; fail)) | (refine First.wpF_free (fun K hK => ?_); go_simp; first | (refine hK _ _ ?_; clear hK K))))
                    refine First.wpF_must (fun K hK => ?_)
                    go_wp2_with (go_at_call 40; (with_reducible refine (rvright_yes k3 hk _ _ _ _ (hqa.grown _) (by have := hk.mb; omega)).mono ?_); rintro e w' ⟨rfl, hb⟩; obtain ⟨Z8, rfl⟩ := World.ext_of_below hb; clear hb)
                    (refine hK _ _ (fun hnd => by first | exact Bool.noConfusion hnd | assumption | with_reducible exact grown_alloc _ _ | with_reducible exact First.Grown.refl _ | with_reducible exact First.Grown.cat _ _ _ | with_reducible exact First.Grown.ext _ _) ?_; clear hK K)
                    (repeat (first | (refine First.wpF_pure (fun K hK => ?_); go_simp; first | (refine hK _ _ ?_; clear hK K) | (apply Exists.intro; refine ⟨fun _ => ?_, hK _ _ ?_⟩; fail)) | (refine First.wpF_free (fun K hK => ?_); go_simp; first | (refine hK _ _ ?_; clear hK K))))
                    refine First.wpF_nil ?_
                    go_wp2
                    go_roundw
                    case rel => exact ⟨j + 1, bm3, bs3, k3, A3, c3, B3, d3, by omega, by go_num, H.grow _⟩
                    case measure => simp [intOf]; omega
        · have k0' : (kd == 0) = false := by simpa using k0
          by_cases hs' : nn < 1 ∨ k.e < nn ∨ nn ≠ k.e
          · have hK : activeK k nn = k := by
              unfold activeK
              split
              · rfl
              · rw [if_neg (by omega)]
            have hAct : ∀ w', Ctl w' g bm bs k → _ := fun w' h' => active_any g bm bs k nn w' h' HM.ok.mb HM.ok.pos
            rw [hK] at hAct
            go_wp2_with (first | (go_at_call 37; (with_reducible refine (ractive_same k A1 B1 _ c1 _ d1 nn _ hs').mono ?_); rintro e w1 ⟨rfl, hb1⟩; (have hs1 := hb1.size; (simp only [World.size_alloc] at hs1); have hO1 := (Blk.new wo 72 #[.int .i64 kd, .int .i64 nn, .slice A m c]).below hb1 (by simp); have cO := hO1.cell; have lO := hO1.lt)) | (go_at_call 29; (with_reducible refine (hAct _ ((((HM.ctl.alloc _).below hb1).alloc _))).mono ?_); rintro e w2 ⟨rfl, ⟨bs2, hC2, hbs2⟩, hO2⟩; have hT2 := Blk.both2 (Blk.new w1 68 #[.int .i64 k.e, .int .i64 k.p, .slice A1 k.ms.length c1, .slice B1 k.ss.length d1]) hO2 (by omega) (by omega); have cT := hT2.cell; have lT := hT2.lt; have hD2 := Blk.both2 ((hD.below hb1 hD.lt).alloc (.cells #[.int .i64 k.e, .int .i64 k.p, .slice A1 k.ms.length c1, .slice B1 k.ss.length d1] 68)) hO2 HM.gp.symm HM.sp.symm; have cD2 := hD2.cell; have fD2 := hD2.frozen; have lD2 := hD2.lt; (simp only [World.size_alloc] at hbs2); have hsp2 : bs2 ≠ p := (by omega); have hls2 : w.heap.size ≤ bs2 := (by omega)))
            have HK : Kp (fun i => i = g ∨ i = bs ∨ i = p) wo ((((w2.setCell ⟨p, 0, none⟩ (.int .i64 k.e)).setCell ⟨p, 1, none⟩ (.int .i64 k.p)).setCell ⟨p, 2, none⟩ (.slice A1 k.ms.length c1)).setCell ⟨p, 3, none⟩ (.slice B1 k.ss.length d1)) :=
              ((((((((Kp.refl _ wo).alloc _).trans (Kp.of_below hb1)).alloc _).trans (Kp.of_both hO2 (.inl rfl) (.inr (.inl rfl)))).set_ (.inl (.inr (.inr rfl))) _).set_ (.inl (.inr (.inr rfl))) _).set_ (.inl (.inr (.inr rfl))) _).set_ (.inl (.inr (.inr rfl))) _
            have HM3 : Mid w _ g p bm bs2 k A1 c1 B1 d1 := ⟨HM.ok, Ctl.set_ (Ctl.set_ (Ctl.set_ (Ctl.set_ hC2 HM.gp HM.mp hsp2 _) HM.gp HM.mp hsp2 _) HM.gp HM.mp hsp2 _) HM.gp HM.mp hsp2 _, HM.lm, hls2, HM.lg, HM.lp, Blk.four hD2, HM.ra, Reads.kp HM.rb HK (fun h0 b hb => by have := HM.nb h0 b hb; omega), fun h0 b hb => ⟨(HM.nb h0 b hb).1, by have := (HM.nb h0 b hb).2.1; have := hBlt h0 b hb; omega, (HM.nb h0 b hb).2.2⟩, HM.gp, HM.mp, hsp2, HM.below.trans (HK.below hs (fun i hi => by have := HM.lg; have := HM.lp; omega))⟩
            obtain ⟨bm3, bs3, k3, A3, c3, B3, d3, HM4⟩ : ∃ bm3 bs3 k3 A3 c3 B3 d3, Mid w ((((w2.setCell ⟨p, 0, none⟩ (.int .i64 k.e)).setCell ⟨p, 1, none⟩ (.int .i64 k.p)).setCell ⟨p, 2, none⟩ (.slice A1 k.ms.length c1)).setCell ⟨p, 3, none⟩ (.slice B1 k.ss.length d1)) g p bm3 bs3 k3 A3 c3 B3 d3 := ⟨_, _, _, _, _, _, _, HM3⟩
            clear HK HM3 hT2 cT lT hD2 cD2 fD2 lD2 hC2 hO2 hO1 cO lO hb1
            refine abstr (fun W => Mid w W g p bm3 bs3 k3 A3 c3 B3 d3) HM4 (fun W H => ?_)
            clear HM4 HM m0 m1 m2 o1 hb
            have hk := H.ok
            have cD := H.doc.cell
            have lD := H.doc.lt
            have hqa : Reads W W.heap.size 1 A3 k3.ms.length (ints k3.ms) := (H.ra.below H.below).more H.below.size
            refine First.wp_region_first_ext [4, 11, 20] [0, 3, 6, 7, 8, 10, 13, 14, 15, 16, 19, 22, 23] [(true, false, 0), (true, false, 3), (true, true, 4), (false, true, 1), (false, true, 2), (false, true, 5), (true, false, 6), (true, false, 7), (true, false, 8), (true, false, 10), (true, true, 11), (false, true, 9), (false, true, 12), (true, false, 13), (true, false, 14), (true, false, 15), (true, false, 16), (true, false, 19), (true, true, 20), (false, true, 17), (false, true, 18), (false, false, 21), (true, false, 22), (true, false, 23)] (by kernel_rfl) (by kernel_rfl) (fun Y => ?_); simp only [List.map_cons, List.map_nil, List.getD_cons_zero, List.getD_cons_succ]
            (repeat (first | (refine First.wpF_pure (fun K hK => ?_); go_simp; first | (refine hK _ _ ?_; clear hK K) | (apply Exists.intro; refine ⟨fun _ => ?_, hK _ _ ?_⟩; fail)) | (refine First.wpF_free (fun K hK => ?_); go_simp; first | (refine hK _ _ ?_; clear hK K))))
            refine First.wpF_must (fun K hK => ?_)
            go_wp2_with (go_at_call 30; (with_reducible refine (now_any g bm3 bs3 k3 _ (H.ctl.below (World.below_ext W _)) H.ok.mb).mono ?_); rintro e w' ⟨⟨v, rfl, ho⟩, hb⟩; obtain ⟨V1, f1, rfl, hc⟩ := own_sl ho; have hq := Reads.of_own ho; clear ho; obtain ⟨Z1, rfl⟩ := World.ext_of_below hb; clear hb; rw [World.ext_ext] at hq)
            (refine hK _ _ (fun hnd => by first | exact Bool.noConfusion hnd | assumption | with_reducible exact grown_alloc _ _ | with_reducible exact First.Grown.refl _ | with_reducible exact First.Grown.cat _ _ _ | with_reducible exact First.Grown.ext _ _) ?_; clear hK K)
            (repeat (first | (refine First.wpF_pure (fun K hK => ?_); go_simp; first | (refine hK _ _ ?_; clear hK K) | (apply Exists.intro; refine ⟨fun _ => ?_, hK _ _ ?_⟩; fail)) | (refine First.wpF_free (fun K hK => ?_); go_simp; first | (refine hK _ _ ?_; clear hK K))))
            refine First.wpF_must (fun K hK => ?_)
            go_wp2_with (go_at_call 36; (with_reducible refine (vfrom_any _ _ _ _ _ _).mono ?_); rintro e w' ⟨rfl, hb⟩; obtain ⟨Z2, rfl⟩ := World.ext_of_below hb; clear hb; have hq2 := hq.grown Z2; rw [World.ext_ext] at hq2)
            (refine hK _ _ (fun hnd => by first | exact Bool.noConfusion hnd | assumption | with_reducible exact grown_alloc _ _ | with_reducible exact First.Grown.refl _ | with_reducible exact First.Grown.cat _ _ _ | with_reducible exact First.Grown.ext _ _) ?_; clear hK K)
            (repeat (first | (refine First.wpF_pure (fun K hK => ?_); go_simp; first | (refine hK _ _ ?_; clear hK K) | (apply Exists.intro; refine ⟨fun _ => ?_, hK _ _ ?_⟩; fail)) | (refine First.wpF_free (fun K hK => ?_); go_simp; first | (refine hK _ _ ?_; clear hK K))))
            refine First.wpF_must (fun K hK => ?_)
            go_wp2_with (go_at_call 35; (with_reducible refine (same_any _ _ _ _ _ _ _ k3.ms _ hq2 (hqa.grown _) (by have := hk.mb; omega)).mono ?_); rintro e w' ⟨rfl, hb⟩; obtain ⟨Z3, rfl⟩ := World.ext_of_below hb; clear hb)
            clear hq hq2
            (refine hK _ _ (fun hnd => by first | exact Bool.noConfusion hnd | assumption | with_reducible exact grown_alloc _ _ | with_reducible exact First.Grown.refl _ | with_reducible exact First.Grown.cat _ _ _ | with_reducible exact First.Grown.ext _ _) ?_; clear hK K)
            (repeat (first | (refine First.wpF_pure (fun K hK => ?_); go_simp; first | (refine hK _ _ ?_; clear hK K) | (apply Exists.intro; refine ⟨fun _ => ?_, hK _ _ ?_⟩; fail)) | (refine First.wpF_free (fun K hK => ?_); go_simp; first | (refine hK _ _ ?_; clear hK K))))
            refine First.wpF_must (fun K hK => ?_)
            go_wp2_with (go_at_call 31; (with_reducible refine (safe_any g bm3 bs3 k3 _ (H.ctl.below (World.below_ext W _)) H.ok.sb).mono ?_); rintro e w' ⟨⟨v, rfl, ho⟩, hb⟩; obtain ⟨V4, f4, rfl, hc⟩ := own_sl ho; have hq := Reads.of_own ho; clear ho; obtain ⟨Z4, rfl⟩ := World.ext_of_below hb; clear hb; rw [World.ext_ext] at hq)
            (refine hK _ _ (fun hnd => by first | exact Bool.noConfusion hnd | assumption | with_reducible exact grown_alloc _ _ | with_reducible exact First.Grown.refl _ | with_reducible exact First.Grown.cat _ _ _ | with_reducible exact First.Grown.ext _ _) ?_; clear hK K)
            (repeat (first | (refine First.wpF_pure (fun K hK => ?_); go_simp; first | (refine hK _ _ ?_; clear hK K) | (apply Exists.intro; refine ⟨fun _ => ?_, hK _ _ ?_⟩; fail)) | (refine First.wpF_free (fun K hK => ?_); go_simp; first | (refine hK _ _ ?_; clear hK K))))
            refine First.wpF_must (fun K hK => ?_)
            go_wp2_with (go_at_call 38; (with_reducible refine (samel_any _ _ _ _ _ k3.ss _ hq (H.rb.grown _) (by have := hk.sb; omega)).mono ?_); rintro e w' ⟨rfl, hb⟩; obtain ⟨Z5, rfl⟩ := World.ext_of_below hb; clear hb)
            clear hq
            (refine hK _ _ (fun hnd => by first | exact Bool.noConfusion hnd | assumption | with_reducible exact grown_alloc _ _ | with_reducible exact First.Grown.refl _ | with_reducible exact First.Grown.cat _ _ _ | with_reducible exact First.Grown.ext _ _) ?_; clear hK K)
            (repeat (first | (refine First.wpF_pure (fun K hK => ?_); go_simp; first | (refine hK _ _ ?_; clear hK K) | (apply Exists.intro; refine ⟨fun _ => ?_, hK _ _ ?_⟩; fail)) | (refine First.wpF_free (fun K hK => ?_); go_simp; first | (refine hK _ _ ?_; clear hK K))))
            refine First.wpF_must (fun K hK => ?_)
            go_wp2_with (go_at_call 30; (with_reducible refine (now_any g bm3 bs3 k3 _ (H.ctl.below (World.below_ext W _)) H.ok.mb).mono ?_); rintro e w' ⟨⟨v, rfl, ho⟩, hb⟩; obtain ⟨V6, f6, rfl, hc⟩ := own_sl ho; have hq := Reads.of_own ho; clear ho; obtain ⟨Z6, rfl⟩ := World.ext_of_below hb; clear hb; rw [World.ext_ext] at hq)
            (refine hK _ _ (fun hnd => by first | exact Bool.noConfusion hnd | assumption | with_reducible exact grown_alloc _ _ | with_reducible exact First.Grown.refl _ | with_reducible exact First.Grown.cat _ _ _ | with_reducible exact First.Grown.ext _ _) ?_; clear hK K)
            (repeat (first | (refine First.wpF_pure (fun K hK => ?_); go_simp; first | (refine hK _ _ ?_; clear hK K) | (apply Exists.intro; refine ⟨fun _ => ?_, hK _ _ ?_⟩; fail)) | (refine First.wpF_free (fun K hK => ?_); go_simp; first | (refine hK _ _ ?_; clear hK K))))
            refine First.wpF_must (fun K hK => ?_)
            go_wp2_with (go_at_call 39; (with_reducible refine (vright_yes k3 hk _ _ _ _ hq (by have := hk.mb; omega)).mono ?_); rintro e w' ⟨rfl, hb⟩; obtain ⟨Z7, rfl⟩ := World.ext_of_below hb; clear hb)
            clear hq
            (refine hK _ _ (fun hnd => by first | exact Bool.noConfusion hnd | assumption | with_reducible exact grown_alloc _ _ | with_reducible exact First.Grown.refl _ | with_reducible exact First.Grown.cat _ _ _ | with_reducible exact First.Grown.ext _ _) ?_; clear hK K)
            (repeat (first | (refine First.wpF_pure (fun K hK => ?_); go_simp; first | (refine hK _ _ ?_; clear hK K) | (apply Exists.intro; refine ⟨fun _ => ?_, hK _ _ ?_⟩; fail)) | (refine First.wpF_free (fun K hK => ?_); go_simp; first | (refine hK _ _ ?_; clear hK K))))
            refine First.wpF_must (fun K hK => ?_)
            go_wp2_with (go_at_call 40; (with_reducible refine (rvright_yes k3 hk _ _ _ _ (hqa.grown _) (by have := hk.mb; omega)).mono ?_); rintro e w' ⟨rfl, hb⟩; obtain ⟨Z8, rfl⟩ := World.ext_of_below hb; clear hb)
            (refine hK _ _ (fun hnd => by first | exact Bool.noConfusion hnd | assumption | with_reducible exact grown_alloc _ _ | with_reducible exact First.Grown.refl _ | with_reducible exact First.Grown.cat _ _ _ | with_reducible exact First.Grown.ext _ _) ?_; clear hK K)
            (repeat (first | (refine First.wpF_pure (fun K hK => ?_); go_simp; first | (refine hK _ _ ?_; clear hK K) | (apply Exists.intro; refine ⟨fun _ => ?_, hK _ _ ?_⟩; fail)) | (refine First.wpF_free (fun K hK => ?_); go_simp; first | (refine hK _ _ ?_; clear hK K))))
            refine First.wpF_nil ?_
            go_wp2
            go_roundw
            case rel => exact ⟨j + 1, bm3, bs3, k3, A3, c3, B3, d3, by omega, by go_num, H.grow _⟩
            case measure => simp [intOf]; omega
          · obtain rfl : nn = k.e := by omega
            have hE : activeE k k.e = 0 := by unfold activeE; rw [if_neg (by omega)]
            have hK : activeK k k.e = { k with ss := k.ms } := by
              unfold activeK
              rw [if_neg (by omega), if_pos rfl]
            have hAct : ∀ w', Ctl w' g bm bs k → _ := fun w' h' => active_any g bm bs k k.e w' h' HM.ok.mb HM.ok.pos
            rw [hE, hK] at hAct
            go_wp2_with (first | (go_at_call 37; (with_reducible refine (ractive_new k A1 B1 _ c1 _ d1 _ HM.ok.e.1).mono ?_); rintro e w1 ⟨rfl, hb1⟩; (have hs1 := hb1.size; (simp only [World.size_alloc] at hs1); have hO1 := (Blk.new wo 72 #[.int .i64 kd, .int .i64 k.e, .slice A m c]).below hb1 (by simp); have cO := hO1.cell; have lO := hO1.lt)) | (go_at_call 29; (with_reducible refine (hAct _ ((((HM.ctl.alloc _).below hb1).alloc _))).mono ?_); rintro e w2 ⟨rfl, ⟨bs2, hC2, hbs2⟩, hO2⟩; have hT2 := Blk.both2 (Blk.new w1 68 #[.int .i64 k.e, .int .i64 k.p, .slice A1 k.ms.length c1, .slice A1 k.ms.length c1]) hO2 (by omega) (by omega); have cT := hT2.cell; have lT := hT2.lt; have hD2 := Blk.both2 ((hD.below hb1 hD.lt).alloc (.cells #[.int .i64 k.e, .int .i64 k.p, .slice A1 k.ms.length c1, .slice A1 k.ms.length c1] 68)) hO2 HM.gp.symm HM.sp.symm; have cD2 := hD2.cell; have fD2 := hD2.frozen; have lD2 := hD2.lt; (simp only [World.size_alloc] at hbs2); have hsp2 : bs2 ≠ p := (by omega); have hls2 : w.heap.size ≤ bs2 := (by omega)))
            have HK : Kp (fun i => i = g ∨ i = bs ∨ i = p) wo ((((w2.setCell ⟨p, 0, none⟩ (.int .i64 k.e)).setCell ⟨p, 1, none⟩ (.int .i64 k.p)).setCell ⟨p, 2, none⟩ (.slice A1 k.ms.length c1)).setCell ⟨p, 3, none⟩ (.slice A1 k.ms.length c1)) :=
              ((((((((Kp.refl _ wo).alloc _).trans (Kp.of_below hb1)).alloc _).trans (Kp.of_both hO2 (.inl rfl) (.inr (.inl rfl)))).set_ (.inl (.inr (.inr rfl))) _).set_ (.inl (.inr (.inr rfl))) _).set_ (.inl (.inr (.inr rfl))) _).set_ (.inl (.inr (.inr rfl))) _
            have hAlt : 0 < k.ms.length → ∀ b, A1 = some b → b.block < w.heap.size := fun h0 b hb => by
              obtain ⟨a, e, h, _⟩ := HM.ra.2 h0
              rw [hb] at e; cases e; exact h
            have hbf := HM.below.trans (HK.below hs (fun i hi => by have := HM.lg; have := HM.lp; omega))
            have hlg := HM.lg
            have hlp := HM.lp
            have HM3 : Mid w _ g p bm bs2 { k with ss := k.ms } A1 c1 A1 c1 := ⟨hK ▸ activeK_ok HM.ok k.e, Ctl.set_ (Ctl.set_ (Ctl.set_ (Ctl.set_ hC2 HM.gp HM.mp hsp2 _) HM.gp HM.mp hsp2 _) HM.gp HM.mp hsp2 _) HM.gp HM.mp hsp2 _, HM.lm, hls2, HM.lg, HM.lp, Blk.four hD2, HM.ra, (HM.ra.below hbf).more hbf.size, fun h0 b hb => by have := hAlt h0 b hb; omega, HM.gp, HM.mp, hsp2, hbf⟩
            obtain ⟨bm3, bs3, k3, A3, c3, B3, d3, HM4⟩ : ∃ bm3 bs3 k3 A3 c3 B3 d3, Mid w ((((w2.setCell ⟨p, 0, none⟩ (.int .i64 k.e)).setCell ⟨p, 1, none⟩ (.int .i64 k.p)).setCell ⟨p, 2, none⟩ (.slice A1 k.ms.length c1)).setCell ⟨p, 3, none⟩ (.slice A1 k.ms.length c1)) g p bm3 bs3 k3 A3 c3 B3 d3 := ⟨_, _, _, _, _, _, _, HM3⟩
            clear HK HM3 hT2 cT lT hD2 cD2 fD2 lD2 hC2 hO2 hO1 cO lO hb1 hbf
            refine abstr (fun W => Mid w W g p bm3 bs3 k3 A3 c3 B3 d3) HM4 (fun W H => ?_)
            clear HM4 HM m0 m1 m2 o1 hb
            have hk := H.ok
            have cD := H.doc.cell
            have lD := H.doc.lt
            have hqa : Reads W W.heap.size 1 A3 k3.ms.length (ints k3.ms) := (H.ra.below H.below).more H.below.size
            refine First.wp_region_first_ext [4, 11, 20] [0, 3, 6, 7, 8, 10, 13, 14, 15, 16, 19, 22, 23] [(true, false, 0), (true, false, 3), (true, true, 4), (false, true, 1), (false, true, 2), (false, true, 5), (true, false, 6), (true, false, 7), (true, false, 8), (true, false, 10), (true, true, 11), (false, true, 9), (false, true, 12), (true, false, 13), (true, false, 14), (true, false, 15), (true, false, 16), (true, false, 19), (true, true, 20), (false, true, 17), (false, true, 18), (false, false, 21), (true, false, 22), (true, false, 23)] (by kernel_rfl) (by kernel_rfl) (fun Y => ?_); simp only [List.map_cons, List.map_nil, List.getD_cons_zero, List.getD_cons_succ]
            (repeat (first | (refine First.wpF_pure (fun K hK => ?_); go_simp; first | (refine hK _ _ ?_; clear hK K) | (apply Exists.intro; refine ⟨fun _ => ?_, hK _ _ ?_⟩; fail)) | (refine First.wpF_free (fun K hK => ?_); go_simp; first | (refine hK _ _ ?_; clear hK K))))
            refine First.wpF_must (fun K hK => ?_)
            go_wp2_with (go_at_call 30; (with_reducible refine (now_any g bm3 bs3 k3 _ (H.ctl.below (World.below_ext W _)) H.ok.mb).mono ?_); rintro e w' ⟨⟨v, rfl, ho⟩, hb⟩; obtain ⟨V1, f1, rfl, hc⟩ := own_sl ho; have hq := Reads.of_own ho; clear ho; obtain ⟨Z1, rfl⟩ := World.ext_of_below hb; clear hb; rw [World.ext_ext] at hq)
            (refine hK _ _ (fun hnd => by first | exact Bool.noConfusion hnd | assumption | with_reducible exact grown_alloc _ _ | with_reducible exact First.Grown.refl _ | with_reducible exact First.Grown.cat _ _ _ | with_reducible exact First.Grown.ext _ _) ?_; clear hK K)
            (repeat (first | (refine First.wpF_pure (fun K hK => ?_); go_simp; first | (refine hK _ _ ?_; clear hK K) | (apply Exists.intro; refine ⟨fun _ => ?_, hK _ _ ?_⟩; fail)) | (refine First.wpF_free (fun K hK => ?_); go_simp; first | (refine hK _ _ ?_; clear hK K))))
            refine First.wpF_must (fun K hK => ?_)
            go_wp2_with (go_at_call 36; (with_reducible refine (vfrom_any _ _ _ _ _ _).mono ?_); rintro e w' ⟨rfl, hb⟩; obtain ⟨Z2, rfl⟩ := World.ext_of_below hb; clear hb; have hq2 := hq.grown Z2; rw [World.ext_ext] at hq2)
            (refine hK _ _ (fun hnd => by first | exact Bool.noConfusion hnd | assumption | with_reducible exact grown_alloc _ _ | with_reducible exact First.Grown.refl _ | with_reducible exact First.Grown.cat _ _ _ | with_reducible exact First.Grown.ext _ _) ?_; clear hK K)
            (repeat (first | (refine First.wpF_pure (fun K hK => ?_); go_simp; first | (refine hK _ _ ?_; clear hK K) | (apply Exists.intro; refine ⟨fun _ => ?_, hK _ _ ?_⟩; fail)) | (refine First.wpF_free (fun K hK => ?_); go_simp; first | (refine hK _ _ ?_; clear hK K))))
            refine First.wpF_must (fun K hK => ?_)
            go_wp2_with (go_at_call 35; (with_reducible refine (same_any _ _ _ _ _ _ _ k3.ms _ hq2 (hqa.grown _) (by have := hk.mb; omega)).mono ?_); rintro e w' ⟨rfl, hb⟩; obtain ⟨Z3, rfl⟩ := World.ext_of_below hb; clear hb)
            clear hq hq2
            (refine hK _ _ (fun hnd => by first | exact Bool.noConfusion hnd | assumption | with_reducible exact grown_alloc _ _ | with_reducible exact First.Grown.refl _ | with_reducible exact First.Grown.cat _ _ _ | with_reducible exact First.Grown.ext _ _) ?_; clear hK K)
            (repeat (first | (refine First.wpF_pure (fun K hK => ?_); go_simp; first | (refine hK _ _ ?_; clear hK K) | (apply Exists.intro; refine ⟨fun _ => ?_, hK _ _ ?_⟩; fail)) | (refine First.wpF_free (fun K hK => ?_); go_simp; first | (refine hK _ _ ?_; clear hK K))))
            refine First.wpF_must (fun K hK => ?_)
            go_wp2_with (go_at_call 31; (with_reducible refine (safe_any g bm3 bs3 k3 _ (H.ctl.below (World.below_ext W _)) H.ok.sb).mono ?_); rintro e w' ⟨⟨v, rfl, ho⟩, hb⟩; obtain ⟨V4, f4, rfl, hc⟩ := own_sl ho; have hq := Reads.of_own ho; clear ho; obtain ⟨Z4, rfl⟩ := World.ext_of_below hb; clear hb; rw [World.ext_ext] at hq)
            (refine hK _ _ (fun hnd => by first | exact Bool.noConfusion hnd | assumption | with_reducible exact grown_alloc _ _ | with_reducible exact First.Grown.refl _ | with_reducible exact First.Grown.cat _ _ _ | with_reducible exact First.Grown.ext _ _) ?_; clear hK K)
            (repeat (first | (refine First.wpF_pure (fun K hK => ?_); go_simp; first | (refine hK _ _ ?_; clear hK K) | (apply Exists.intro; refine ⟨fun _ => ?_, hK _ _ ?_⟩; fail)) | (refine First.wpF_free (fun K hK => ?_); go_simp; first | (refine hK _ _ ?_; clear hK K))))
            refine First.wpF_must (fun K hK => ?_)
            go_wp2_with (go_at_call 38; (with_reducible refine (samel_any _ _ _ _ _ k3.ss _ hq (H.rb.grown _) (by have := hk.sb; omega)).mono ?_); rintro e w' ⟨rfl, hb⟩; obtain ⟨Z5, rfl⟩ := World.ext_of_below hb; clear hb)
            clear hq
            (refine hK _ _ (fun hnd => by first | exact Bool.noConfusion hnd | assumption | with_reducible exact grown_alloc _ _ | with_reducible exact First.Grown.refl _ | with_reducible exact First.Grown.cat _ _ _ | with_reducible exact First.Grown.ext _ _) ?_; clear hK K)
            (repeat (first | (refine First.wpF_pure (fun K hK => ?_); go_simp; first | (refine hK _ _ ?_; clear hK K) | (apply Exists.intro; refine ⟨fun _ => ?_, hK _ _ ?_⟩; fail)) | (refine First.wpF_free (fun K hK => ?_); go_simp; first | (refine hK _ _ ?_; clear hK K))))
            refine First.wpF_must (fun K hK => ?_)
            go_wp2_with (go_at_call 30; (with_reducible refine (now_any g bm3 bs3 k3 _ (H.ctl.below (World.below_ext W _)) H.ok.mb).mono ?_); rintro e w' ⟨⟨v, rfl, ho⟩, hb⟩; obtain ⟨V6, f6, rfl, hc⟩ := own_sl ho; have hq := Reads.of_own ho; clear ho; obtain ⟨Z6, rfl⟩ := World.ext_of_below hb; clear hb; rw [World.ext_ext] at hq)
            (refine hK _ _ (fun hnd => by first | exact Bool.noConfusion hnd | assumption | with_reducible exact grown_alloc _ _ | with_reducible exact First.Grown.refl _ | with_reducible exact First.Grown.cat _ _ _ | with_reducible exact First.Grown.ext _ _) ?_; clear hK K)
            (repeat (first | (refine First.wpF_pure (fun K hK => ?_); go_simp; first | (refine hK _ _ ?_; clear hK K) | (apply Exists.intro; refine ⟨fun _ => ?_, hK _ _ ?_⟩; fail)) | (refine First.wpF_free (fun K hK => ?_); go_simp; first | (refine hK _ _ ?_; clear hK K))))
            refine First.wpF_must (fun K hK => ?_)
            go_wp2_with (go_at_call 39; (with_reducible refine (vright_yes k3 hk _ _ _ _ hq (by have := hk.mb; omega)).mono ?_); rintro e w' ⟨rfl, hb⟩; obtain ⟨Z7, rfl⟩ := World.ext_of_below hb; clear hb)
            clear hq
            (refine hK _ _ (fun hnd => by first | exact Bool.noConfusion hnd | assumption | with_reducible exact grown_alloc _ _ | with_reducible exact First.Grown.refl _ | with_reducible exact First.Grown.cat _ _ _ | with_reducible exact First.Grown.ext _ _) ?_; clear hK K)
            (repeat (first | (refine First.wpF_pure (fun K hK => ?_); go_simp; first | (refine hK _ _ ?_; clear hK K) | (apply Exists.intro; refine ⟨fun _ => ?_, hK _ _ ?_⟩; fail)) | (refine First.wpF_free (fun K hK => ?_); go_simp; first | (refine hK _ _ ?_; clear hK K))))
            refine First.wpF_must (fun K hK => ?_)
            go_wp2_with (go_at_call 40; (with_reducible refine (rvright_yes k3 hk _ _ _ _ (hqa.grown _) (by have := hk.mb; omega)).mono ?_); rintro e w' ⟨rfl, hb⟩; obtain ⟨Z8, rfl⟩ := World.ext_of_below hb; clear hb)
            (refine hK _ _ (fun hnd => by first | exact Bool.noConfusion hnd | assumption | with_reducible exact grown_alloc _ _ | with_reducible exact First.Grown.refl _ | with_reducible exact First.Grown.cat _ _ _ | with_reducible exact First.Grown.ext _ _) ?_; clear hK K)
            (repeat (first | (refine First.wpF_pure (fun K hK => ?_); go_simp; first | (refine hK _ _ ?_; clear hK K) | (apply Exists.intro; refine ⟨fun _ => ?_, hK _ _ ?_⟩; fail)) | (refine First.wpF_free (fun K hK => ?_); go_simp; first | (refine hK _ _ ?_; clear hK K))))
            refine First.wpF_nil ?_
            go_wp2
            go_roundw
            case rel => exact ⟨j + 1, bm3, bs3, k3, A3, c3, B3, d3, by omega, by go_num, H.grow _⟩
            case measure => simp [intOf]; omega
      · obtain rfl : j = n := by omega
        go_wp2
        go_ret
        exact ⟨rfl, hb⟩
section
open Go.ChangeShapes Go.WideShapes Go.ChangeAt
variable {H : Type} {enc : TypeId × Value → H}
set_option maxRecDepth 100000 in
theorem viewPlays_walk : LawWalkS enc Try.prog 8 Try.f8 := by
  intro W base args ds ps hval hA hlt _ hs
  rw [Try.params8] at hA hval hs
  obtain ⟨v0, v1, d0, d1, p0, p1, rfl, rfl, rfl, h0, h1⟩ := trodAll_two hA
  obtain ⟨A, n, c, l, rfl, hnc, hcm, hr, _, hn⟩ := ints_open (hval 0 _ v0 rfl rfl) h0
  have hb := ints_weight (weights_at hs (j := 0) rfl rfl) hn
  obtain ⟨A1, n1, c1, l1, rfl, hnc1, hcm1, hr1, hok⟩ := vops_open (hval 1 _ v1 rfl rfl) h1 (weights_at hs (j := 1) rfl rfl)
  exact law_viewPlays A n c l A1 n1 c1 l1 W hr (by omega) hr1 hok (by unfold maxLen at hcm1; omega)
set_option maxRecDepth 100000 in
theorem viewPlays_lifted (os : Os) (started : os.Started) (H : Type) (enc : TypeId × Value → H) :
    ReturnsInHanded {} Try.checked os 8 .any (Rows.viewPlaysSpec.pre6 enc Try.prog Try.f8 Rows.viewPlaysRow.domain false) (Rows.viewPlaysSpec.post enc Try.prog Try.f8 false true false false) :=
  law_lifted_sized (C := Try.checked) own started (by kernel_rfl) Try.func8 laidOut (by kernel_rfl) rfl Try.underlying4 rfl rfl
    (fun ds h => by obtain ⟨d0, d1, rfl⟩ := list2 h; rfl)
    (ChangeSpec.witness6 (enc := enc) (C := Try.checked) false ⟨#[], #[.slice none 0 0, .slice none 0 0], []⟩ 8 (by kernel_rfl) (by kernel_rfl) (by kernel_rfl) (by kernel_rfl))
    viewPlays_walk
theorem viewPlays_holds : Rows.ViewPlaysSaid :=
  OpenClaim.holds_of_wide 8 Try.f8 rfl rfl rfl rfl rfl rfl rfl ⟨rfl, rfl, rfl, rfl, rfl⟩ rfl rfl rfl rfl rfl (by kernel_rfl) Try.func8 (by kernel_rfl)
    (of_decide_eq_true (by kernel_rfl)) (by unfold Func.isWrapper; rw [if_neg (of_decide_eq_false (by kernel_rfl))]; exact ⟨rfl, rfl⟩)
    (fun os started H enc _ => viewPlays_lifted os started H enc)
#print axioms viewPlays_holds
end
end Go.Proofs.Ythajbeooemngpaa
