import Derived.Test.YtghinjnhcepaeaaCh20
/-! The law on the model. -/
namespace Go.Proofs.Ytghinjnhcepaeaa
open Go.RowKit
set_option linter.unusedVariables false
set_option linter.unusedSimpArgs false
theorem Chn2.six {B g : Nat} {w : World} {v u0 u1 u2 u3 u4 u5 : Value} {L : List Ver} (h : Chn2 B w v L) (hg : g < B) : Chn2 B ((((((w.setCell ⟨g, 0, none⟩ u0).setCell ⟨g, 1, none⟩ u1).setCell ⟨g, 2, none⟩ u2).setCell ⟨g, 3, none⟩ u3).setCell ⟨g, 4, none⟩ u4).setCell ⟨g, 5, none⟩ u5) v L :=
  (((((h.set (p := ⟨g, 0, none⟩) hg u0).set (p := ⟨g, 1, none⟩) hg u1).set (p := ⟨g, 2, none⟩) hg u2).set (p := ⟨g, 3, none⟩) hg u3).set (p := ⟨g, 4, none⟩) hg u4).set (p := ⟨g, 5, none⟩) hg u5
theorem Blk.farsix {g k : Nat} {w : World} {t : TypeId} {cs : Array Value} {u0 u1 u2 u3 u4 u5 : Value} (h : Blk w k t cs) (hg : k ≠ g) : Blk ((((((w.setCell ⟨g, 0, none⟩ u0).setCell ⟨g, 1, none⟩ u1).setCell ⟨g, 2, none⟩ u2).setCell ⟨g, 3, none⟩ u3).setCell ⟨g, 4, none⟩ u4).setCell ⟨g, 5, none⟩ u5) k t cs :=
  (((((h.far (p := ⟨g, 0, none⟩) hg u0).far (p := ⟨g, 1, none⟩) hg u1).far (p := ⟨g, 2, none⟩) hg u2).far (p := ⟨g, 3, none⟩) hg u3).far (p := ⟨g, 4, none⟩) hg u4).far (p := ⟨g, 5, none⟩) hg u5
theorem Below.six {B g : Nat} {a w : World} {u0 u1 u2 u3 u4 u5 : Value} (h : Below B a w) (hg : B ≤ g) : Below B a ((((((w.setCell ⟨g, 0, none⟩ u0).setCell ⟨g, 1, none⟩ u1).setCell ⟨g, 2, none⟩ u2).setCell ⟨g, 3, none⟩ u3).setCell ⟨g, 4, none⟩ u4).setCell ⟨g, 5, none⟩ u5) :=
  (((((h.setCell (p := ⟨g, 0, none⟩) hg u0).setCell (p := ⟨g, 1, none⟩) hg u1).setCell (p := ⟨g, 2, none⟩) hg u2).setCell (p := ⟨g, 3, none⟩) hg u3).setCell (p := ⟨g, 4, none⟩) hg u4).setCell (p := ⟨g, 5, none⟩) hg u5
set_option maxRecDepth 100000 in
set_option maxHeartbeats 16000000 in
theorem law_model (A : Option Addr) (n c : Nat) (l : List Ver) (t : Ver) (w : World) (hr : Reads w w.heap.size 6 A n (vsV l)) (hn : n ≤ 9223372036854775807) (hok : ∀ x ∈ l, x.ok) (ht : t.ok) :
    Calls Try.prog 7 #[.slice A n c, .agg #[.int .i64 t.a, .int .u32 t.b, .int .u32 t.c]] w fun e w' => e = .returned (.bool true) ∧ Below w.heap.size w w' := by
  have hl := vreads_len hr
  have hO0 := (Blk.new w 24 #[.int .i64 t.a, .int .u32 t.b, .int .u32 t.c]).alloc (.cells #[.int .i64 0, .int .u32 0, .int .u32 0, .int .i64 0, .int .i64 0, .string ⟨#[]⟩] 26)
  have hE0 := Blk.made w (.cells #[.int .i64 t.a, .int .u32 t.b, .int .u32 t.c] 24) 26 #[.int .i64 0, .int .u32 0, .int .u32 0, .int .i64 0, .int .i64 0, .string ⟨#[]⟩]
  have hb0 : Below w.heap.size w ((w.alloc (.cells #[.int .i64 t.a, .int .u32 t.b, .int .u32 t.c] 24)).alloc (.cells #[.int .i64 0, .int .u32 0, .int .u32 0, .int .i64 0, .int .i64 0, .string ⟨#[]⟩] 26)) := by (repeat' (first | with_reducible exact Below.refl _ _ | with_reducible refine Below.ext ?_ ?_ _ | with_reducible refine Below.alloc ?_ ?_ _ | with_reducible refine Below.setCell ?_ ?_ _ | with_reducible refine Below.drew ?_ | with_reducible assumption | (simp [World.size_ext]; done) | (simp [World.size_ext]; omega)))
  have hs0 : ((w.alloc (.cells #[.int .i64 t.a, .int .u32 t.b, .int .u32 t.c] 24)).alloc (.cells #[.int .i64 0, .int .u32 0, .int .u32 0, .int .i64 0, .int .i64 0, .string ⟨#[]⟩] 26)).heap.size = w.heap.size + 2 := by simp
  go_enter Try.func7, Try.ntmps7
  go_wp2
  generalize (w.alloc (.cells #[.int .i64 t.a, .int .u32 t.b, .int .u32 t.c] 24)).alloc (.cells #[.int .i64 0, .int .u32 0, .int .u32 0, .int .i64 0, .int .i64 0, .string ⟨#[]⟩] 26) = w0 at *
  generalize hq : w.heap.size = q at *
  go_loopw [5, 7, 16] (fun s5 s7 s16 wr => ∃ (j : Nat) (best : Ver) (hs : Bool), j ≤ n ∧ j ≤ 60 ∧ s7 = .bool hs ∧ s16 = .int .i64 (j : Int) ∧ Chn2 (q + 2) wr s5 (ML l j) ∧ standV (ML l j) t.k = (if hs then some best else none) ∧ Blk wr q 24 #[.int .i64 t.a, .int .u32 t.b, .int .u32 t.c] ∧ Blk wr (q + 1) 26 (#[.int .i64 best.a, .int .u32 best.b, .int .u32 best.c, .int .i64 best.kd, .int .i64 best.num, .string best.text]) ∧ q + 2 ≤ wr.heap.size ∧ Below q w wr) (fun _ _ s16 _ => ((n : Int) - intOf s16).toNat)
  case atStart => exact ⟨0, ⟨0, 0, 0, 0, 0, ⟨#[]⟩⟩, false, by omega, by omega, rfl, rfl, Chn2.nil _ _, rfl, hO0, hE0, by omega, hb0⟩
  case round =>
    clear hO0 hE0 hb0 hs0
    obtain ⟨j, best, hs, hj, hj60, rfl, rfl, hC, hst, hO, hE, hq2, hbel⟩ := hrel
    by_cases hlt : j < n ∧ j < 60
    · obtain ⟨hlt, h60⟩ := hlt
      obtain ⟨b, o, rfl, hbb, hc⟩ := hr.plain (by omega) (by omega)
      have hcw : ∀ (j : Nat) (u : Value), (vsV l)[j]? = some u → wr.cell? ⟨b, o + j, none⟩ = some u := fun j u hu => (hbel.cell (p := ⟨b, _, none⟩) hbb).trans (hc j u hu)
      obtain ⟨x, hg⟩ : ∃ x, l[j]? = some x := ⟨l[j]'(by omega), List.getElem?_eq_getElem (by omega)⟩
      have hxo := hok x (List.mem_of_getElem? hg)
      have m0 : (wr).cell? ⟨b, o + j * 6, none⟩ = some (.int .i64 (x).a) := hcw _ _ (vsV_get hg 0 _ rfl); have m1 : (wr).cell? ⟨b, o + j * 6 + 1, none⟩ = some (.int .u32 (x).b) := hcw _ _ (vsV_get hg 1 _ rfl); have m2 : (wr).cell? ⟨b, o + j * 6 + 2, none⟩ = some (.int .u32 (x).c) := hcw _ _ (vsV_get hg 2 _ rfl); have m3 : (wr).cell? ⟨b, o + j * 6 + 3, none⟩ = some (.int .i64 (x).kd) := hcw _ _ (vsV_get hg 3 _ rfl); have m4 : (wr).cell? ⟨b, o + j * 6 + 4, none⟩ = some (.int .i64 (x).num) := hcw _ _ (vsV_get hg 4 _ rfl); have m5 : (wr).cell? ⟨b, o + j * 6 + 5, none⟩ = some (.string (x).text) := hcw _ _ (vsV_get hg 5 _ rfl)
      have hbw : b < wr.heap.size := by omega
      have hji : (j : Int) < n := by omega
      have hj6 : (j : Int) < 60 := by omega
      have hV := Blk.new wr 26 (#[.int .i64 x.a, .int .u32 x.b, .int .u32 x.c, .int .i64 x.kd, .int .i64 x.num, .string x.text])
      have hG := ML_good hok j
      have hLn := ML_length l j
      have hP := fun s w h => put_g2 (s := s) x w h hG hxo (by omega)
      have lO := hO.lt
      have lE := hE.lt
      have H := hide (ML_succ hg)
      clear hc hcw hr hok hg
      by_cases he : errL (ML l j) x = 0
      · rw [he] at hP
        have hstp : stepL (ML l j) x = resL (ML l j) x := by unfold stepL resL; rw [if_pos he, if_pos he]
        rw [hstp] at H
        have hps := stand_put (x := x) (k := t.k) hG.srt (errL_zero.1 he).2
        rw [show putL (ML l j) x = resL (ML l j) x by unfold resL; rw [if_pos he], hst] at hps
        have hbo : hs = true → best.ok := fun e => by
          rw [e] at hst
          exact hG.ok _ ((stand_iff hG.srt).1 hst).1
        generalize ML l j = L at *
        by_cases h1 : t.k < x.k
        · have hB1 := fun w => below_any t.a t.b t.c x.a x.b x.c w
          rw [belowV ht hxo, decide_eq_true h1] at hB1
          have hp2 : standV (resL L x) t.k = if hs = true then some best else none := by rw [hps, if_neg]; omega
          clear hps
          go_wp2_with (first | (go_at_call 10; (with_reducible refine (vto_any x _).mono ?_); rintro e w1 ⟨rfl, hb1⟩; have hV1 := Blk.below hV hb1 hV.lt; have cv1 := hV1.cell; have lv1 := hV1.lt; have hb01 : Below wr.heap.size wr w1 := (Below.alloc (Below.refl _ _) (Nat.le_refl _) _).trans (hb1.mono (by simp))) | (go_at_call 21; (with_reducible refine (hP u5 w1 (hC.chn.below hb01)).mono ?_); rintro e w2 ⟨⟨u, rfl, hu⟩, hb2⟩; have hV2 := hV1.below hb2 lv1; have cv2 := hV2.cell; have lv2 := hV2.lt; have hb02 := hb01.trans (hb2.mono hb01.size); have hO2 := hO.below hb02 lO; have hE2 := hE.below hb02 lE; have cO2 := hO2.cell; have cE2 := hE2.cell; have fE2 := hE2.frozen; have lO2 := hO2.lt; have lE2 := hE2.lt; have hu2 := hu.low (show q + 2 ≤ _ from Nat.le_trans hq2 hb01.size)) | (go_at_call 23; (with_reducible refine (hB1 _).mono ?_); rintro e w3 ⟨rfl, hb3⟩; have hV3 := hV2.below hb3 lv2; have cv3 := hV3.cell; have lv3 := hV3.lt; have hE3 := hE2.below hb3 lE2; have cE3 := hE3.cell; have fE3 := hE3.frozen; have lE3 := hE3.lt; have hO3 := hO2.below hb3 lO2; have lO3 := hO3.lt; have hu3 := hu2.below hb3; have hb03 := hb02.trans (hb3.mono hb02.size)) | (go_at_call 23; (with_reducible refine (hB2 _).mono ?_); rintro e w4 ⟨rfl, hb4⟩; have hV4 := hV3.below hb4 lv3; have cv4 := hV4.cell; have lv4 := hV4.lt; have hE4 := hE3.below hb4 lE3; have cE4 := hE4.cell; have fE4 := hE4.frozen; have lE4 := hE4.lt; have hO4 := hO3.below hb4 lO3; have lO4 := hO4.lt; have hu4 := hu3.below hb4; have hb04 := hb03.trans (hb4.mono hb03.size)))
          go_roundw
          case rel =>
            exact ⟨j + 1, best, hs, by omega, by omega, rfl, by go_num, by rw [H.out]; exact hu3, by rw [H.out]; exact hp2, hO3, hE3, Nat.le_trans hq2 hb03.size, hbel.trans (hb03.mono (by omega))⟩
          case measure => simp [intOf]; omega
        · have hB1 := fun w => below_any t.a t.b t.c x.a x.b x.c w
          rw [belowV ht hxo, decide_eq_false h1] at hB1
          cases hs with
          | false =>
            have hp2 : standV (resL L x) t.k = some x := by rw [hps, if_pos ⟨by omega, fun y hy => by cases hy⟩]
            clear hps
            go_wp2_with (first | (go_at_call 10; (with_reducible refine (vto_any x _).mono ?_); rintro e w1 ⟨rfl, hb1⟩; have hV1 := Blk.below hV hb1 hV.lt; have cv1 := hV1.cell; have lv1 := hV1.lt; have hb01 : Below wr.heap.size wr w1 := (Below.alloc (Below.refl _ _) (Nat.le_refl _) _).trans (hb1.mono (by simp))) | (go_at_call 21; (with_reducible refine (hP u5 w1 (hC.chn.below hb01)).mono ?_); rintro e w2 ⟨⟨u, rfl, hu⟩, hb2⟩; have hV2 := hV1.below hb2 lv1; have cv2 := hV2.cell; have lv2 := hV2.lt; have hb02 := hb01.trans (hb2.mono hb01.size); have hO2 := hO.below hb02 lO; have hE2 := hE.below hb02 lE; have cO2 := hO2.cell; have cE2 := hE2.cell; have fE2 := hE2.frozen; have lO2 := hO2.lt; have lE2 := hE2.lt; have hu2 := hu.low (show q + 2 ≤ _ from Nat.le_trans hq2 hb01.size)) | (go_at_call 23; (with_reducible refine (hB1 _).mono ?_); rintro e w3 ⟨rfl, hb3⟩; have hV3 := hV2.below hb3 lv2; have cv3 := hV3.cell; have lv3 := hV3.lt; have hE3 := hE2.below hb3 lE2; have cE3 := hE3.cell; have fE3 := hE3.frozen; have lE3 := hE3.lt; have hO3 := hO2.below hb3 lO2; have lO3 := hO3.lt; have hu3 := hu2.below hb3; have hb03 := hb02.trans (hb3.mono hb02.size)) | (go_at_call 23; (with_reducible refine (hB2 _).mono ?_); rintro e w4 ⟨rfl, hb4⟩; have hV4 := hV3.below hb4 lv3; have cv4 := hV4.cell; have lv4 := hV4.lt; have hE4 := hE3.below hb4 lE3; have cE4 := hE4.cell; have fE4 := hE4.frozen; have lE4 := hE4.lt; have hO4 := hO3.below hb4 lO3; have lO4 := hO4.lt; have hu4 := hu3.below hb4; have hb04 := hb03.trans (hb4.mono hb03.size)))
            go_roundw
            case rel =>
              have hbb := hbel.trans (hb03.mono (show q ≤ _ by omega))
              exact ⟨j + 1, x, true, by omega, by omega, rfl, by go_num, by rw [H.out]; exact Chn2.six hu3 (by omega), by rw [H.out]; exact hp2, Blk.farsix hO3 (by omega), Blk.six hE3, by simp only [World.size_setCell]; exact Nat.le_trans hq2 hb03.size, Below.six hbb (by omega)⟩
            case measure => simp [intOf]; omega
          | true =>
            have hbok := hbo rfl
            by_cases h2 : best.k < x.k
            · have hB2 := fun w => below_any best.a best.b best.c x.a x.b x.c w
              rw [belowV hbok hxo, decide_eq_true h2] at hB2
              have hp2 : standV (resL L x) t.k = some x := by rw [hps, if_pos ⟨by omega, fun y hy => by cases hy; exact h2⟩]
              clear hps
              go_wp2_with (first | (go_at_call 10; (with_reducible refine (vto_any x _).mono ?_); rintro e w1 ⟨rfl, hb1⟩; have hV1 := Blk.below hV hb1 hV.lt; have cv1 := hV1.cell; have lv1 := hV1.lt; have hb01 : Below wr.heap.size wr w1 := (Below.alloc (Below.refl _ _) (Nat.le_refl _) _).trans (hb1.mono (by simp))) | (go_at_call 21; (with_reducible refine (hP u5 w1 (hC.chn.below hb01)).mono ?_); rintro e w2 ⟨⟨u, rfl, hu⟩, hb2⟩; have hV2 := hV1.below hb2 lv1; have cv2 := hV2.cell; have lv2 := hV2.lt; have hb02 := hb01.trans (hb2.mono hb01.size); have hO2 := hO.below hb02 lO; have hE2 := hE.below hb02 lE; have cO2 := hO2.cell; have cE2 := hE2.cell; have fE2 := hE2.frozen; have lO2 := hO2.lt; have lE2 := hE2.lt; have hu2 := hu.low (show q + 2 ≤ _ from Nat.le_trans hq2 hb01.size)) | (go_at_call 23; (with_reducible refine (hB1 _).mono ?_); rintro e w3 ⟨rfl, hb3⟩; have hV3 := hV2.below hb3 lv2; have cv3 := hV3.cell; have lv3 := hV3.lt; have hE3 := hE2.below hb3 lE2; have cE3 := hE3.cell; have fE3 := hE3.frozen; have lE3 := hE3.lt; have hO3 := hO2.below hb3 lO2; have lO3 := hO3.lt; have hu3 := hu2.below hb3; have hb03 := hb02.trans (hb3.mono hb02.size)) | (go_at_call 23; (with_reducible refine (hB2 _).mono ?_); rintro e w4 ⟨rfl, hb4⟩; have hV4 := hV3.below hb4 lv3; have cv4 := hV4.cell; have lv4 := hV4.lt; have hE4 := hE3.below hb4 lE3; have cE4 := hE4.cell; have fE4 := hE4.frozen; have lE4 := hE4.lt; have hO4 := hO3.below hb4 lO3; have lO4 := hO4.lt; have hu4 := hu3.below hb4; have hb04 := hb03.trans (hb4.mono hb03.size)))
              go_roundw
              case rel =>
                have hbb := hbel.trans (hb04.mono (show q ≤ _ by omega))
                exact ⟨j + 1, x, true, by omega, by omega, rfl, by go_num, by rw [H.out]; exact Chn2.six hu4 (by omega), by rw [H.out]; exact hp2, Blk.farsix hO4 (by omega), Blk.six hE4, by simp only [World.size_setCell]; exact Nat.le_trans hq2 hb04.size, Below.six hbb (by omega)⟩
              case measure => simp [intOf]; omega
            · have hB2 := fun w => below_any best.a best.b best.c x.a x.b x.c w
              rw [belowV hbok hxo, decide_eq_false h2] at hB2
              have hp2 : standV (resL L x) t.k = some best := by rw [hps, if_neg (fun h => h2 (h.2 best rfl))]; rfl
              clear hps
              go_wp2_with (first | (go_at_call 10; (with_reducible refine (vto_any x _).mono ?_); rintro e w1 ⟨rfl, hb1⟩; have hV1 := Blk.below hV hb1 hV.lt; have cv1 := hV1.cell; have lv1 := hV1.lt; have hb01 : Below wr.heap.size wr w1 := (Below.alloc (Below.refl _ _) (Nat.le_refl _) _).trans (hb1.mono (by simp))) | (go_at_call 21; (with_reducible refine (hP u5 w1 (hC.chn.below hb01)).mono ?_); rintro e w2 ⟨⟨u, rfl, hu⟩, hb2⟩; have hV2 := hV1.below hb2 lv1; have cv2 := hV2.cell; have lv2 := hV2.lt; have hb02 := hb01.trans (hb2.mono hb01.size); have hO2 := hO.below hb02 lO; have hE2 := hE.below hb02 lE; have cO2 := hO2.cell; have cE2 := hE2.cell; have fE2 := hE2.frozen; have lO2 := hO2.lt; have lE2 := hE2.lt; have hu2 := hu.low (show q + 2 ≤ _ from Nat.le_trans hq2 hb01.size)) | (go_at_call 23; (with_reducible refine (hB1 _).mono ?_); rintro e w3 ⟨rfl, hb3⟩; have hV3 := hV2.below hb3 lv2; have cv3 := hV3.cell; have lv3 := hV3.lt; have hE3 := hE2.below hb3 lE2; have cE3 := hE3.cell; have fE3 := hE3.frozen; have lE3 := hE3.lt; have hO3 := hO2.below hb3 lO2; have lO3 := hO3.lt; have hu3 := hu2.below hb3; have hb03 := hb02.trans (hb3.mono hb02.size)) | (go_at_call 23; (with_reducible refine (hB2 _).mono ?_); rintro e w4 ⟨rfl, hb4⟩; have hV4 := hV3.below hb4 lv3; have cv4 := hV4.cell; have lv4 := hV4.lt; have hE4 := hE3.below hb4 lE3; have cE4 := hE4.cell; have fE4 := hE4.frozen; have lE4 := hE4.lt; have hO4 := hO3.below hb4 lO3; have lO4 := hO4.lt; have hu4 := hu3.below hb4; have hb04 := hb03.trans (hb4.mono hb03.size)))
              go_roundw
              case rel =>
                exact ⟨j + 1, best, true, by omega, by omega, rfl, by go_num, by rw [H.out]; exact hu4, by rw [H.out]; exact hp2, hO4, hE4, Nat.le_trans hq2 hb04.size, hbel.trans (hb04.mono (by omega))⟩
              case measure => simp [intOf]; omega
      · have he' : (errL (ML l j) x == 0) = false := by simpa using he
        have hstp : stepL (ML l j) x = ML l j := by unfold stepL; rw [if_neg he]
        rw [hstp] at H
        generalize ML l j = L at *
        generalize errL L x = er at *
        go_wp2_with (first | (go_at_call 10; (with_reducible refine (vto_any x _).mono ?_); rintro e w1 ⟨rfl, hb1⟩; have hV1 := Blk.below hV hb1 hV.lt; have cv1 := hV1.cell; have lv1 := hV1.lt; have hb01 : Below wr.heap.size wr w1 := (Below.alloc (Below.refl _ _) (Nat.le_refl _) _).trans (hb1.mono (by simp))) | (go_at_call 21; (with_reducible refine (hP u5 w1 (hC.chn.below hb01)).mono ?_); rintro e w2 ⟨⟨u, rfl, hu⟩, hb2⟩; have hV2 := hV1.below hb2 lv1; have cv2 := hV2.cell; have lv2 := hV2.lt; have hb02 := hb01.trans (hb2.mono hb01.size); have hO2 := hO.below hb02 lO; have hE2 := hE.below hb02 lE; have cO2 := hO2.cell; have cE2 := hE2.cell; have fE2 := hE2.frozen; have lO2 := hO2.lt; have lE2 := hE2.lt; have hu2 := hu.low (show q + 2 ≤ _ from Nat.le_trans hq2 hb01.size)) | (go_at_call 23; (with_reducible refine (hB1 _).mono ?_); rintro e w3 ⟨rfl, hb3⟩; have hV3 := hV2.below hb3 lv2; have cv3 := hV3.cell; have lv3 := hV3.lt; have hE3 := hE2.below hb3 lE2; have cE3 := hE3.cell; have fE3 := hE3.frozen; have lE3 := hE3.lt; have hO3 := hO2.below hb3 lO2; have lO3 := hO3.lt; have hu3 := hu2.below hb3; have hb03 := hb02.trans (hb3.mono hb02.size)) | (go_at_call 23; (with_reducible refine (hB2 _).mono ?_); rintro e w4 ⟨rfl, hb4⟩; have hV4 := hV3.below hb4 lv3; have cv4 := hV4.cell; have lv4 := hV4.lt; have hE4 := hE3.below hb4 lE3; have cE4 := hE4.cell; have fE4 := hE4.frozen; have lE4 := hE4.lt; have hO4 := hO3.below hb4 lO3; have lO4 := hO4.lt; have hu4 := hu3.below hb4; have hb04 := hb03.trans (hb4.mono hb03.size)))
        go_roundw
        case rel =>
          exact ⟨j + 1, best, hs, by omega, by omega, rfl, by go_num, by rw [H.out]; exact hC.below hb02, by rw [H.out]; exact hst, hO2, hE2, Nat.le_trans hq2 hb02.size, hbel.trans (hb02.mono (by omega))⟩
        case measure => simp [intOf]; omega
    · have hG := ML_good hok j
      have hLn := ML_length l j
      by_cases hjn : j = n
      · subst hjn
        have hCW := hC.chn
        have hOW := hO
        have hEW := hE
        have hbW := hbel
        clear hO hE hC hr hok hbel
        generalize ML l j = L at *
        have hgt := fun s w h => get_g (s := s) t w h hG ht (by omega)
        cases hs with
        | false =>
          have e1 : getV L t.k = none := by unfold getV; rw [hst]; rfl
          rw [e1] at hgt
          have hgt : ∀ s w, Chn w s L → Calls Try.prog 13 #[s, .agg #[.int .i64 t.a, .int .u32 t.b, .int .u32 t.c]] w fun e w' => e = .returned (.tuple #[.agg #[.int .i64 0, .int .u32 0, .int .u32 0, .int .i64 0, .int .i64 0, .string ⟨#[]⟩], .bool false]) ∧ Below w.heap.size w w' := hgt
          have cO := hOW.cell
          have lO' := hOW.lt
          go_wp2_with (first | (go_at_call 14; (with_reducible refine (to_any t.a t.b t.c _).mono ?_); rintro e w1 ⟨rfl, hb1⟩; have hO1 := hOW.below hb1 hOW.lt; have hE1 := hEW.below hb1 hEW.lt; have hb01 := hbW.trans (hb1.mono (Nat.le_of_lt hOW.lt))) | (go_at_call 13; (with_reducible refine (hgt _ _ (hCW.below hb1)).mono ?_); rintro e w2 ⟨rfl, hb2⟩; have hO2 := (hO1.below hb2 hO1.lt).alloc (.cells #[.int .i64 0, .int .u32 0, .int .u32 0, .int .i64 0, .int .i64 0, .string ⟨#[]⟩] 31); have hE2 := (hE1.below hb2 hE1.lt).alloc (.cells #[.int .i64 0, .int .u32 0, .int .u32 0, .int .i64 0, .int .i64 0, .string ⟨#[]⟩] 31); have cE2 := hE2.cell; have lE2 := hE2.lt; have hY := Blk.new w2 31 #[.int .i64 0, .int .u32 0, .int .u32 0, .int .i64 0, .int .i64 0, .string ⟨#[]⟩]; have cY := hY.cell; have hb02 := (hb01.trans (hb2.mono (Nat.le_of_lt hO1.lt))).alloc (Nat.le_of_lt (hO1.below hb2 hO1.lt).lt) (.cells #[.int .i64 0, .int .u32 0, .int .u32 0, .int .i64 0, .int .i64 0, .string ⟨#[]⟩] 31)) | (go_at_call 8; (with_reducible refine (chawake_any _).mono ?_); rintro e w3 ⟨rfl, hb3⟩; have hY3 := hY.below hb3 hY.lt; have cY3 := hY3.cell; have lY3 := hY3.lt; have hb03 := hb02.trans (hb3.mono (Nat.le_of_lt hO2.lt))))
          go_ret
          exact ⟨rfl, by rw [hq]; exact hb03⟩
        | true =>
          have cEW := hEW.cell
          by_cases h3 : best.kd = 3
          · have e1 : getV L t.k = none := by unfold getV; rw [hst]; simp [h3]
            rw [e1] at hgt
            have hgt : ∀ s w, Chn w s L → Calls Try.prog 13 #[s, .agg #[.int .i64 t.a, .int .u32 t.b, .int .u32 t.c]] w fun e w' => e = .returned (.tuple #[.agg #[.int .i64 0, .int .u32 0, .int .u32 0, .int .i64 0, .int .i64 0, .string ⟨#[]⟩], .bool false]) ∧ Below w.heap.size w w' := hgt
            have cO := hOW.cell
            have lO' := hOW.lt
            go_wp2_with (first | (go_at_call 14; (with_reducible refine (to_any t.a t.b t.c _).mono ?_); rintro e w1 ⟨rfl, hb1⟩; have hO1 := hOW.below hb1 hOW.lt; have hE1 := hEW.below hb1 hEW.lt; have hb01 := hbW.trans (hb1.mono (Nat.le_of_lt hOW.lt))) | (go_at_call 13; (with_reducible refine (hgt _ _ (hCW.below hb1)).mono ?_); rintro e w2 ⟨rfl, hb2⟩; have hO2 := (hO1.below hb2 hO1.lt).alloc (.cells #[.int .i64 0, .int .u32 0, .int .u32 0, .int .i64 0, .int .i64 0, .string ⟨#[]⟩] 31); have hE2 := (hE1.below hb2 hE1.lt).alloc (.cells #[.int .i64 0, .int .u32 0, .int .u32 0, .int .i64 0, .int .i64 0, .string ⟨#[]⟩] 31); have cE2 := hE2.cell; have lE2 := hE2.lt; have hY := Blk.new w2 31 #[.int .i64 0, .int .u32 0, .int .u32 0, .int .i64 0, .int .i64 0, .string ⟨#[]⟩]; have cY := hY.cell; have hb02 := (hb01.trans (hb2.mono (Nat.le_of_lt hO1.lt))).alloc (Nat.le_of_lt (hO1.below hb2 hO1.lt).lt) (.cells #[.int .i64 0, .int .u32 0, .int .u32 0, .int .i64 0, .int .i64 0, .string ⟨#[]⟩] 31)) | (go_at_call 8; (with_reducible refine (chawake_any _).mono ?_); rintro e w3 ⟨rfl, hb3⟩; have hY3 := hY.below hb3 hY.lt; have cY3 := hY3.cell; have lY3 := hY3.lt; have hb03 := hb02.trans (hb3.mono (Nat.le_of_lt hO2.lt))))
            go_ret
            exact ⟨rfl, by rw [hq]; exact hb03⟩
          · have e1 : getV L t.k = some best := by unfold getV; rw [hst]; simp [h3]
            rw [e1] at hgt
            have h3' : (best.kd == 3) = false := by simpa using h3
            have hgt : ∀ s w, Chn w s L → Calls Try.prog 13 #[s, .agg #[.int .i64 t.a, .int .u32 t.b, .int .u32 t.c]] w fun e w' => e = .returned (.tuple #[.agg #[.int .i64 best.a, .int .u32 best.b, .int .u32 best.c, .int .i64 best.kd, .int .i64 best.num, .string best.text], .bool true]) ∧ Below w.heap.size w w' := hgt
            have cO := hOW.cell
            have lO' := hOW.lt
            go_wp2_with (first | (go_at_call 14; (with_reducible refine (to_any t.a t.b t.c _).mono ?_); rintro e w1 ⟨rfl, hb1⟩; have hO1 := hOW.below hb1 hOW.lt; have hE1 := hEW.below hb1 hEW.lt; have hb01 := hbW.trans (hb1.mono (Nat.le_of_lt hOW.lt))) | (go_at_call 13; (with_reducible refine (hgt _ _ (hCW.below hb1)).mono ?_); rintro e w2 ⟨rfl, hb2⟩; have hO2 := (hO1.below hb2 hO1.lt).alloc (.cells (#[.int .i64 best.a, .int .u32 best.b, .int .u32 best.c, .int .i64 best.kd, .int .i64 best.num, .string best.text]) 31); have hE2 := (hE1.below hb2 hE1.lt).alloc (.cells (#[.int .i64 best.a, .int .u32 best.b, .int .u32 best.c, .int .i64 best.kd, .int .i64 best.num, .string best.text]) 31); have cE2 := hE2.cell; have lE2 := hE2.lt; have hY := Blk.new w2 31 (#[.int .i64 best.a, .int .u32 best.b, .int .u32 best.c, .int .i64 best.kd, .int .i64 best.num, .string best.text]); have cY := hY.cell; have hb02 := (hb01.trans (hb2.mono (Nat.le_of_lt hO1.lt))).alloc (Nat.le_of_lt (hO1.below hb2 hO1.lt).lt) (.cells (#[.int .i64 best.a, .int .u32 best.b, .int .u32 best.c, .int .i64 best.kd, .int .i64 best.num, .string best.text]) 31)))
            refine abstr (fun W => Below q w W ∧ Blk W (q + 1) 26 (#[.int .i64 best.a, .int .u32 best.b, .int .u32 best.c, .int .i64 best.kd, .int .i64 best.num, .string best.text]) ∧ Blk W w2.heap.size 31 (#[.int .i64 best.a, .int .u32 best.b, .int .u32 best.c, .int .i64 best.kd, .int .i64 best.num, .string best.text])) ⟨hb02, hE2, hY⟩ (fun W hW => ?_)
            clear hb02 hE2 hY cE2 lE2 cY
            obtain ⟨hb02, hE2, hY⟩ := hW
            generalize w2.heap.size = p2 at *
            have cE2 := hE2.cell
            have cY := hY.cell
            have lE2 := hE2.lt
            have lY := hY.lt
            refine wp_region_ext_lit (by kernel_rfl) (by kernel_rfl) ?_
            (repeat (first | ((with_reducible refine wpQuiet_step (fun K hK => ?_)); go_simp; first | ((with_reducible refine hK _ ?_); clear hK K) | (apply Exists.intro; (with_reducible refine ⟨fun _ => ?_, hK _ ?_⟩); first | (go_at_call 8; exact Calls.ext_of (chawake_any _)) | (go_at_call 16; exact Calls.ext_of (vfrom_any best _)); clear hK K)) | ((with_reducible refine quiet_skipN ?_ (fun K hK => ?_)); (rfl); go_simp; (with_reducible refine hK _ ?_); clear hK K)))
            (with_reducible refine wpQuiet_nil ?_); intro _ hw'; obtain ⟨Y, hw''⟩ := hw'; subst hw''
            go_wp2
            go_ret
            exact ⟨rfl, by rw [hq]; exact hb02.trans ((World.below_ext _ _).mono (by omega))⟩
      · obtain rfl : j = 60 := by omega
        obtain ⟨b, o, rfl, hbb, hc⟩ := hr.plain (by omega) (by omega)
        have hcw : ∀ (j : Nat) (u : Value), (vsV l)[j]? = some u → wr.cell? ⟨b, o + j, none⟩ = some u := fun j u hu => (hbel.cell (p := ⟨b, _, none⟩) hbb).trans (hc j u hu)
        obtain ⟨x, hg⟩ : ∃ x, l[60]? = some x := ⟨l[60]'(by omega), List.getElem?_eq_getElem (by omega)⟩
        have m0 : (wr).cell? ⟨b, o + 60 * 6, none⟩ = some (.int .i64 (x).a) := hcw _ _ (vsV_get hg 0 _ rfl); have m1 : (wr).cell? ⟨b, o + 60 * 6 + 1, none⟩ = some (.int .u32 (x).b) := hcw _ _ (vsV_get hg 1 _ rfl); have m2 : (wr).cell? ⟨b, o + 60 * 6 + 2, none⟩ = some (.int .u32 (x).c) := hcw _ _ (vsV_get hg 2 _ rfl); have m3 : (wr).cell? ⟨b, o + 60 * 6 + 3, none⟩ = some (.int .i64 (x).kd) := hcw _ _ (vsV_get hg 3 _ rfl); have m4 : (wr).cell? ⟨b, o + 60 * 6 + 4, none⟩ = some (.int .i64 (x).num) := hcw _ _ (vsV_get hg 4 _ rfl); have m5 : (wr).cell? ⟨b, o + 60 * 6 + 5, none⟩ = some (.string (x).text) := hcw _ _ (vsV_get hg 5 _ rfl)
        have hbw : b < wr.heap.size := by omega
        have hji : ((60 : Nat) : Int) < n := by omega
        have hCW := hC.chn.alloc (.cells (#[.int .i64 x.a, .int .u32 x.b, .int .u32 x.c, .int .i64 x.kd, .int .i64 x.num, .string x.text]) 26)
        have hOW := hO.alloc (.cells (#[.int .i64 x.a, .int .u32 x.b, .int .u32 x.c, .int .i64 x.kd, .int .i64 x.num, .string x.text]) 26)
        have hEW := hE.alloc (.cells (#[.int .i64 x.a, .int .u32 x.b, .int .u32 x.c, .int .i64 x.kd, .int .i64 x.num, .string x.text]) 26)
        have hbW := hbel.alloc (by omega) (.cells (#[.int .i64 x.a, .int .u32 x.b, .int .u32 x.c, .int .i64 x.kd, .int .i64 x.num, .string x.text]) 26)
        have lO := hO.lt
        clear hO hE hC hr hok hbel hcw hc hg
        generalize ML l 60 = L at *
        have hgt := fun s w h => get_g (s := s) t w h hG ht (by omega)
        cases hs with
        | false =>
          have e1 : getV L t.k = none := by unfold getV; rw [hst]; rfl
          rw [e1] at hgt
          have hgt : ∀ s w, Chn w s L → Calls Try.prog 13 #[s, .agg #[.int .i64 t.a, .int .u32 t.b, .int .u32 t.c]] w fun e w' => e = .returned (.tuple #[.agg #[.int .i64 0, .int .u32 0, .int .u32 0, .int .i64 0, .int .i64 0, .string ⟨#[]⟩], .bool false]) ∧ Below w.heap.size w w' := hgt
          have cO := hOW.cell
          have lO' := hOW.lt
          go_wp2_with (first | (go_at_call 14; (with_reducible refine (to_any t.a t.b t.c _).mono ?_); rintro e w1 ⟨rfl, hb1⟩; have hO1 := hOW.below hb1 hOW.lt; have hE1 := hEW.below hb1 hEW.lt; have hb01 := hbW.trans (hb1.mono (Nat.le_of_lt hOW.lt))) | (go_at_call 13; (with_reducible refine (hgt _ _ (hCW.below hb1)).mono ?_); rintro e w2 ⟨rfl, hb2⟩; have hO2 := (hO1.below hb2 hO1.lt).alloc (.cells #[.int .i64 0, .int .u32 0, .int .u32 0, .int .i64 0, .int .i64 0, .string ⟨#[]⟩] 31); have hE2 := (hE1.below hb2 hE1.lt).alloc (.cells #[.int .i64 0, .int .u32 0, .int .u32 0, .int .i64 0, .int .i64 0, .string ⟨#[]⟩] 31); have cE2 := hE2.cell; have lE2 := hE2.lt; have hY := Blk.new w2 31 #[.int .i64 0, .int .u32 0, .int .u32 0, .int .i64 0, .int .i64 0, .string ⟨#[]⟩]; have cY := hY.cell; have hb02 := (hb01.trans (hb2.mono (Nat.le_of_lt hO1.lt))).alloc (Nat.le_of_lt (hO1.below hb2 hO1.lt).lt) (.cells #[.int .i64 0, .int .u32 0, .int .u32 0, .int .i64 0, .int .i64 0, .string ⟨#[]⟩] 31)) | (go_at_call 8; (with_reducible refine (chawake_any _).mono ?_); rintro e w3 ⟨rfl, hb3⟩; have hY3 := hY.below hb3 hY.lt; have cY3 := hY3.cell; have lY3 := hY3.lt; have hb03 := hb02.trans (hb3.mono (Nat.le_of_lt hO2.lt))))
          go_ret
          exact ⟨rfl, by rw [hq]; exact hb03⟩
        | true =>
          have cEW := hEW.cell
          by_cases h3 : best.kd = 3
          · have e1 : getV L t.k = none := by unfold getV; rw [hst]; simp [h3]
            rw [e1] at hgt
            have hgt : ∀ s w, Chn w s L → Calls Try.prog 13 #[s, .agg #[.int .i64 t.a, .int .u32 t.b, .int .u32 t.c]] w fun e w' => e = .returned (.tuple #[.agg #[.int .i64 0, .int .u32 0, .int .u32 0, .int .i64 0, .int .i64 0, .string ⟨#[]⟩], .bool false]) ∧ Below w.heap.size w w' := hgt
            have cO := hOW.cell
            have lO' := hOW.lt
            go_wp2_with (first | (go_at_call 14; (with_reducible refine (to_any t.a t.b t.c _).mono ?_); rintro e w1 ⟨rfl, hb1⟩; have hO1 := hOW.below hb1 hOW.lt; have hE1 := hEW.below hb1 hEW.lt; have hb01 := hbW.trans (hb1.mono (Nat.le_of_lt hOW.lt))) | (go_at_call 13; (with_reducible refine (hgt _ _ (hCW.below hb1)).mono ?_); rintro e w2 ⟨rfl, hb2⟩; have hO2 := (hO1.below hb2 hO1.lt).alloc (.cells #[.int .i64 0, .int .u32 0, .int .u32 0, .int .i64 0, .int .i64 0, .string ⟨#[]⟩] 31); have hE2 := (hE1.below hb2 hE1.lt).alloc (.cells #[.int .i64 0, .int .u32 0, .int .u32 0, .int .i64 0, .int .i64 0, .string ⟨#[]⟩] 31); have cE2 := hE2.cell; have lE2 := hE2.lt; have hY := Blk.new w2 31 #[.int .i64 0, .int .u32 0, .int .u32 0, .int .i64 0, .int .i64 0, .string ⟨#[]⟩]; have cY := hY.cell; have hb02 := (hb01.trans (hb2.mono (Nat.le_of_lt hO1.lt))).alloc (Nat.le_of_lt (hO1.below hb2 hO1.lt).lt) (.cells #[.int .i64 0, .int .u32 0, .int .u32 0, .int .i64 0, .int .i64 0, .string ⟨#[]⟩] 31)) | (go_at_call 8; (with_reducible refine (chawake_any _).mono ?_); rintro e w3 ⟨rfl, hb3⟩; have hY3 := hY.below hb3 hY.lt; have cY3 := hY3.cell; have lY3 := hY3.lt; have hb03 := hb02.trans (hb3.mono (Nat.le_of_lt hO2.lt))))
            go_ret
            exact ⟨rfl, by rw [hq]; exact hb03⟩
          · have e1 : getV L t.k = some best := by unfold getV; rw [hst]; simp [h3]
            rw [e1] at hgt
            have h3' : (best.kd == 3) = false := by simpa using h3
            have hgt : ∀ s w, Chn w s L → Calls Try.prog 13 #[s, .agg #[.int .i64 t.a, .int .u32 t.b, .int .u32 t.c]] w fun e w' => e = .returned (.tuple #[.agg #[.int .i64 best.a, .int .u32 best.b, .int .u32 best.c, .int .i64 best.kd, .int .i64 best.num, .string best.text], .bool true]) ∧ Below w.heap.size w w' := hgt
            have cO := hOW.cell
            have lO' := hOW.lt
            go_wp2_with (first | (go_at_call 14; (with_reducible refine (to_any t.a t.b t.c _).mono ?_); rintro e w1 ⟨rfl, hb1⟩; have hO1 := hOW.below hb1 hOW.lt; have hE1 := hEW.below hb1 hEW.lt; have hb01 := hbW.trans (hb1.mono (Nat.le_of_lt hOW.lt))) | (go_at_call 13; (with_reducible refine (hgt _ _ (hCW.below hb1)).mono ?_); rintro e w2 ⟨rfl, hb2⟩; have hO2 := (hO1.below hb2 hO1.lt).alloc (.cells (#[.int .i64 best.a, .int .u32 best.b, .int .u32 best.c, .int .i64 best.kd, .int .i64 best.num, .string best.text]) 31); have hE2 := (hE1.below hb2 hE1.lt).alloc (.cells (#[.int .i64 best.a, .int .u32 best.b, .int .u32 best.c, .int .i64 best.kd, .int .i64 best.num, .string best.text]) 31); have cE2 := hE2.cell; have lE2 := hE2.lt; have hY := Blk.new w2 31 (#[.int .i64 best.a, .int .u32 best.b, .int .u32 best.c, .int .i64 best.kd, .int .i64 best.num, .string best.text]); have cY := hY.cell; have hb02 := (hb01.trans (hb2.mono (Nat.le_of_lt hO1.lt))).alloc (Nat.le_of_lt (hO1.below hb2 hO1.lt).lt) (.cells (#[.int .i64 best.a, .int .u32 best.b, .int .u32 best.c, .int .i64 best.kd, .int .i64 best.num, .string best.text]) 31)))
            refine abstr (fun W => Below q w W ∧ Blk W (q + 1) 26 (#[.int .i64 best.a, .int .u32 best.b, .int .u32 best.c, .int .i64 best.kd, .int .i64 best.num, .string best.text]) ∧ Blk W w2.heap.size 31 (#[.int .i64 best.a, .int .u32 best.b, .int .u32 best.c, .int .i64 best.kd, .int .i64 best.num, .string best.text])) ⟨hb02, hE2, hY⟩ (fun W hW => ?_)
            clear hb02 hE2 hY cE2 lE2 cY
            obtain ⟨hb02, hE2, hY⟩ := hW
            generalize w2.heap.size = p2 at *
            have cE2 := hE2.cell
            have cY := hY.cell
            have lE2 := hE2.lt
            have lY := hY.lt
            refine wp_region_ext_lit (by kernel_rfl) (by kernel_rfl) ?_
            (repeat (first | ((with_reducible refine wpQuiet_step (fun K hK => ?_)); go_simp; first | ((with_reducible refine hK _ ?_); clear hK K) | (apply Exists.intro; (with_reducible refine ⟨fun _ => ?_, hK _ ?_⟩); first | (go_at_call 8; exact Calls.ext_of (chawake_any _)) | (go_at_call 16; exact Calls.ext_of (vfrom_any best _)); clear hK K)) | ((with_reducible refine quiet_skipN ?_ (fun K hK => ?_)); (rfl); go_simp; (with_reducible refine hK _ ?_); clear hK K)))
            (with_reducible refine wpQuiet_nil ?_); intro _ hw'; obtain ⟨Y, hw''⟩ := hw'; subst hw''
            go_wp2
            go_ret
            exact ⟨rfl, by rw [hq]; exact hb02.trans ((World.below_ext _ _).mono (by omega))⟩
end Go.Proofs.Ytghinjnhcepaeaa
