import Derived.Test.YtmfbidhnafpkdaaLw
/-! LabelOrders: how any two lists of labels stand is the document's answer, and the order is one line. Of any three lists. -/
namespace Go.Proofs.Ytmfbidhnafpkdaa
open Go.RowKit
set_option linter.unusedVariables false
set_option linter.unusedSimpArgs false
set_option maxRecDepth 100000 in
set_option maxHeartbeats 16000000 in
theorem law_orders (va vb vc : Value) (a b c : List Par) (w : World) (ha : Pz w va a) (hb : Pz w vb b) (hc : Pz w vc c) (hna : a.length * 32 ≤ 140737488355328) (hnb : b.length * 32 ≤ 140737488355328) (hnc : c.length * 32 ≤ 140737488355328) :
    Calls Try.prog 6 #[va, vb, vc] w fun e w' => e = .returned (.bool true) ∧ Below w.heap.size w w' := by
  have h1 := lto_any va a w ha hna
  have h2 := fun w1 (hw : Below w.heap.size w w1) => lto_any vb b w1 (hb.below hw) hnb
  have h3 := fun w1 (hw : Below w.heap.size w w1) => lto_any vc c w1 (hc.below hw) hnc
  have hR := fun w1 (hw : Below w.heap.size w w1) => rcompare_any va vb a b w1 (ha.below hw) (hb.below hw)
  have hC3 := fun w v1 v2 h1 h2 => pcompare_any v1 v2 a b w h1 h2
  have hC4 := fun w v1 v2 h1 h2 => pcompare_any v1 v2 b a w h1 h2
  have hC5 := fun w v1 v2 h1 h2 => pcompare_any v1 v2 b c w h1 h2
  have hC6 := fun w v1 v2 h1 h2 => pcompare_any v1 v2 a c w h1 h2
  rw [cmpL_swap a b] at hC4
  have hv := cmpL_vals a b
  have ht := cmpL_trans a b c
  obtain ⟨A1, c1, rfl⟩ := ha.shape
  obtain ⟨A2, c2, rfl⟩ := hb.shape
  obtain ⟨A3, c3, rfl⟩ := hc.shape
  generalize cmpL a b = p at *
  generalize cmpL b c = q at *
  generalize cmpL a c = r at *
  clear ha hb hc hna hnb hnc
  rcases hv with rfl | rfl | rfl
  · by_cases hq : 0 < q
    · have dq : decide (0 < q) = true := decide_eq_true hq
      clear hq ht
      go_enter Try.func6, Try.ntmps6
      go_wp2_with (first
        | (go_at_call 15; (with_reducible refine h1.mono ?_); rintro e w1 ⟨⟨u1, rfl, ho1⟩, hb1⟩; have hx := Pz.own ho1; obtain ⟨X1, d1, rfl⟩ := hx.shape; have hm2 := h2 w1 hb1)
        | (go_at_call 15; (with_reducible refine hm2.mono ?_); rintro e w2 ⟨⟨u2, rfl, ho2⟩, hb2⟩; have hy := Pz.own ho2; obtain ⟨X2, d2, rfl⟩ := hy.shape; have hb02 := hb1.trans (hb2.mono hb1.size); have hm3 := h3 w2 hb02)
        | (go_at_call 15; (with_reducible refine hm3.mono ?_); rintro e w3 ⟨⟨u3, rfl, ho3⟩, hb3⟩; have hz := Pz.own ho3; obtain ⟨X3, d3, rfl⟩ := hz.shape; have hb03 := hb02.trans (hb3.mono hb02.size); have hx3 := (hx.below hb2).below hb3; have hy3 := hy.below hb3; have hc1 := hC3 w3 _ _ hx3 hy3)
        | (go_at_call 28; (with_reducible refine hc1.mono ?_); rintro e w4 ⟨rfl, hb4⟩; have hb04 := hb03.trans (hb4.mono hb03.size); have hr1 := hR w4 hb04)
        | (go_at_call 29; (with_reducible refine hr1.mono ?_); rintro e w5 ⟨rfl, hb5⟩; have hb05 := hb04.trans (hb5.mono hb04.size); have hx5 := (hx3.below hb4).below hb5; have hy5 := (hy3.below hb4).below hb5; have hc2 := hC3 w5 _ _ hx5 hy5)
        | (go_at_call 28; (with_reducible refine hc2.mono ?_); rintro e w6 ⟨rfl, hb6⟩; have hb06 := hb05.trans (hb6.mono hb05.size); have hx6 := hx5.below hb6; have hy6 := hy5.below hb6; have hc3 := hC4 w6 _ _ hy6 hx6)
        | (go_at_call 28; (with_reducible refine hc3.mono ?_); rintro e w7 ⟨rfl, hb7⟩; have hb07 := hb06.trans (hb7.mono hb06.size))
        | (go_at_call 10; (with_reducible refine (lawake_any _).mono ?_); rintro e w8 ⟨rfl, hb8⟩; have hb08 := hb07.trans (hb8.mono hb07.size); have hx8 := (hx6.below hb7).below hb8; have hy8 := (hy6.below hb7).below hb8; have hz8 := ((((hz.below hb4).below hb5).below hb6).below hb7).below hb8; have hc4 := hC3 w8 _ _ hx8 hy8)
        | (go_at_call 28; (with_reducible refine hc4.mono ?_); rintro e w9 ⟨rfl, hb9⟩; have hb09 := hb08.trans (hb9.mono hb08.size); have hx9 := hx8.below hb9; have hy9 := hy8.below hb9; have hz9 := hz8.below hb9; have hc5 := hC5 w9 _ _ hy9 hz9)
        | (go_at_call 28; (with_reducible refine hc5.mono ?_); rintro e w10 ⟨rfl, hb10⟩; have hb010 := hb09.trans (hb10.mono hb09.size); have hc6 := hC6 w10 _ _ (hx9.below hb10) (hz9.below hb10))
        | (go_at_call 28; (with_reducible refine hc6.mono ?_); rintro e w11 ⟨rfl, hb11⟩; have hb011 := hb010.trans (hb11.mono hb010.size)))
      go_ret
      first | exact ⟨rfl, hb011⟩ | exact ⟨rfl, hb010⟩ | exact ⟨rfl, hb09⟩
    · have dq : decide (0 < q) = false := decide_eq_false hq
      have dr : decide (r ≤ 0) = true := decide_eq_true (ht (by omega) (by omega))
      clear hq ht
      go_enter Try.func6, Try.ntmps6
      go_wp2_with (first
        | (go_at_call 15; (with_reducible refine h1.mono ?_); rintro e w1 ⟨⟨u1, rfl, ho1⟩, hb1⟩; have hx := Pz.own ho1; obtain ⟨X1, d1, rfl⟩ := hx.shape; have hm2 := h2 w1 hb1)
        | (go_at_call 15; (with_reducible refine hm2.mono ?_); rintro e w2 ⟨⟨u2, rfl, ho2⟩, hb2⟩; have hy := Pz.own ho2; obtain ⟨X2, d2, rfl⟩ := hy.shape; have hb02 := hb1.trans (hb2.mono hb1.size); have hm3 := h3 w2 hb02)
        | (go_at_call 15; (with_reducible refine hm3.mono ?_); rintro e w3 ⟨⟨u3, rfl, ho3⟩, hb3⟩; have hz := Pz.own ho3; obtain ⟨X3, d3, rfl⟩ := hz.shape; have hb03 := hb02.trans (hb3.mono hb02.size); have hx3 := (hx.below hb2).below hb3; have hy3 := hy.below hb3; have hc1 := hC3 w3 _ _ hx3 hy3)
        | (go_at_call 28; (with_reducible refine hc1.mono ?_); rintro e w4 ⟨rfl, hb4⟩; have hb04 := hb03.trans (hb4.mono hb03.size); have hr1 := hR w4 hb04)
        | (go_at_call 29; (with_reducible refine hr1.mono ?_); rintro e w5 ⟨rfl, hb5⟩; have hb05 := hb04.trans (hb5.mono hb04.size); have hx5 := (hx3.below hb4).below hb5; have hy5 := (hy3.below hb4).below hb5; have hc2 := hC3 w5 _ _ hx5 hy5)
        | (go_at_call 28; (with_reducible refine hc2.mono ?_); rintro e w6 ⟨rfl, hb6⟩; have hb06 := hb05.trans (hb6.mono hb05.size); have hx6 := hx5.below hb6; have hy6 := hy5.below hb6; have hc3 := hC4 w6 _ _ hy6 hx6)
        | (go_at_call 28; (with_reducible refine hc3.mono ?_); rintro e w7 ⟨rfl, hb7⟩; have hb07 := hb06.trans (hb7.mono hb06.size))
        | (go_at_call 10; (with_reducible refine (lawake_any _).mono ?_); rintro e w8 ⟨rfl, hb8⟩; have hb08 := hb07.trans (hb8.mono hb07.size); have hx8 := (hx6.below hb7).below hb8; have hy8 := (hy6.below hb7).below hb8; have hz8 := ((((hz.below hb4).below hb5).below hb6).below hb7).below hb8; have hc4 := hC3 w8 _ _ hx8 hy8)
        | (go_at_call 28; (with_reducible refine hc4.mono ?_); rintro e w9 ⟨rfl, hb9⟩; have hb09 := hb08.trans (hb9.mono hb08.size); have hx9 := hx8.below hb9; have hy9 := hy8.below hb9; have hz9 := hz8.below hb9; have hc5 := hC5 w9 _ _ hy9 hz9)
        | (go_at_call 28; (with_reducible refine hc5.mono ?_); rintro e w10 ⟨rfl, hb10⟩; have hb010 := hb09.trans (hb10.mono hb09.size); have hc6 := hC6 w10 _ _ (hx9.below hb10) (hz9.below hb10))
        | (go_at_call 28; (with_reducible refine hc6.mono ?_); rintro e w11 ⟨rfl, hb11⟩; have hb011 := hb010.trans (hb11.mono hb010.size)))
      go_ret
      first | exact ⟨rfl, hb011⟩ | exact ⟨rfl, hb010⟩ | exact ⟨rfl, hb09⟩
  · by_cases hq : 0 < q
    · have dq : decide (0 < q) = true := decide_eq_true hq
      clear hq ht
      go_enter Try.func6, Try.ntmps6
      go_wp2_with (first
        | (go_at_call 15; (with_reducible refine h1.mono ?_); rintro e w1 ⟨⟨u1, rfl, ho1⟩, hb1⟩; have hx := Pz.own ho1; obtain ⟨X1, d1, rfl⟩ := hx.shape; have hm2 := h2 w1 hb1)
        | (go_at_call 15; (with_reducible refine hm2.mono ?_); rintro e w2 ⟨⟨u2, rfl, ho2⟩, hb2⟩; have hy := Pz.own ho2; obtain ⟨X2, d2, rfl⟩ := hy.shape; have hb02 := hb1.trans (hb2.mono hb1.size); have hm3 := h3 w2 hb02)
        | (go_at_call 15; (with_reducible refine hm3.mono ?_); rintro e w3 ⟨⟨u3, rfl, ho3⟩, hb3⟩; have hz := Pz.own ho3; obtain ⟨X3, d3, rfl⟩ := hz.shape; have hb03 := hb02.trans (hb3.mono hb02.size); have hx3 := (hx.below hb2).below hb3; have hy3 := hy.below hb3; have hc1 := hC3 w3 _ _ hx3 hy3)
        | (go_at_call 28; (with_reducible refine hc1.mono ?_); rintro e w4 ⟨rfl, hb4⟩; have hb04 := hb03.trans (hb4.mono hb03.size); have hr1 := hR w4 hb04)
        | (go_at_call 29; (with_reducible refine hr1.mono ?_); rintro e w5 ⟨rfl, hb5⟩; have hb05 := hb04.trans (hb5.mono hb04.size); have hx5 := (hx3.below hb4).below hb5; have hy5 := (hy3.below hb4).below hb5; have hc2 := hC3 w5 _ _ hx5 hy5)
        | (go_at_call 28; (with_reducible refine hc2.mono ?_); rintro e w6 ⟨rfl, hb6⟩; have hb06 := hb05.trans (hb6.mono hb05.size); have hx6 := hx5.below hb6; have hy6 := hy5.below hb6; have hc3 := hC4 w6 _ _ hy6 hx6)
        | (go_at_call 28; (with_reducible refine hc3.mono ?_); rintro e w7 ⟨rfl, hb7⟩; have hb07 := hb06.trans (hb7.mono hb06.size))
        | (go_at_call 10; (with_reducible refine (lawake_any _).mono ?_); rintro e w8 ⟨rfl, hb8⟩; have hb08 := hb07.trans (hb8.mono hb07.size); have hx8 := (hx6.below hb7).below hb8; have hy8 := (hy6.below hb7).below hb8; have hz8 := ((((hz.below hb4).below hb5).below hb6).below hb7).below hb8; have hc4 := hC3 w8 _ _ hx8 hy8)
        | (go_at_call 28; (with_reducible refine hc4.mono ?_); rintro e w9 ⟨rfl, hb9⟩; have hb09 := hb08.trans (hb9.mono hb08.size); have hx9 := hx8.below hb9; have hy9 := hy8.below hb9; have hz9 := hz8.below hb9; have hc5 := hC5 w9 _ _ hy9 hz9)
        | (go_at_call 28; (with_reducible refine hc5.mono ?_); rintro e w10 ⟨rfl, hb10⟩; have hb010 := hb09.trans (hb10.mono hb09.size); have hc6 := hC6 w10 _ _ (hx9.below hb10) (hz9.below hb10))
        | (go_at_call 28; (with_reducible refine hc6.mono ?_); rintro e w11 ⟨rfl, hb11⟩; have hb011 := hb010.trans (hb11.mono hb010.size)))
      go_ret
      first | exact ⟨rfl, hb011⟩ | exact ⟨rfl, hb010⟩ | exact ⟨rfl, hb09⟩
    · have dq : decide (0 < q) = false := decide_eq_false hq
      have dr : decide (r ≤ 0) = true := decide_eq_true (ht (by omega) (by omega))
      clear hq ht
      go_enter Try.func6, Try.ntmps6
      go_wp2_with (first
        | (go_at_call 15; (with_reducible refine h1.mono ?_); rintro e w1 ⟨⟨u1, rfl, ho1⟩, hb1⟩; have hx := Pz.own ho1; obtain ⟨X1, d1, rfl⟩ := hx.shape; have hm2 := h2 w1 hb1)
        | (go_at_call 15; (with_reducible refine hm2.mono ?_); rintro e w2 ⟨⟨u2, rfl, ho2⟩, hb2⟩; have hy := Pz.own ho2; obtain ⟨X2, d2, rfl⟩ := hy.shape; have hb02 := hb1.trans (hb2.mono hb1.size); have hm3 := h3 w2 hb02)
        | (go_at_call 15; (with_reducible refine hm3.mono ?_); rintro e w3 ⟨⟨u3, rfl, ho3⟩, hb3⟩; have hz := Pz.own ho3; obtain ⟨X3, d3, rfl⟩ := hz.shape; have hb03 := hb02.trans (hb3.mono hb02.size); have hx3 := (hx.below hb2).below hb3; have hy3 := hy.below hb3; have hc1 := hC3 w3 _ _ hx3 hy3)
        | (go_at_call 28; (with_reducible refine hc1.mono ?_); rintro e w4 ⟨rfl, hb4⟩; have hb04 := hb03.trans (hb4.mono hb03.size); have hr1 := hR w4 hb04)
        | (go_at_call 29; (with_reducible refine hr1.mono ?_); rintro e w5 ⟨rfl, hb5⟩; have hb05 := hb04.trans (hb5.mono hb04.size); have hx5 := (hx3.below hb4).below hb5; have hy5 := (hy3.below hb4).below hb5; have hc2 := hC3 w5 _ _ hx5 hy5)
        | (go_at_call 28; (with_reducible refine hc2.mono ?_); rintro e w6 ⟨rfl, hb6⟩; have hb06 := hb05.trans (hb6.mono hb05.size); have hx6 := hx5.below hb6; have hy6 := hy5.below hb6; have hc3 := hC4 w6 _ _ hy6 hx6)
        | (go_at_call 28; (with_reducible refine hc3.mono ?_); rintro e w7 ⟨rfl, hb7⟩; have hb07 := hb06.trans (hb7.mono hb06.size))
        | (go_at_call 10; (with_reducible refine (lawake_any _).mono ?_); rintro e w8 ⟨rfl, hb8⟩; have hb08 := hb07.trans (hb8.mono hb07.size); have hx8 := (hx6.below hb7).below hb8; have hy8 := (hy6.below hb7).below hb8; have hz8 := ((((hz.below hb4).below hb5).below hb6).below hb7).below hb8; have hc4 := hC3 w8 _ _ hx8 hy8)
        | (go_at_call 28; (with_reducible refine hc4.mono ?_); rintro e w9 ⟨rfl, hb9⟩; have hb09 := hb08.trans (hb9.mono hb08.size); have hx9 := hx8.below hb9; have hy9 := hy8.below hb9; have hz9 := hz8.below hb9; have hc5 := hC5 w9 _ _ hy9 hz9)
        | (go_at_call 28; (with_reducible refine hc5.mono ?_); rintro e w10 ⟨rfl, hb10⟩; have hb010 := hb09.trans (hb10.mono hb09.size); have hc6 := hC6 w10 _ _ (hx9.below hb10) (hz9.below hb10))
        | (go_at_call 28; (with_reducible refine hc6.mono ?_); rintro e w11 ⟨rfl, hb11⟩; have hb011 := hb010.trans (hb11.mono hb010.size)))
      go_ret
      first | exact ⟨rfl, hb011⟩ | exact ⟨rfl, hb010⟩ | exact ⟨rfl, hb09⟩
  · clear ht
    go_enter Try.func6, Try.ntmps6
    go_wp2_with (first
      | (go_at_call 15; (with_reducible refine h1.mono ?_); rintro e w1 ⟨⟨u1, rfl, ho1⟩, hb1⟩; have hx := Pz.own ho1; obtain ⟨X1, d1, rfl⟩ := hx.shape; have hm2 := h2 w1 hb1)
      | (go_at_call 15; (with_reducible refine hm2.mono ?_); rintro e w2 ⟨⟨u2, rfl, ho2⟩, hb2⟩; have hy := Pz.own ho2; obtain ⟨X2, d2, rfl⟩ := hy.shape; have hb02 := hb1.trans (hb2.mono hb1.size); have hm3 := h3 w2 hb02)
      | (go_at_call 15; (with_reducible refine hm3.mono ?_); rintro e w3 ⟨⟨u3, rfl, ho3⟩, hb3⟩; have hz := Pz.own ho3; obtain ⟨X3, d3, rfl⟩ := hz.shape; have hb03 := hb02.trans (hb3.mono hb02.size); have hx3 := (hx.below hb2).below hb3; have hy3 := hy.below hb3; have hc1 := hC3 w3 _ _ hx3 hy3)
      | (go_at_call 28; (with_reducible refine hc1.mono ?_); rintro e w4 ⟨rfl, hb4⟩; have hb04 := hb03.trans (hb4.mono hb03.size); have hr1 := hR w4 hb04)
      | (go_at_call 29; (with_reducible refine hr1.mono ?_); rintro e w5 ⟨rfl, hb5⟩; have hb05 := hb04.trans (hb5.mono hb04.size); have hx5 := (hx3.below hb4).below hb5; have hy5 := (hy3.below hb4).below hb5; have hc2 := hC3 w5 _ _ hx5 hy5)
      | (go_at_call 28; (with_reducible refine hc2.mono ?_); rintro e w6 ⟨rfl, hb6⟩; have hb06 := hb05.trans (hb6.mono hb05.size); have hx6 := hx5.below hb6; have hy6 := hy5.below hb6; have hc3 := hC4 w6 _ _ hy6 hx6)
      | (go_at_call 28; (with_reducible refine hc3.mono ?_); rintro e w7 ⟨rfl, hb7⟩; have hb07 := hb06.trans (hb7.mono hb06.size))
      | (go_at_call 10; (with_reducible refine (lawake_any _).mono ?_); rintro e w8 ⟨rfl, hb8⟩; have hb08 := hb07.trans (hb8.mono hb07.size); have hx8 := (hx6.below hb7).below hb8; have hy8 := (hy6.below hb7).below hb8; have hz8 := ((((hz.below hb4).below hb5).below hb6).below hb7).below hb8; have hc4 := hC3 w8 _ _ hx8 hy8)
      | (go_at_call 28; (with_reducible refine hc4.mono ?_); rintro e w9 ⟨rfl, hb9⟩; have hb09 := hb08.trans (hb9.mono hb08.size); have hx9 := hx8.below hb9; have hy9 := hy8.below hb9; have hz9 := hz8.below hb9; have hc5 := hC5 w9 _ _ hy9 hz9)
      | (go_at_call 28; (with_reducible refine hc5.mono ?_); rintro e w10 ⟨rfl, hb10⟩; have hb010 := hb09.trans (hb10.mono hb09.size); have hc6 := hC6 w10 _ _ (hx9.below hb10) (hz9.below hb10))
      | (go_at_call 28; (with_reducible refine hc6.mono ?_); rintro e w11 ⟨rfl, hb11⟩; have hb011 := hb010.trans (hb11.mono hb010.size)))
    go_ret
    first | exact ⟨rfl, hb011⟩ | exact ⟨rfl, hb010⟩ | exact ⟨rfl, hb09⟩
section
open Go.ChangeShapes Go.WideShapes Go.ChangeAt Go.Joins
variable {H : Type} {enc : TypeId × Value → H} {w : World} {base : Nat} {held : Bool} {spare : Nat → Bool}
set_option maxRecDepth 100000 in
theorem par_trod {fuel : Nat} {cs : List Value} {x : DataW H × List MemPlace} (h : DataW.trod enc Try.prog w base spare held fuel 50 cs = some x) : ∃ it : Par, cs = it.cells ∧ it.ok ∧ x.1 = .agg [.lit (.string it.a.data.toList), .lit (.string it.b.data.toList)] := by
  obtain ⟨xs, n, rfl, rfl, hl, hxl, hf⟩ := DataW.trod_struct Try.underlying50 h
  rw [show Try.prog.cellsOf 50 = 2 by kernel_rfl] at hl
  obtain ⟨v0, v1, rfl⟩ := list2 hl
  obtain ⟨y0, y1, rfl⟩ := list2 hxl
  have q5 : Try.prog.cellsOf 9 = 1 := by kernel_rfl
  have g0 := hf 0 _ rfl
  have g1 := hf 1 _ rfl
  simp [q5] at g0
  simp [q5] at g1
  obtain ⟨a0, e0, rfl, w0⟩ := DataW.trod_string Try.underlying9 g0
  obtain ⟨a1, e1, rfl, w1⟩ := DataW.trod_string Try.underlying9 g1
  simp at e0 e1
  subst e0 e1
  exact ⟨⟨a0, a1⟩, rfl, ⟨w0, w1⟩, by simp⟩
set_option maxRecDepth 100000 in
theorem pars_open {W : World} {base : Nat} {d : DataW H} {p : List MemPlace} {v : Value} (hv : Value.okWide Try.prog W .any base 24 v) (h : DataW.Trod enc Try.prog W 0 (fun _ => true) true 24 v d p) :
    ∃ l, Pz W v l ∧ (∀ x ∈ l, x.ok) ∧ (l = [] ∨ ∃ es sp, d = .slice es sp ∧ es.length = l.length ∧ ∀ (i : Nat) (x : Par), l[i]? = some x → es[i]? = some (.agg [.lit (.string x.a.data.toList), .lit (.string x.b.data.toList)])) := by
  obtain ⟨A, n, c, rfl⟩ := okWide_slice Try.underlying24 hv
  obtain ⟨fuel, hf⟩ := h
  rcases Deep.open_slice Try.underlying24 hf with ⟨hcs, hx⟩ | ⟨a, len, cap, m, k, D, Pl, hcs, _, hle, hcap, hmm, hx, hcell⟩
  · simp [Value.cells] at hcs
    obtain ⟨rfl, rfl, rfl⟩ := hcs
    exact ⟨[], Pz.nil _, (fun q hq => by cases hq), .inl rfl⟩
  · simp [Value.cells] at hcs
    obtain ⟨rfl, rfl, rfl⟩ := hcs
    simp only [if_true] at hmm
    have hd : d = .slice ((List.range n).map D) ((List.range (m - n)).map fun j => D (n + j)) := congrArg Prod.fst hx
    have hint : ∀ i, i < n → ∃ q : Par, (∀ k u, q.cells[k]? = some u → W.cell? (a.add (i * 2 + k)) = some u) ∧ q.ok ∧ D i = .agg [.lit (.string q.a.data.toList), .lit (.string q.b.data.toList)] := fun i hi => by
      obtain ⟨cs', h1, h2⟩ := hcell i (by omega)
      rw [show Try.prog.cellsOf 50 = 2 by kernel_rfl] at h1
      obtain ⟨_, hlen, hc⟩ := World.cells?_some h1
      obtain ⟨q, rfl, hq, hD⟩ := par_trod h2
      refine ⟨q, fun k u hu => ?_, hq, hD⟩
      have hk : k < 2 := (List.getElem?_eq_some_iff.1 hu).1
      have := hc k hk
      rw [add_of_add] at this
      rw [this, hu]
    obtain ⟨f, hf⟩ := Deep.choose_lt hint
    refine ⟨(List.range n).map f, ⟨some a, c, by simp, by simp; omega, by omega, (fun e => by cases e), ⟨by rw [psV_length], fun hn => ⟨a, rfl, ?_, fun j u hu => ?_⟩⟩⟩, fun q hq => ?_, .inr ⟨_, _, hd, by simp, fun i x hx => ?_⟩⟩
    · have hn' : 0 < n := by simpa using hn
      have := World.block_lt_of_cell? _ _ ((hf 0 hn').1 0 _ rfl)
      rwa [block_of_add] at this
    · have hn' : 0 < n := by simpa using hn
      obtain ⟨i, k, hi, hk, rfl, hc⟩ := rowsV_row Par.len (by omega) n f j u hu
      exact (hf i hi).1 k u hc
    · obtain ⟨i, hi, rfl⟩ := List.mem_map.1 hq
      exact (hf i (by simpa using hi)).2.1
    · have hi : i < n := by have := (List.getElem?_eq_some_iff.1 hx).1; simpa using this
      rw [List.getElem?_map, List.getElem?_range hi] at hx ⊢
      cases hx
      rw [Option.map_some, (hf i hi).2.2]
theorem par_bytes : Try.prog.bytesOf 50 = 32 := by kernel_rfl
theorem pars_weight {d : DataW H} {l : List Par} (hw : ∀ z ∈ d.weights Try.prog 24, z ≤ reachBytes) (hn : l = [] ∨ ∃ es sp, d = .slice es sp ∧ es.length = l.length ∧ ∀ (i : Nat) (x : Par), l[i]? = some x → es[i]? = some (.agg [.lit (.string x.a.data.toList), .lit (.string x.b.data.toList)])) : l.length * 32 ≤ 140737488351232 := by
  rcases hn with rfl | ⟨es, sp, rfl, hle, _⟩
  · simp
  · have := hw ((es.length + sp.length) * 32) (by simp [DataW.weights, Try.underlying24, par_bytes])
    have h2 : reachBytes = 140737488351232 := by decide
    omega
set_option maxRecDepth 100000 in
theorem labelOrders_walk : LawWalkS enc Try.prog 6 Try.f6 := by
  intro W base args ds ps hval hA hlt _ hs
  rw [Try.params6] at hA hval hs
  obtain ⟨v0, v1, v2, d0, d1, d2, p0, p1, p2, rfl, rfl, rfl, h0, h1, h2⟩ := trodAll_three hA
  obtain ⟨a, ha, _, ka⟩ := pars_open (hval 0 _ v0 rfl rfl) h0
  obtain ⟨b, hb, _, kb⟩ := pars_open (hval 1 _ v1 rfl rfl) h1
  obtain ⟨c, hc, _, kc⟩ := pars_open (hval 2 _ v2 rfl rfl) h2
  have na := pars_weight (weights_at hs (j := 0) rfl rfl) ka
  have nb := pars_weight (weights_at hs (j := 1) rfl rfl) kb
  have nc := pars_weight (weights_at hs (j := 2) rfl rfl) kc
  exact law_orders v0 v1 v2 a b c W ha hb hc (by omega) (by omega) (by omega)
set_option maxRecDepth 100000 in
theorem labelOrders_lifted (os : Os) (started : os.Started) (H : Type) (enc : TypeId × Value → H) :
    ReturnsInHanded {} Try.checked os 6 .any (Rows.labelOrdersSpec.pre6 enc Try.prog Try.f6 Rows.labelOrdersRow.domain false) (Rows.labelOrdersSpec.post enc Try.prog Try.f6 false true false false) :=
  law_lifted_sized (C := Try.checked) own started (by kernel_rfl) Try.func6 laidOut (by kernel_rfl) rfl Try.underlying4 rfl rfl
    (fun ds h => by obtain ⟨d0, d1, d2, rfl⟩ := list3 h; rfl)
    (ChangeSpec.witness6 (enc := enc) (C := Try.checked) false ⟨#[], #[.slice none 0 0, .slice none 0 0, .slice none 0 0], []⟩ 8 (by kernel_rfl) (by kernel_rfl) (by kernel_rfl) (by kernel_rfl))
    labelOrders_walk
theorem labelOrders_holds : Rows.LabelOrdersSaid :=
  OpenClaim.holds_of_wide 6 Try.f6 rfl rfl rfl rfl rfl rfl rfl ⟨rfl, rfl, rfl, rfl, rfl⟩ rfl rfl rfl rfl rfl (by kernel_rfl) Try.func6 (by kernel_rfl)
    (of_decide_eq_true (by kernel_rfl)) (by unfold Func.isWrapper; rw [if_neg (of_decide_eq_false (by kernel_rfl))]; exact ⟨rfl, rfl⟩)
    (fun os started H enc _ => labelOrders_lifted os started H enc)
#print axioms labelOrders_holds
end
end Go.Proofs.Ytmfbidhnafpkdaa
