import Derived.Test.YtjhcgnmibnjocaaY32
import Derived.Test.YtjhcgnmibnjocaaY14
import Derived.Test.YtjhcgnmibnjocaaY23
/-! The law: a relay's epoch and what is sure never fall. -/
namespace Go.Proofs.Ytjhcgnmibnjocaa
open Go.RowKit Go.Maps
set_option linter.unusedVariables false
set_option linter.unusedSimpArgs false
theorem light_true {m : Mg} (h : lightP m = true) : m.log.length ≤ 30 ∧ m.v.l.length ≤ 20 ∧ ∀ x ∈ m.log, x.t.length ≤ 200 := by
  unfold lightP at h
  simp only [Bool.and_eq_true, Bool.not_eq_true', decide_eq_false_iff_not, List.all_eq_true, decide_eq_true_eq] at h
  exact ⟨by omega, by omega, h.2⟩
set_option maxRecDepth 100000 in
set_option maxHeartbeats 4000000 in
theorem law_relayRises (id : Int) (A : Option Addr) (n c : Nat) (l : List ROp) (w : World) (hid : I64 id) (hr : Reads w w.heap.size 14 A n (rowsV ROp.cells l)) (hok : ∀ x ∈ l, x.ok w) (hl : l.length = n) (hn : n ≤ 9223372036854775807) :
    Calls Try.prog 3 #[.int .i64 id, .slice A n c] w fun e w' => e = .returned (.bool true) ∧ Below w.heap.size w w' := by
  obtain ⟨k, hk, hk0⟩ : ∃ k : Int, wrap64 ((IntKind.u64.wrap id).tmod 8) = k ∧ (0 ≤ k ∧ k < 8) := by
    refine ⟨_, rfl, ?_⟩
    have h1 : IntKind.u64.wrap id = id % 18446744073709551616 := rfl
    have h2 : 0 ≤ IntKind.u64.wrap id := by rw [h1]; omega
    rw [Int.tmod_eq_emod_of_nonneg h2]
    unfold wrap64
    omega
  have hN := fun W => rnew_yes k W hk0
  have hbd : ∀ x ∈ l, x.ok w := hok
  go_enter Try.func3, Try.ntmps3
  go_upto_region 2 with fail
  rw [hk]
  go_wp2_with (first | (go_at_call 9; (with_reducible refine (hN _).mono ?_); rintro e w1 ⟨rfl, hX1, hb1⟩) | (go_at_call 10; (with_reducible refine (rawake_any _).mono ?_); rintro e w2 ⟨rfl, hb2⟩))
  have hR2 : Rly w2 w.heap.size (w.heap.size + 1) (newP k) := Rly.below ⟨_, _, ⟨newP_ok hk0, _, _, _, _, hX1⟩, fun k hk => by omega⟩ hb2
  have hb02 : Below w.heap.size w w2 := hb1.trans (hb2.mono hb1.size)
  have hf2 := new_fit k
  generalize w.heap.size + 1 = g at *
  clear hX1 hb1 hb2 hN
  go_loopw [33] (fun vi wr => ∃ (j : Nat) (r : Rl), j ≤ n ∧ vi = .int .i64 (j : Int) ∧ Rly wr w.heap.size g r ∧ Fit r ∧ r.id = k ∧ Below w.heap.size w wr) (fun vi _ => ((n : Int) - intOf vi).toNat)
  case atStart => exact ⟨0, newP k, by omega, rfl, hR2, hf2, rfl, hb02⟩
  case round =>
    clear hR2 hf2 hb02
    obtain ⟨j, r, hj, rfl, hR, hF, hid', hb⟩ := hrel
    obtain ⟨wo, rfl⟩ : ∃ wo : World, wo = wr := ⟨_, rfl⟩
    have hso := hb.size
    by_cases hlt : j < n
    · obtain ⟨b, o, rfl, hbb, hc⟩ := hr.plain (by omega) (by omega)
      obtain ⟨x, hx⟩ : ∃ x, l[j]? = some x := ⟨l[j]'(by omega), List.getElem?_eq_getElem (by omega)⟩
      have hxo := hok x (List.mem_of_getElem? hx)
      have hcell : ∀ k u, x.cells[k]? = some u → wo.cell? ⟨b, o + j * 14 + k, none⟩ = some u := fun k u hu => by
        rw [hb.cell (p := ⟨b, _, none⟩) hbb, Nat.add_assoc]
        exact hc _ _ (rowsV_get ROp.len l j x hx k u hu)
      have m0 := hcell 0 _ rfl
      have m1 := hcell 1 _ rfl
      have m2 := hcell 2 _ rfl
      have m3 := hcell 3 _ rfl
      have m4 := hcell 4 _ rfl
      have m5 := hcell 5 _ rfl
      have m6 := hcell 6 _ rfl
      have m7 := hcell 7 _ rfl
      have m8 := hcell 8 _ rfl
      have m9 := hcell 9 _ rfl
      have m10 := hcell 10 _ rfl
      have m11 := hcell 11 _ rfl
      have m12 := hcell 12 _ rfl
      have m13 := hcell 13 _ rfl
      rw [Nat.add_zero] at m0
      have hbw : b < wo.heap.size := by omega
      have hlj : (j : Int) < n := by omega
      clear hc hcell hx
      obtain ⟨kd, ⟨v, A1, c1⟩, u, t, f, ⟨m, A2, c2, B2, d2⟩⟩ := x
      obtain ⟨⟨hv1, hv2, hv3⟩, hU, hun, ⟨⟨hm1, hm2, hm3⟩, hE, hEn, hi⟩, hf⟩ := hxo
      simp only at hv1 hv2 hv3 hU hun hm1 hm2 hm3 hE hEn hi hf
      have hU0 := hU
      obtain ⟨uA, uc, rfl, _⟩ := hU0.ex
      clear hU0
      have hO := Blk.new wo 37 #[.int .i64 kd, .int .i64 v.e, .int .i64 v.p, .slice A1 v.l.length c1, .slice uA t.length uc, .int .i64 f, .int .i64 m.k, .int .i64 m.e, .int .i64 m.v.e, .int .i64 m.v.p, .slice A2 m.v.l.length c2, .int .i64 m.i, .int .i64 m.s, .slice B2 m.log.length d2]
      go_upto_region 8 with fail
      refine abstr (fun W => Below w.heap.size w W ∧ Rly W w.heap.size g r ∧ Blk W wo.heap.size 37 #[.int .i64 kd, .int .i64 v.e, .int .i64 v.p, .slice A1 v.l.length c1, .slice uA t.length uc, .int .i64 f, .int .i64 m.k, .int .i64 m.e, .int .i64 m.v.e, .int .i64 m.v.p, .slice A2 m.v.l.length c2, .int .i64 m.i, .int .i64 m.s, .slice B2 m.log.length d2]) ⟨hb.alloc hso _, hR.below (Below.alloc (Below.refl _ _) (Nat.le_refl _) _), hO⟩ (fun W hW => ?_)
      have hpw : w.heap.size ≤ wo.heap.size := hso
      clear hO m0 m1 m2 m3 m4 m5 m6 m7 m8 m9 m10 m11 m12 m13 hR hb hbb hbw hso
      generalize wo.heap.size = p at *
      obtain ⟨hbW, hRW, hOW⟩ := hW
      clear wo
      clear hok hbd hr hl hk
      have cO := hOW.cell
      have lO := hOW.lt
      have hkW := Kp.of_below (S := fun k => w.heap.size ≤ k) hbW
      have hLt := light_any m A2 c2 B2 d2 W (hE.kp hkW) hm3 hEn
      by_cases b1 : 50 ≤ j
      · have q1 : decide ((50 : Int) ≤ j) = true := by simp; omega
        go_wp2
        go_ret
        exact ⟨rfl, hbW⟩
      have q1 : decide ((50 : Int) ≤ j) = false := by simp; omega
      rcases hlp : lightP m with _ | _
      · rw [hlp] at hLt
        go_wp2_with (go_at_call 11; (with_reducible refine hLt.mono ?_); rintro e w3 ⟨rfl, hb3⟩)
        go_ret
        exact ⟨rfl, hbW.trans (hb3.mono hbW.size)⟩
      rw [hlp] at hLt
      by_cases b3 : 200 < t.length
      · have q3 : decide ((200 : Int) < t.length) = true := by simp; omega
        go_wp2_with (go_at_call 11; (with_reducible refine hLt.mono ?_); rintro e w3 ⟨rfl, hb3⟩; have cO3 := (hOW.below hb3 lO).cell; have lO3 := (hOW.below hb3 lO).lt)
        go_ret
        exact ⟨rfl, hbW.trans (hb3.mono hbW.size)⟩
      have q3 : decide ((200 : Int) < t.length) = false := by simp; omega
      by_cases b4 : 20 < v.l.length
      · have q4 : decide ((20 : Int) < v.l.length) = true := by simp; omega
        go_wp2_with (go_at_call 11; (with_reducible refine hLt.mono ?_); rintro e w3 ⟨rfl, hb3⟩; have cO3 := (hOW.below hb3 lO).cell; have lO3 := (hOW.below hb3 lO).lt)
        go_ret
        exact ⟨rfl, hbW.trans (hb3.mono hbW.size)⟩
      have q4 : decide ((20 : Int) < v.l.length) = false := by simp; omega
      go_upto_region 9 with (go_at_call 11; (with_reducible refine hLt.mono ?_); rintro e w3 ⟨rfl, hb3⟩; have cO3 := (hOW.below hb3 lO).cell; have lO3 := (hOW.below hb3 lO).lt)
      have hb3' := hbW.trans (hb3.mono hbW.size)
      have hR3 := hRW.below hb3
      have hO3 := hOW.below hb3 lO
      clear cO lO hkW hLt hb3 cO3 lO3 hbW hRW hOW W
      obtain ⟨S3, T3, hW3, hT3⟩ := hR3
      obtain ⟨hok3, Am3, cm3, vl3, mb3, hX3⟩ := hW3
      have hVw := rview_any w3 hX3 hok3
      have hW3 : RelW w3 S3 T3 g r := ⟨hok3, Am3, cm3, vl3, mb3, hX3⟩
      have hfd : ∀ (W : World) (v : Value), (Instr.field 39 (.agg #[.int .i64 r.v.e, .int .i64 r.v.p, v]) 0).run Try.prog W = .ok (.int .i64 r.v.e) W := fun _ _ => by kernel_rfl
      go_upto_region 10 with (first | (go_at_call 12; (with_reducible refine hVw.mono ?_); rintro e w4 ⟨⟨v4, rfl, ho4⟩, hb4⟩) | (go_at_call 13; (with_reducible refine (rsure_any w4 (hW3.below hb4)).mono ?_); rintro e w5 ⟨rfl, rfl⟩))
      refine abstr (fun W => Below w.heap.size w W ∧ RelW W S3 T3 g r ∧ Blk W p 37 #[.int .i64 kd, .int .i64 v.e, .int .i64 v.p, .slice A1 v.l.length c1, .slice uA t.length uc, .int .i64 f, .int .i64 m.k, .int .i64 m.e, .int .i64 m.v.e, .int .i64 m.v.p, .slice A2 m.v.l.length c2, .int .i64 m.i, .int .i64 m.s, .slice B2 m.log.length d2]) ⟨hb3'.trans (hb4.mono hb3'.size), hW3.below hb4, hO3.below hb4 hO3.lt⟩ (fun W hW => ?_)
      clear hVw ho4 hb4 hb3' hO3 hW3 hX3 hok3
      obtain ⟨hbW, hWW, hOW⟩ := hW
      have cO := hOW.cell
      have lO := hOW.lt
      have hkW := Kp.of_below (S := fun k => w.heap.size ≤ k) hbW
      have hsW := hbW.size
      by_cases k0 : kd = 0
      · subst k0
        have hto := vto_any v.e v.p A1 v.l.length c1 v.l W (Reads.kp hv1 (Kp.of_below (S := fun _ => False) hbW) (fun _ _ _ h => h)) (by omega)
        go_upto_region 20 with (first | (go_at_call 15; (with_reducible refine hto.mono ?_); rintro e w5 ⟨⟨v5, rfl, ho5⟩, hb5⟩; obtain ⟨A5, c5, rfl, _⟩ := own_sl ho5) | (go_at_call 14; (with_reducible refine (lead_any A5 c5 v w5 (hWW.below hb5) (Reads.of_own ho5) (fun h0 a ha hs => by have := (own_addr ho5 a ha).1; have := hWW.lt _ hs; omega) (by omega)).mono ?_); rintro e w6 hA6; obtain ⟨hRT, hb6, _, A6, n6, c6, rfl, _⟩ := hA6.rly (base := w.heap.size) (hWW.below hb5) hT3 (by have := hb5.size; omega)))
        have hbT := (hbW.trans (hb5.mono hsW)).trans hb6
        have hUp := lead_ups hF v
        clear ho5 hb5 hb6 hA6 hto
        generalize (leadP r v).r = r' at *
        refine abstr (fun W => Below w.heap.size w W ∧ Rly W w.heap.size g r') ⟨hbT, hRT⟩ (fun W' hW' => ?_)
        clear hbT hRT hkW cO lO hOW hWW hbW hv1 hm1 hE hU
        obtain ⟨hb6, S6, T6, hW6, hT6⟩ := hW'
        have hs6 := hb6.size
        have hW6' := hW6
        obtain ⟨hok6, Am6, cm6, vl6, mb6, hX6⟩ := hW6'
        have hVw := rview_any W' hX6 hok6
        have hfd : ∀ (W : World) (v : Value), (Instr.field 39 (.agg #[.int .i64 r'.v.e, .int .i64 r'.v.p, v]) 0).run Try.prog W = .ok (.int .i64 r'.v.e) W := fun _ _ => by kernel_rfl
        go_upto_region 21 with (go_at_call 12; (with_reducible refine hVw.mono ?_); rintro e w7 ⟨⟨v7, rfl, ho7⟩, hb7⟩; obtain ⟨A7, c7, rfl, _⟩ := own_sl ho7)
        refine abstr (fun W => Below w.heap.size w W ∧ RelW W S6 T6 g r' ∧ Blk W w7.heap.size 39 #[.int .i64 r'.v.e, .int .i64 r'.v.p, .slice A7 r'.v.l.length c7]) ⟨(hb6.trans (hb7.mono hs6)).alloc (by have := hb7.size; omega) _, (hW6.below hb7).below (Below.alloc (Below.refl _ _) (Nat.le_refl _) _), Blk.new _ _ _⟩ (fun W8 hW8 => ?_)
        clear hVw ho7 hb7 hW6 hX6 hok6 hb6
        generalize w7.heap.size = q at *
        obtain ⟨hb8, hW8, hV8⟩ := hW8
        have cV := hV8.cell
        have lV := hV8.lt
        have hW8' := hW8
        obtain ⟨hok8, Am8, cm8, vl8, mb8, hX8⟩ := hW8'
        have hLn := rlen_any W8 hX8
        have hSu := rsure_any W8 hW8
        have hAc := ractive_any W8 hW8
        have e1 : decide (r'.v.e < r.v.e) = false := by simpa using hUp.e
        have e2 : decide ((r'.sure : Int) < r.sure) = false := by have := hUp.s; simp; omega
        have e3 : decide ((r'.log.length : Int) < r'.sure) = false := by have := hUp.fit.s; simp; omega
        have e2' : decide (r'.sure < r.sure) = false := by have := hUp.s; simp; omega
        have e3' : decide (r'.log.length < r'.sure) = false := by have := hUp.fit.s; simp; omega
        rcases hac : r'.act with _ | _
        · rw [hac] at hAc
          go_wp2_with (first | (go_at_call 13; (with_reducible refine hSu.mono ?_); rintro e w9 ⟨rfl, rfl⟩) | (go_at_call 20; (with_reducible refine hLn.mono ?_); rintro e w9 ⟨rfl, rfl⟩) | (go_at_call 21; (with_reducible refine hAc.mono ?_); rintro e w9 ⟨rfl, rfl⟩))
          go_roundw
          case rel => exact ⟨j + 1, r', by omega, by go_num, ⟨S6, T6, hW8, hT6⟩, hUp.fit, hUp.id.trans hid', hb8⟩
          case measure => simp [intOf]; omega
        · rw [hac] at hAc
          have e4 : (r'.v.p != k) = false := by rw [hUp.fit.prim hac, hUp.id, hid']; simp
          go_wp2_with (first | (go_at_call 13; (with_reducible refine hSu.mono ?_); rintro e w9 ⟨rfl, rfl⟩) | (go_at_call 20; (with_reducible refine hLn.mono ?_); rintro e w9 ⟨rfl, rfl⟩) | (go_at_call 21; (with_reducible refine hAc.mono ?_); rintro e w9 ⟨rfl, rfl⟩))
          go_roundw
          case rel => exact ⟨j + 1, r', by omega, by go_num, ⟨S6, T6, hW8, hT6⟩, hUp.fit, hUp.id.trans hid', hb8⟩
          case measure => simp [intOf]; omega
      have k0' : (kd == 0) = false := by simpa using k0
      by_cases k1 : kd = 1
      · subst k1
        go_upto_region 20 with (go_at_call 16; (with_reducible refine (propose_any (.slice uA t.length uc) t W hWW (hU.kp hkW) (by omega)).mono ?_); rintro e w6 hA6; obtain ⟨hRT, hb6, _, A6, n6, c6, B6, n7, c7, rfl, _⟩ := hA6.rly (base := w.heap.size) hWW hT3 hsW)
        have hbT := hbW.trans hb6
        have hUp := propose_ups hF t
        clear hb6 hA6
        generalize (proposeP r t).r = r' at *
        refine abstr (fun W => Below w.heap.size w W ∧ Rly W w.heap.size g r') ⟨hbT, hRT⟩ (fun W' hW' => ?_)
        clear hbT hRT hkW cO lO hOW hWW hbW hv1 hm1 hE hU
        obtain ⟨hb6, S6, T6, hW6, hT6⟩ := hW'
        have hs6 := hb6.size
        have hW6' := hW6
        obtain ⟨hok6, Am6, cm6, vl6, mb6, hX6⟩ := hW6'
        have hVw := rview_any W' hX6 hok6
        have hfd : ∀ (W : World) (v : Value), (Instr.field 39 (.agg #[.int .i64 r'.v.e, .int .i64 r'.v.p, v]) 0).run Try.prog W = .ok (.int .i64 r'.v.e) W := fun _ _ => by kernel_rfl
        go_upto_region 21 with (go_at_call 12; (with_reducible refine hVw.mono ?_); rintro e w7 ⟨⟨v7, rfl, ho7⟩, hb7⟩; obtain ⟨A7, c7, rfl, _⟩ := own_sl ho7)
        refine abstr (fun W => Below w.heap.size w W ∧ RelW W S6 T6 g r' ∧ Blk W w7.heap.size 39 #[.int .i64 r'.v.e, .int .i64 r'.v.p, .slice A7 r'.v.l.length c7]) ⟨(hb6.trans (hb7.mono hs6)).alloc (by have := hb7.size; omega) _, (hW6.below hb7).below (Below.alloc (Below.refl _ _) (Nat.le_refl _) _), Blk.new _ _ _⟩ (fun W8 hW8 => ?_)
        clear hVw ho7 hb7 hW6 hX6 hok6 hb6
        generalize w7.heap.size = q at *
        obtain ⟨hb8, hW8, hV8⟩ := hW8
        have cV := hV8.cell
        have lV := hV8.lt
        have hW8' := hW8
        obtain ⟨hok8, Am8, cm8, vl8, mb8, hX8⟩ := hW8'
        have hLn := rlen_any W8 hX8
        have hSu := rsure_any W8 hW8
        have hAc := ractive_any W8 hW8
        have e1 : decide (r'.v.e < r.v.e) = false := by simpa using hUp.e
        have e2 : decide ((r'.sure : Int) < r.sure) = false := by have := hUp.s; simp; omega
        have e3 : decide ((r'.log.length : Int) < r'.sure) = false := by have := hUp.fit.s; simp; omega
        have e2' : decide (r'.sure < r.sure) = false := by have := hUp.s; simp; omega
        have e3' : decide (r'.log.length < r'.sure) = false := by have := hUp.fit.s; simp; omega
        rcases hac : r'.act with _ | _
        · rw [hac] at hAc
          go_wp2_with (first | (go_at_call 13; (with_reducible refine hSu.mono ?_); rintro e w9 ⟨rfl, rfl⟩) | (go_at_call 20; (with_reducible refine hLn.mono ?_); rintro e w9 ⟨rfl, rfl⟩) | (go_at_call 21; (with_reducible refine hAc.mono ?_); rintro e w9 ⟨rfl, rfl⟩))
          go_roundw
          case rel => exact ⟨j + 1, r', by omega, by go_num, ⟨S6, T6, hW8, hT6⟩, hUp.fit, hUp.id.trans hid', hb8⟩
          case measure => simp [intOf]; omega
        · rw [hac] at hAc
          have e4 : (r'.v.p != k) = false := by rw [hUp.fit.prim hac, hUp.id, hid']; simp
          go_wp2_with (first | (go_at_call 13; (with_reducible refine hSu.mono ?_); rintro e w9 ⟨rfl, rfl⟩) | (go_at_call 20; (with_reducible refine hLn.mono ?_); rintro e w9 ⟨rfl, rfl⟩) | (go_at_call 21; (with_reducible refine hAc.mono ?_); rintro e w9 ⟨rfl, rfl⟩))
          go_roundw
          case rel => exact ⟨j + 1, r', by omega, by go_num, ⟨S6, T6, hW8, hT6⟩, hUp.fit, hUp.id.trans hid', hb8⟩
          case measure => simp [intOf]; omega
      have k1' : (kd == 1) = false := by simpa using k1
      by_cases k2 : kd = 2
      · subst k2
        have hWW' := hWW
        obtain ⟨hok4, Am4, cm4, vl4, mb4, hX4⟩ := hWW'
        go_upto_region 20 with (go_at_call 17; (with_reducible refine (tick_any W hX4 hok4).mono ?_); rintro e w6 ⟨⟨A6, c6, rfl, _⟩, hb6⟩)
        have hbT := hbW.trans (hb6.mono hsW)
        obtain ⟨r', hrr⟩ : ∃ r', r' = r := ⟨_, rfl⟩
        have hRT : Rly w6 w.heap.size g r' := by rw [hrr]; exact ⟨S3, T3, hWW.below hb6, hT3⟩
        have hUp : Ups r r' := by rw [hrr]; exact Ups.refl hF
        clear hb6 hX4 hrr
        refine abstr (fun W => Below w.heap.size w W ∧ Rly W w.heap.size g r') ⟨hbT, hRT⟩ (fun W' hW' => ?_)
        clear hbT hRT hkW cO lO hOW hWW hbW hv1 hm1 hE hU
        obtain ⟨hb6, S6, T6, hW6, hT6⟩ := hW'
        have hs6 := hb6.size
        have hW6' := hW6
        obtain ⟨hok6, Am6, cm6, vl6, mb6, hX6⟩ := hW6'
        have hVw := rview_any W' hX6 hok6
        have hfd : ∀ (W : World) (v : Value), (Instr.field 39 (.agg #[.int .i64 r'.v.e, .int .i64 r'.v.p, v]) 0).run Try.prog W = .ok (.int .i64 r'.v.e) W := fun _ _ => by kernel_rfl
        go_upto_region 21 with (go_at_call 12; (with_reducible refine hVw.mono ?_); rintro e w7 ⟨⟨v7, rfl, ho7⟩, hb7⟩; obtain ⟨A7, c7, rfl, _⟩ := own_sl ho7)
        refine abstr (fun W => Below w.heap.size w W ∧ RelW W S6 T6 g r' ∧ Blk W w7.heap.size 39 #[.int .i64 r'.v.e, .int .i64 r'.v.p, .slice A7 r'.v.l.length c7]) ⟨(hb6.trans (hb7.mono hs6)).alloc (by have := hb7.size; omega) _, (hW6.below hb7).below (Below.alloc (Below.refl _ _) (Nat.le_refl _) _), Blk.new _ _ _⟩ (fun W8 hW8 => ?_)
        clear hVw ho7 hb7 hW6 hX6 hok6 hb6
        generalize w7.heap.size = q at *
        obtain ⟨hb8, hW8, hV8⟩ := hW8
        have cV := hV8.cell
        have lV := hV8.lt
        have hW8' := hW8
        obtain ⟨hok8, Am8, cm8, vl8, mb8, hX8⟩ := hW8'
        have hLn := rlen_any W8 hX8
        have hSu := rsure_any W8 hW8
        have hAc := ractive_any W8 hW8
        have e1 : decide (r'.v.e < r.v.e) = false := by simpa using hUp.e
        have e2 : decide ((r'.sure : Int) < r.sure) = false := by have := hUp.s; simp; omega
        have e3 : decide ((r'.log.length : Int) < r'.sure) = false := by have := hUp.fit.s; simp; omega
        have e2' : decide (r'.sure < r.sure) = false := by have := hUp.s; simp; omega
        have e3' : decide (r'.log.length < r'.sure) = false := by have := hUp.fit.s; simp; omega
        rcases hac : r'.act with _ | _
        · rw [hac] at hAc
          go_wp2_with (first | (go_at_call 13; (with_reducible refine hSu.mono ?_); rintro e w9 ⟨rfl, rfl⟩) | (go_at_call 20; (with_reducible refine hLn.mono ?_); rintro e w9 ⟨rfl, rfl⟩) | (go_at_call 21; (with_reducible refine hAc.mono ?_); rintro e w9 ⟨rfl, rfl⟩))
          go_roundw
          case rel => exact ⟨j + 1, r', by omega, by go_num, ⟨S6, T6, hW8, hT6⟩, hUp.fit, hUp.id.trans hid', hb8⟩
          case measure => simp [intOf]; omega
        · rw [hac] at hAc
          have e4 : (r'.v.p != k) = false := by rw [hUp.fit.prim hac, hUp.id, hid']; simp
          go_wp2_with (first | (go_at_call 13; (with_reducible refine hSu.mono ?_); rintro e w9 ⟨rfl, rfl⟩) | (go_at_call 20; (with_reducible refine hLn.mono ?_); rintro e w9 ⟨rfl, rfl⟩) | (go_at_call 21; (with_reducible refine hAc.mono ?_); rintro e w9 ⟨rfl, rfl⟩))
          go_roundw
          case rel => exact ⟨j + 1, r', by omega, by go_num, ⟨S6, T6, hW8, hT6⟩, hUp.fit, hUp.id.trans hid', hb8⟩
          case measure => simp [intOf]; omega
      have k2' : (kd == 2) = false := by simpa using k2
      by_cases k3 : kd = 3
      · subst k3
        obtain ⟨hl1, hl2, hl3⟩ := light_true hlp
        by_cases hcn : m.k = 1 ∧ m.log.length < r.sure
        · have x1 : (m.k == 1) = true := by simpa using hcn.1
          have x2 : decide ((m.log.length : Int) < r.sure) = true := by have := hcn.2; simp; omega
          have x2' : decide (m.log.length < r.sure) = true := by have := hcn.2; simp; omega
          go_wp2
          go_roundw
          case rel => exact ⟨j + 1, r, by omega, by go_num, ⟨S3, T3, hWW, hT3⟩, hF, hid', hbW⟩
          case measure => simp [intOf]; omega
        · have hs1 : m.k = 1 → r.sure ≤ m.log.length := fun h => by
            rcases Nat.lt_or_ge m.log.length r.sure with h' | h'
            · exact absurd ⟨h, h'⟩ hcn
            · exact h'
          by_cases x0 : m.k = 1
          · have x1 : (m.k == 1) = true := by simpa using x0
            have hs2 := hs1 x0
            have x2 : decide ((m.log.length : Int) < r.sure) = false := by simp; omega
            have x2' : decide (m.log.length < r.sure) = false := by simp; omega
            clear x0
            go_wp2
            refine First.wp_region_first_ext [2, 4] [0, 1, 3] [(true, false, 0), (true, false, 1), (true, true, 2), (true, false, 3), (true, true, 4), (false, true, 5), (false, false, 6)] (by kernel_rfl) (by kernel_rfl) (fun X => ?_); simp only [List.map_cons, List.map_nil, List.getD_cons_zero, List.getD_cons_succ]
            have hOX := hOW.ext X
            have hbX := World.below_ext W X
            have hEX := (((hE.kp hkW).kp (Kp.of_below hbX)).ents hl3)
            have hrX := Reads.kp (Reads.kp hm1 (Kp.of_below (S := fun _ => False) hbW) (fun _ _ _ h => h)) (Kp.of_below (S := fun _ => False) hbX) (fun _ _ _ h => h)
            have hWX := hWW.below hbX
            have hto := fun W h h' => to_any (T := fun k => w.heap.size ≤ k) m A2 c2 B2 d2 W h h' (by omega) (by omega)
            (repeat (first | (refine First.wpF_pure (fun K hK => ?_); go_simp; first | (refine hK _ _ ?_; clear hK K) | (apply Exists.intro; refine ⟨fun _ => ?_, hK _ _ ?_⟩; fail)) | (refine First.wpF_free (fun K hK => ?_); go_simp; first | (refine hK _ _ ?_; clear hK K))))
            refine First.wpF_must (fun K hK => ?_)
            go_wp2_with (go_at_call 19; (with_reducible refine (hto _ hrX hEX).mono ?_); rintro e w5 ⟨vm, vl, rfl, hM5, hb5⟩)
            have hgr5 : First.Grown _ w5 := World.ext_of_below hb5
            (refine hK _ _ (fun hnd => by first | exact Bool.noConfusion hnd | assumption | with_reducible exact grown_alloc _ _ | with_reducible exact First.Grown.refl _ | with_reducible exact First.Grown.cat _ _ _ | with_reducible exact First.Grown.ext _ _) ?_; clear hK K)
            have hW5 := hWX.below hb5
            have hM5' : MgW w5 S3 vm vl m := hM5.sub fun k _ hk => hWX.lt k hk
            (repeat (first | (refine First.wpF_pure (fun K hK => ?_); go_simp; first | (refine hK _ _ ?_; clear hK K) | (apply Exists.intro; refine ⟨fun _ => ?_, hK _ _ ?_⟩; fail)) | (refine First.wpF_free (fun K hK => ?_); go_simp; first | (refine hK _ _ ?_; clear hK K))))
            refine First.wpF_must (fun K hK => ?_)
            go_wp2_with (go_at_call 18; (with_reducible refine (take_any_r f m vm vl w5 hW5 hM5' (by omega)).mono ?_); rintro e w6 hA6; obtain ⟨hRT, hb6, _, A6, n6, c6, B6, n7, c7, rfl, _⟩ := hA6.rly (base := w.heap.size) hW5 hT3 (by have := hb5.size; have := hbX.size; omega))
            (refine hK _ _ (fun hnd => by first | exact Bool.noConfusion hnd | assumption | with_reducible exact grown_alloc _ _ | with_reducible exact First.Grown.refl _ | with_reducible exact First.Grown.cat _ _ _ | with_reducible exact First.Grown.ext _ _) ?_; clear hK K)
            refine First.wpF_nil ?_
            have hbT := ((hbW.trans (hbX.mono hsW)).trans (hb5.mono (by have := hbX.size; omega))).trans hb6
            have hUp := take_ups hF f m hs1
            clear hb6 hA6 hW5 hM5 hM5' hb5 hgr5 hto hWX hrX hEX hbX hOX
            generalize (takeP_ r f m).r = r' at *
            go_upto_region 20 with fail
            refine abstr (fun W => Below w.heap.size w W ∧ Rly W w.heap.size g r') ⟨hbT, hRT⟩ (fun W' hW' => ?_)
            clear hbT hRT hkW cO lO hOW hWW hbW hv1 hm1 hE hU
            obtain ⟨hb6, S6, T6, hW6, hT6⟩ := hW'
            have hs6 := hb6.size
            have hW6' := hW6
            obtain ⟨hok6, Am6, cm6, vl6, mb6, hX6⟩ := hW6'
            have hVw := rview_any W' hX6 hok6
            have hfd : ∀ (W : World) (v : Value), (Instr.field 39 (.agg #[.int .i64 r'.v.e, .int .i64 r'.v.p, v]) 0).run Try.prog W = .ok (.int .i64 r'.v.e) W := fun _ _ => by kernel_rfl
            go_upto_region 21 with (go_at_call 12; (with_reducible refine hVw.mono ?_); rintro e w7 ⟨⟨v7, rfl, ho7⟩, hb7⟩; obtain ⟨A7, c7, rfl, _⟩ := own_sl ho7)
            refine abstr (fun W => Below w.heap.size w W ∧ RelW W S6 T6 g r' ∧ Blk W w7.heap.size 39 #[.int .i64 r'.v.e, .int .i64 r'.v.p, .slice A7 r'.v.l.length c7]) ⟨(hb6.trans (hb7.mono hs6)).alloc (by have := hb7.size; omega) _, (hW6.below hb7).below (Below.alloc (Below.refl _ _) (Nat.le_refl _) _), Blk.new _ _ _⟩ (fun W8 hW8 => ?_)
            clear hVw ho7 hb7 hW6 hX6 hok6 hb6
            generalize w7.heap.size = q at *
            obtain ⟨hb8, hW8, hV8⟩ := hW8
            have cV := hV8.cell
            have lV := hV8.lt
            have hW8' := hW8
            obtain ⟨hok8, Am8, cm8, vl8, mb8, hX8⟩ := hW8'
            have hLn := rlen_any W8 hX8
            have hSu := rsure_any W8 hW8
            have hAc := ractive_any W8 hW8
            have e1 : decide (r'.v.e < r.v.e) = false := by simpa using hUp.e
            have e2 : decide ((r'.sure : Int) < r.sure) = false := by have := hUp.s; simp; omega
            have e3 : decide ((r'.log.length : Int) < r'.sure) = false := by have := hUp.fit.s; simp; omega
            have e2' : decide (r'.sure < r.sure) = false := by have := hUp.s; simp; omega
            have e3' : decide (r'.log.length < r'.sure) = false := by have := hUp.fit.s; simp; omega
            rcases hac : r'.act with _ | _
            · rw [hac] at hAc
              go_wp2_with (first | (go_at_call 13; (with_reducible refine hSu.mono ?_); rintro e w9 ⟨rfl, rfl⟩) | (go_at_call 20; (with_reducible refine hLn.mono ?_); rintro e w9 ⟨rfl, rfl⟩) | (go_at_call 21; (with_reducible refine hAc.mono ?_); rintro e w9 ⟨rfl, rfl⟩))
              go_roundw
              case rel => exact ⟨j + 1, r', by omega, by go_num, ⟨S6, T6, hW8, hT6⟩, hUp.fit, hUp.id.trans hid', hb8⟩
              case measure => simp [intOf]; omega
            · rw [hac] at hAc
              have e4 : (r'.v.p != k) = false := by rw [hUp.fit.prim hac, hUp.id, hid']; simp
              go_wp2_with (first | (go_at_call 13; (with_reducible refine hSu.mono ?_); rintro e w9 ⟨rfl, rfl⟩) | (go_at_call 20; (with_reducible refine hLn.mono ?_); rintro e w9 ⟨rfl, rfl⟩) | (go_at_call 21; (with_reducible refine hAc.mono ?_); rintro e w9 ⟨rfl, rfl⟩))
              go_roundw
              case rel => exact ⟨j + 1, r', by omega, by go_num, ⟨S6, T6, hW8, hT6⟩, hUp.fit, hUp.id.trans hid', hb8⟩
              case measure => simp [intOf]; omega
          · have x1 : (m.k == 1) = false := by simpa using x0
            go_wp2
            refine First.wp_region_first_ext [2, 4] [0, 1, 3] [(true, false, 0), (true, false, 1), (true, true, 2), (true, false, 3), (true, true, 4), (false, true, 5), (false, false, 6)] (by kernel_rfl) (by kernel_rfl) (fun X => ?_); simp only [List.map_cons, List.map_nil, List.getD_cons_zero, List.getD_cons_succ]
            have hOX := hOW.ext X
            have hbX := World.below_ext W X
            have hEX := (((hE.kp hkW).kp (Kp.of_below hbX)).ents hl3)
            have hrX := Reads.kp (Reads.kp hm1 (Kp.of_below (S := fun _ => False) hbW) (fun _ _ _ h => h)) (Kp.of_below (S := fun _ => False) hbX) (fun _ _ _ h => h)
            have hWX := hWW.below hbX
            have hto := fun W h h' => to_any (T := fun k => w.heap.size ≤ k) m A2 c2 B2 d2 W h h' (by omega) (by omega)
            (repeat (first | (refine First.wpF_pure (fun K hK => ?_); go_simp; first | (refine hK _ _ ?_; clear hK K) | (apply Exists.intro; refine ⟨fun _ => ?_, hK _ _ ?_⟩; fail)) | (refine First.wpF_free (fun K hK => ?_); go_simp; first | (refine hK _ _ ?_; clear hK K))))
            refine First.wpF_must (fun K hK => ?_)
            go_wp2_with (go_at_call 19; (with_reducible refine (hto _ hrX hEX).mono ?_); rintro e w5 ⟨vm, vl, rfl, hM5, hb5⟩)
            have hgr5 : First.Grown _ w5 := World.ext_of_below hb5
            (refine hK _ _ (fun hnd => by first | exact Bool.noConfusion hnd | assumption | with_reducible exact grown_alloc _ _ | with_reducible exact First.Grown.refl _ | with_reducible exact First.Grown.cat _ _ _ | with_reducible exact First.Grown.ext _ _) ?_; clear hK K)
            have hW5 := hWX.below hb5
            have hM5' : MgW w5 S3 vm vl m := hM5.sub fun k _ hk => hWX.lt k hk
            (repeat (first | (refine First.wpF_pure (fun K hK => ?_); go_simp; first | (refine hK _ _ ?_; clear hK K) | (apply Exists.intro; refine ⟨fun _ => ?_, hK _ _ ?_⟩; fail)) | (refine First.wpF_free (fun K hK => ?_); go_simp; first | (refine hK _ _ ?_; clear hK K))))
            refine First.wpF_must (fun K hK => ?_)
            go_wp2_with (go_at_call 18; (with_reducible refine (take_any_r f m vm vl w5 hW5 hM5' (by omega)).mono ?_); rintro e w6 hA6; obtain ⟨hRT, hb6, _, A6, n6, c6, B6, n7, c7, rfl, _⟩ := hA6.rly (base := w.heap.size) hW5 hT3 (by have := hb5.size; have := hbX.size; omega))
            (refine hK _ _ (fun hnd => by first | exact Bool.noConfusion hnd | assumption | with_reducible exact grown_alloc _ _ | with_reducible exact First.Grown.refl _ | with_reducible exact First.Grown.cat _ _ _ | with_reducible exact First.Grown.ext _ _) ?_; clear hK K)
            refine First.wpF_nil ?_
            have hbT := ((hbW.trans (hbX.mono hsW)).trans (hb5.mono (by have := hbX.size; omega))).trans hb6
            have hUp := take_ups hF f m hs1
            clear hb6 hA6 hW5 hM5 hM5' hb5 hgr5 hto hWX hrX hEX hbX hOX
            generalize (takeP_ r f m).r = r' at *
            go_upto_region 20 with fail
            refine abstr (fun W => Below w.heap.size w W ∧ Rly W w.heap.size g r') ⟨hbT, hRT⟩ (fun W' hW' => ?_)
            clear hbT hRT hkW cO lO hOW hWW hbW hv1 hm1 hE hU
            obtain ⟨hb6, S6, T6, hW6, hT6⟩ := hW'
            have hs6 := hb6.size
            have hW6' := hW6
            obtain ⟨hok6, Am6, cm6, vl6, mb6, hX6⟩ := hW6'
            have hVw := rview_any W' hX6 hok6
            have hfd : ∀ (W : World) (v : Value), (Instr.field 39 (.agg #[.int .i64 r'.v.e, .int .i64 r'.v.p, v]) 0).run Try.prog W = .ok (.int .i64 r'.v.e) W := fun _ _ => by kernel_rfl
            go_upto_region 21 with (go_at_call 12; (with_reducible refine hVw.mono ?_); rintro e w7 ⟨⟨v7, rfl, ho7⟩, hb7⟩; obtain ⟨A7, c7, rfl, _⟩ := own_sl ho7)
            refine abstr (fun W => Below w.heap.size w W ∧ RelW W S6 T6 g r' ∧ Blk W w7.heap.size 39 #[.int .i64 r'.v.e, .int .i64 r'.v.p, .slice A7 r'.v.l.length c7]) ⟨(hb6.trans (hb7.mono hs6)).alloc (by have := hb7.size; omega) _, (hW6.below hb7).below (Below.alloc (Below.refl _ _) (Nat.le_refl _) _), Blk.new _ _ _⟩ (fun W8 hW8 => ?_)
            clear hVw ho7 hb7 hW6 hX6 hok6 hb6
            generalize w7.heap.size = q at *
            obtain ⟨hb8, hW8, hV8⟩ := hW8
            have cV := hV8.cell
            have lV := hV8.lt
            have hW8' := hW8
            obtain ⟨hok8, Am8, cm8, vl8, mb8, hX8⟩ := hW8'
            have hLn := rlen_any W8 hX8
            have hSu := rsure_any W8 hW8
            have hAc := ractive_any W8 hW8
            have e1 : decide (r'.v.e < r.v.e) = false := by simpa using hUp.e
            have e2 : decide ((r'.sure : Int) < r.sure) = false := by have := hUp.s; simp; omega
            have e3 : decide ((r'.log.length : Int) < r'.sure) = false := by have := hUp.fit.s; simp; omega
            have e2' : decide (r'.sure < r.sure) = false := by have := hUp.s; simp; omega
            have e3' : decide (r'.log.length < r'.sure) = false := by have := hUp.fit.s; simp; omega
            rcases hac : r'.act with _ | _
            · rw [hac] at hAc
              go_wp2_with (first | (go_at_call 13; (with_reducible refine hSu.mono ?_); rintro e w9 ⟨rfl, rfl⟩) | (go_at_call 20; (with_reducible refine hLn.mono ?_); rintro e w9 ⟨rfl, rfl⟩) | (go_at_call 21; (with_reducible refine hAc.mono ?_); rintro e w9 ⟨rfl, rfl⟩))
              go_roundw
              case rel => exact ⟨j + 1, r', by omega, by go_num, ⟨S6, T6, hW8, hT6⟩, hUp.fit, hUp.id.trans hid', hb8⟩
              case measure => simp [intOf]; omega
            · rw [hac] at hAc
              have e4 : (r'.v.p != k) = false := by rw [hUp.fit.prim hac, hUp.id, hid']; simp
              go_wp2_with (first | (go_at_call 13; (with_reducible refine hSu.mono ?_); rintro e w9 ⟨rfl, rfl⟩) | (go_at_call 20; (with_reducible refine hLn.mono ?_); rintro e w9 ⟨rfl, rfl⟩) | (go_at_call 21; (with_reducible refine hAc.mono ?_); rintro e w9 ⟨rfl, rfl⟩))
              go_roundw
              case rel => exact ⟨j + 1, r', by omega, by go_num, ⟨S6, T6, hW8, hT6⟩, hUp.fit, hUp.id.trans hid', hb8⟩
              case measure => simp [intOf]; omega
      have k3' : (kd == 3) = false := by simpa using k3
      obtain ⟨r', hrr⟩ : ∃ r', r' = r := ⟨_, rfl⟩
      have hRT : Rly W w.heap.size g r' := by rw [hrr]; exact ⟨S3, T3, hWW, hT3⟩
      have hUp : Ups r r' := by rw [hrr]; exact Ups.refl hF
      have hbT := hbW
      clear hrr
      go_upto_region 20 with fail
      refine abstr (fun W => Below w.heap.size w W ∧ Rly W w.heap.size g r') ⟨hbT, hRT⟩ (fun W' hW' => ?_)
      clear hbT hRT hkW cO lO hOW hWW hbW hv1 hm1 hE hU
      obtain ⟨hb6, S6, T6, hW6, hT6⟩ := hW'
      have hs6 := hb6.size
      have hW6' := hW6
      obtain ⟨hok6, Am6, cm6, vl6, mb6, hX6⟩ := hW6'
      have hVw := rview_any W' hX6 hok6
      have hfd : ∀ (W : World) (v : Value), (Instr.field 39 (.agg #[.int .i64 r'.v.e, .int .i64 r'.v.p, v]) 0).run Try.prog W = .ok (.int .i64 r'.v.e) W := fun _ _ => by kernel_rfl
      go_upto_region 21 with (go_at_call 12; (with_reducible refine hVw.mono ?_); rintro e w7 ⟨⟨v7, rfl, ho7⟩, hb7⟩; obtain ⟨A7, c7, rfl, _⟩ := own_sl ho7)
      refine abstr (fun W => Below w.heap.size w W ∧ RelW W S6 T6 g r' ∧ Blk W w7.heap.size 39 #[.int .i64 r'.v.e, .int .i64 r'.v.p, .slice A7 r'.v.l.length c7]) ⟨(hb6.trans (hb7.mono hs6)).alloc (by have := hb7.size; omega) _, (hW6.below hb7).below (Below.alloc (Below.refl _ _) (Nat.le_refl _) _), Blk.new _ _ _⟩ (fun W8 hW8 => ?_)
      clear hVw ho7 hb7 hW6 hX6 hok6 hb6
      generalize w7.heap.size = q at *
      obtain ⟨hb8, hW8, hV8⟩ := hW8
      have cV := hV8.cell
      have lV := hV8.lt
      have hW8' := hW8
      obtain ⟨hok8, Am8, cm8, vl8, mb8, hX8⟩ := hW8'
      have hLn := rlen_any W8 hX8
      have hSu := rsure_any W8 hW8
      have hAc := ractive_any W8 hW8
      have e1 : decide (r'.v.e < r.v.e) = false := by simpa using hUp.e
      have e2 : decide ((r'.sure : Int) < r.sure) = false := by have := hUp.s; simp; omega
      have e3 : decide ((r'.log.length : Int) < r'.sure) = false := by have := hUp.fit.s; simp; omega
      have e2' : decide (r'.sure < r.sure) = false := by have := hUp.s; simp; omega
      have e3' : decide (r'.log.length < r'.sure) = false := by have := hUp.fit.s; simp; omega
      rcases hac : r'.act with _ | _
      · rw [hac] at hAc
        go_wp2_with (first | (go_at_call 13; (with_reducible refine hSu.mono ?_); rintro e w9 ⟨rfl, rfl⟩) | (go_at_call 20; (with_reducible refine hLn.mono ?_); rintro e w9 ⟨rfl, rfl⟩) | (go_at_call 21; (with_reducible refine hAc.mono ?_); rintro e w9 ⟨rfl, rfl⟩))
        go_roundw
        case rel => exact ⟨j + 1, r', by omega, by go_num, ⟨S6, T6, hW8, hT6⟩, hUp.fit, hUp.id.trans hid', hb8⟩
        case measure => simp [intOf]; omega
      · rw [hac] at hAc
        have e4 : (r'.v.p != k) = false := by rw [hUp.fit.prim hac, hUp.id, hid']; simp
        go_wp2_with (first | (go_at_call 13; (with_reducible refine hSu.mono ?_); rintro e w9 ⟨rfl, rfl⟩) | (go_at_call 20; (with_reducible refine hLn.mono ?_); rintro e w9 ⟨rfl, rfl⟩) | (go_at_call 21; (with_reducible refine hAc.mono ?_); rintro e w9 ⟨rfl, rfl⟩))
        go_roundw
        case rel => exact ⟨j + 1, r', by omega, by go_num, ⟨S6, T6, hW8, hT6⟩, hUp.fit, hUp.id.trans hid', hb8⟩
        case measure => simp [intOf]; omega
    · obtain rfl : j = n := by omega
      go_wp2
      go_ret
      exact ⟨rfl, hb⟩
section
open Go.ChangeShapes Go.WideShapes Go.ChangeAt
variable {H : Type} {enc : TypeId × Value → H}
set_option maxRecDepth 100000 in
theorem relayRises_walk : LawWalkS enc Try.prog 3 Try.f3 := by
  intro W base args ds ps hval hA hlt _ hs
  rw [Try.params3] at hA hval hs
  obtain ⟨v0, v1, d0, d1, p0, p1, rfl, rfl, rfl, h0, h1⟩ := trodAll_two hA
  obtain ⟨a, rfl, _, _, ha⟩ := open_int Try.underlying3 (hval 0 _ v0 rfl rfl) h0
  simp [Lit.wf, IntKind.min, IntKind.max, IntKind.signed, IntKind.bits] at ha
  obtain ⟨A, n, c, l, rfl, hnc, hcm, hr, hl, hok⟩ := rops_open (hval 1 _ v1 rfl rfl) h1 (weights_at hs (j := 1) rfl rfl)
  exact law_relayRises a A n c l W ha hr hok hl (by unfold maxLen at hcm; omega)
set_option maxRecDepth 100000 in
theorem relayRises_lifted (os : Os) (started : os.Started) (H : Type) (enc : TypeId × Value → H) :
    ReturnsInHanded {} Try.checked os 3 .any (Rows.relayRisesSpec.pre6 enc Try.prog Try.f3 Rows.relayRisesRow.domain false) (Rows.relayRisesSpec.post enc Try.prog Try.f3 false true false false) :=
  law_lifted_sized (C := Try.checked) own started (by kernel_rfl) Try.func3 laidOut (by kernel_rfl) rfl Try.underlying4 rfl rfl
    (fun ds h => by obtain ⟨d0, d1, rfl⟩ := list2 h; rfl)
    (ChangeSpec.witness6 (enc := enc) (C := Try.checked) false ⟨#[], #[.int .i64 0, .slice none 0 0], []⟩ 8 (by kernel_rfl) (by kernel_rfl) (by kernel_rfl) (by kernel_rfl))
    relayRises_walk
theorem relayRises_holds : Rows.RelayRisesSaid :=
  OpenClaim.holds_of_wide 3 Try.f3 rfl rfl rfl rfl rfl rfl rfl ⟨rfl, rfl, rfl, rfl, rfl⟩ rfl rfl rfl rfl rfl (by kernel_rfl) Try.func3 (by kernel_rfl)
    (of_decide_eq_true (by kernel_rfl)) (by unfold Func.isWrapper; rw [if_neg (of_decide_eq_false (by kernel_rfl))]; exact ⟨rfl, rfl⟩)
    (fun os started H enc _ => relayRises_lifted os started H enc)
#print axioms relayRises_holds
end
end Go.Proofs.Ytjhcgnmibnjocaa
