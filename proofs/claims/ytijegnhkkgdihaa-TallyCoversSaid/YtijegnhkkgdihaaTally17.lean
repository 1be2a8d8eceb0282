import Derived.Test.YtijegnhkkgdihaaTally16
import Derived.Test.YtijegnhkkgdihaaSkip
import Derived.Carry
/-! The law of what windows cover. -/
namespace Go.Proofs.Ytijegnhkkgdihaa
open Go.RowKit
set_option linter.unusedVariables false
set_option linter.unusedSimpArgs false
theorem within_snoc {l : List (Int × Int)} {i : Nat} {p : Int × Int} (hp : l[i]? = some p) (fr to : Int) : (within fr to (l.take (i + 1))).length = (within fr to (l.take i)).length + if fr ≤ p.1 ∧ p.1 < to then 1 else 0 := by
  unfold within
  rw [List.take_add_one, hp, List.filter_append, List.length_append]
  simp only [Option.toList, List.filter_cons, List.filter_nil, Bool.and_eq_true, decide_eq_true_eq]
  split <;> rfl
theorem sumC_take {l : List (Int × Int)} {i : Nat} {p : Int × Int} (hp : l[i]? = some p) : sumC (l.take (i + 1)) = sumC (l.take i) + p.2 := by
  rw [List.take_add_one, hp]
  exact sumC_snoc _ _
theorem sumC_bd : ∀ (l : List (Int × Int)), (∀ c ∈ l, 1 ≤ c.2 ∧ c.2 ≤ 300) → 0 ≤ sumC l ∧ sumC l ≤ 300 * l.length
  | [], _ => by simp [sumC]
  | q :: l, h => by
    have h1 := sumC_bd l (fun c hc => h c (by simp [hc]))
    have h2 := h q (by simp)
    simp only [sumC, List.length_cons]
    omega
set_option maxRecDepth 100000 in
set_option maxHeartbeats 8000000 in
theorem law_covers (A : Option Addr) (n c : Nat) (l : List (Int × Int)) (fr to step : Int) (w : World) (hr : Reads w w.heap.size 2 A n (smps l)) (hl : I64s l) (hn : n * 16 ≤ 140737488355328)
    (hfr : -9223372036854775808 ≤ fr ∧ fr ≤ 9223372036854775807) (hto : -9223372036854775808 ≤ to ∧ to ≤ 9223372036854775807) (hst : -9223372036854775808 ≤ step ∧ step ≤ 9223372036854775807) :
    Calls Try.prog 8 #[.slice A n c, .int .i64 fr, .int .i64 to, .int .i64 step] w fun e w' => e = .returned (.bool true) ∧ Below w.heap.size w w' := by
  have hlen : l.length = n := by have := hr.1; rw [smps_length] at this; omega
  go_enter Try.func8, Try.ntmps8
  go_wp2_with (go_at_call 13; refine Held.out ?_)
  unfold Held
  refine (rising_any A n c l w hr hn).mono ?_
  rintro e w1 ⟨b, rfl, hrise, hb1⟩
  have hs1 := hb1.size
  have hr1 := (hr.below hb1).more hs1
  have fin : ∀ w', Below w1.heap.size w1 w' → Below w.heap.size w w' := fun w' h => hb1.trans (h.mono hs1)
  by_cases hbig : b = false ∨ 300 < n
  · cases b with
    | false =>
      go_wp2_with (first | (go_at_call 12; with_reducible refine (awake_any _).mono ?_; rintro e w' ⟨rfl, hb⟩; obtain ⟨X, rfl⟩ := World.ext_of_below hb; clear hb))
      go_ret
      refine ⟨rfl, fin _ ?_⟩
      (repeat' (first | with_reducible exact Below.refl _ _ | with_reducible refine Below.ext ?_ ?_ _ | with_reducible refine Below.alloc ?_ ?_ _ | with_reducible refine Below.setCell ?_ ?_ _ | with_reducible refine Below.drew ?_ | with_reducible assumption | (simp [World.size_ext]; done) | (simp [World.size_ext]; omega)))
    | true =>
      have hbig' : 300 < n := by simpa using hbig
      have cn : decide (300 < (n : Int)) = true := by simp; omega
      go_wp2_with (first | (go_at_call 12; with_reducible refine (awake_any _).mono ?_; rintro e w' ⟨rfl, hb⟩; obtain ⟨X, rfl⟩ := World.ext_of_below hb; clear hb))
      go_ret
      refine ⟨rfl, fin _ ?_⟩
      (repeat' (first | with_reducible exact Below.refl _ _ | with_reducible refine Below.ext ?_ ?_ _ | with_reducible refine Below.alloc ?_ ?_ _ | with_reducible refine Below.setCell ?_ ?_ _ | with_reducible refine Below.drew ?_ | with_reducible assumption | (simp [World.size_ext]; done) | (simp [World.size_ext]; omega)))
  · obtain rfl : b = true := by cases b <;> simp at hbig ⊢
    have hn300 : n ≤ 300 := by simp at hbig; omega
    have cn : decide (300 < (n : Int)) = false := by simp; omega
    have hpw := fun A c w hr' hc => windows_any 2 A n c l fr to step w hr' hl (by omega) hn hc hfr hto hst
    have hcov := covers_law (hrise rfl) (by omega) fr to step
    have hclen := winsA_len 2 l fr to step
    obtain ⟨cs, er, hR⟩ : ∃ cs er, winsA 2 l fr to step = (cs, er) := ⟨_, _, rfl⟩
    rw [hR] at hpw hcov hclen
    clear hrise hbig hR
    rcases hcov with ⟨h1, h2⟩ | ⟨h1, h0, h2, h3, h4⟩
    · simp only at h1 h2
      subst h2
      have ce : (er != 0) = true := by simpa using h1
      go_wp2_with (first | (go_at_call 10; with_reducible refine (to_any _ _ _ _ _ hr1 hn).mono ?_; rintro e w2 ⟨v, rfl, ho, hb2⟩; obtain ⟨A2, cap2, rfl, hcap2⟩ := own_slice ho; have hq2 := Reads.of_own ho; have hs2 := hb2.size; clear ho; skip) | (go_at_call 14; with_reducible refine (hpw _ _ _ hq2 hcap2).mono ?_; rintro e w3 ⟨v, rfl, ho, hb3⟩; obtain ⟨A3, cap3, rfl, hcap3⟩ := own_slice ho; have hq3 := Reads.of_own ho; have hs3 := hb3.size; clear ho; skip) | (go_at_call 12; with_reducible refine (awake_any _).mono ?_; rintro e w' ⟨rfl, hb⟩; obtain ⟨X, rfl⟩ := World.ext_of_below hb; clear hb))
      have hb13 := hb2.trans (hb3.mono hs2)
      have hs13 := hb13.size
      go_ret
      refine ⟨by simp, fin _ ?_⟩
      clear hb2 hb3 hb1
      (repeat' (first | with_reducible exact Below.refl _ _ | with_reducible refine Below.ext ?_ ?_ _ | with_reducible refine Below.alloc ?_ ?_ _ | with_reducible refine Below.setCell ?_ ?_ _ | with_reducible refine Below.drew ?_ | with_reducible assumption | (simp [World.size_ext]; done) | (simp [World.size_ext]; omega)))
    · simp only at h1 h2 h3 h4 hclen
      subst h1
      have hb13f : ∀ w2 w3, Below w1.heap.size w1 w2 → Below w2.heap.size w2 w3 → Below w1.heap.size w1 w3 := fun w2 w3 h h' => h.trans (h'.mono h.size)
      go_wp2_with (first | (go_at_call 10; with_reducible refine (to_any _ _ _ _ _ hr1 hn).mono ?_; rintro e w2 ⟨v, rfl, ho, hb2⟩; obtain ⟨A2, cap2, rfl, hcap2⟩ := own_slice ho; have hq2 := Reads.of_own ho; have hs2 := hb2.size; clear ho; skip) | (go_at_call 14; with_reducible refine (hpw _ _ _ hq2 hcap2).mono ?_; rintro e w3 ⟨v, rfl, ho, hb3⟩; obtain ⟨A3, cap3, rfl, hcap3⟩ := own_slice ho; have hq3 := Reads.of_own ho; have hs3 := hb3.size; clear ho; (have hr3 : Reads w3 w3.heap.size 2 A n (smps l) := (hr1.below (hb13f _ _ hb2 hb3)).more (hb13f _ _ hb2 hb3).size)) | (go_at_call 12; with_reducible refine (awake_any _).mono ?_; rintro e w' ⟨rfl, hb⟩; obtain ⟨X, rfl⟩ := World.ext_of_below hb; clear hb))
      have hb03 : Below w1.heap.size w1 w3 := hb13f _ _ hb2 hb3
      have hs03 := hb03.size
      have fin3 : ∀ w', Below w3.heap.size w3 w' → Below w.heap.size w w' := fun w' h => fin _ (hb03.trans (h.mono hs03))
      clear fin hb13f hpw hr1 hr hb1 hb2 hb3 hq2 hb03 hs03
      have hwl : ∀ i, (within fr to (l.take i)).length ≤ 300 := fun i => by
        have h5 := List.length_filter_le (fun p : Int × Int => decide (fr ≤ p.1) && decide (p.1 < to)) (l.take i)
        rw [List.length_take] at h5
        unfold within
        omega
      go_loopw [11, 48] (fun vn vs wr => ∃ i : Nat, i ≤ n ∧ vs = .int .i64 (i : Int) ∧ vn = .int .i64 ((within fr to (l.take i)).length : Int) ∧ Below w3.heap.size w3 wr) (fun _ vs _ => ((n : Int) - intOf vs).toNat)
      case atStart => exact ⟨0, by omega, rfl, rfl, by (repeat' (first | with_reducible exact Below.refl _ _ | with_reducible refine Below.ext ?_ ?_ _ | with_reducible refine Below.alloc ?_ ?_ _ | with_reducible refine Below.setCell ?_ ?_ _ | with_reducible refine Below.drew ?_ | with_reducible assumption | (simp [World.size_ext]; done) | (simp [World.size_ext]; omega)))⟩
      case round =>
        obtain ⟨i, hi, rfl, rfl, hbel⟩ := hrel
        have hsz := hbel.size
        by_cases hlt : i < n
        · obtain ⟨p, hp⟩ : ∃ p, l[i]? = some p := ⟨l[i]'(by omega), List.getElem?_eq_getElem (by omega)⟩
          obtain ⟨b, o, rfl, hb, hc⟩ := hr3.plain (by omega) (by omega)
          have m1 : wr.cell? ⟨b, o + i * 2, none⟩ = some (.int .i64 p.1) := by rw [hbel.cell (p := ⟨b, _, none⟩) hb]; exact hc _ _ (smps_get l i p hp).1
          have m2 : wr.cell? ⟨b, o + i * 2 + 1, none⟩ = some (.int .i64 p.2) := by rw [hbel.cell (p := ⟨b, _, none⟩) hb, Nat.add_assoc]; exact hc _ _ (smps_get l i p hp).2
          have hT := within_snoc hp fr to
          have hwi := hwl i
          clear hc hp
          generalize (within fr to (l.take i)).length = t at *
          by_cases d1 : fr ≤ p.1
          · have c1 : decide (fr ≤ p.1) = true := by simpa using d1
            by_cases d2 : p.1 < to
            · have c2 : decide (p.1 < to) = true := by simpa using d2
              rw [if_pos ⟨d1, d2⟩] at hT
              have HT := hide hT
              have ew : wrap64 ((t : Int) + 1) = t + 1 := by unfold wrap64; omega
              clear hT d1 d2 h2 h3 h4 hwl hl
              go_wp2
              go_roundw
              case rel => exact ⟨i + 1, by omega, by go_num, by rw [HT.out]; go_num, by (repeat' (first | with_reducible exact Below.refl _ _ | with_reducible refine Below.ext ?_ ?_ _ | with_reducible refine Below.alloc ?_ ?_ _ | with_reducible refine Below.setCell ?_ ?_ _ | with_reducible refine Below.drew ?_ | with_reducible assumption | (simp [World.size_ext]; done) | (simp [World.size_ext]; omega)))⟩
              case measure => simp [intOf]; omega
            · have c2 : decide (p.1 < to) = false := by simpa using d2
              rw [if_neg (fun h => d2 h.2)] at hT
              have HT := hide hT
              clear hT d1 d2 h2 h3 h4 hwl hl
              go_wp2
              go_roundw
              case rel => exact ⟨i + 1, by omega, by go_num, by rw [HT.out]; go_num, by (repeat' (first | with_reducible exact Below.refl _ _ | with_reducible refine Below.ext ?_ ?_ _ | with_reducible refine Below.alloc ?_ ?_ _ | with_reducible refine Below.setCell ?_ ?_ _ | with_reducible refine Below.drew ?_ | with_reducible assumption | (simp [World.size_ext]; done) | (simp [World.size_ext]; omega)))⟩
              case measure => simp [intOf]; omega
          · have c1 : decide (fr ≤ p.1) = false := by simpa using d1
            rw [if_neg (fun h => d1 h.1)] at hT
            have HT := hide hT
            clear hT d1 h2 h3 h4 hwl hl
            go_wp2
            go_roundw
            case rel => exact ⟨i + 1, by omega, by go_num, by rw [HT.out]; go_num, by (repeat' (first | with_reducible exact Below.refl _ _ | with_reducible refine Below.ext ?_ ?_ _ | with_reducible refine Below.alloc ?_ ?_ _ | with_reducible refine Below.setCell ?_ ?_ _ | with_reducible refine Below.drew ?_ | with_reducible assumption | (simp [World.size_ext]; done) | (simp [World.size_ext]; omega)))⟩
            case measure => simp [intOf]; omega
        · obtain rfl : i = n := by omega
          have hwi := hwl i
          rw [List.take_of_length_le (by omega)] at hwi ⊢
          clear hlt hr3 hwl
          generalize (within fr to l).length = t at *
          obtain ⟨wo, rfl⟩ : ∃ wo : World, wo = wr := ⟨_, rfl⟩
          go_wp2
          have hsum : ∀ q, 0 ≤ sumC (cs.take q) ∧ sumC (cs.take q) ≤ 307200 := fun q => by
            have h5 := sumC_bd (cs.take q) (fun c hc => by have := (h2 c (List.mem_of_mem_take hc)).1; omega)
            rw [List.length_take] at h5
            omega
          go_loopw [11, 67] (fun vn vs wr => ∃ q : Nat, q ≤ cs.length ∧ vs = .int .i64 (q : Int) ∧ vn = .int .i64 ((t : Int) - sumC (cs.take q)) ∧ Below w3.heap.size w3 wr) (fun _ vs _ => ((cs.length : Int) - intOf vs).toNat)
          case atStart => exact ⟨0, by omega, rfl, by simp [sumC], hbel⟩
          case round =>
            clear hbel hsz
            obtain ⟨q, hq, rfl, rfl, hbel⟩ := hrel
            have hsz := hbel.size
            by_cases hlt2 : q < cs.length
            · obtain ⟨x, hx⟩ : ∃ x, cs[q]? = some x := ⟨cs[q]'(by omega), List.getElem?_eq_getElem (by omega)⟩
              obtain ⟨b, o, rfl, hb, hc⟩ := hq3.plain (by omega) (by omega)
              obtain ⟨⟨x1, x2⟩, x3, x4, x5⟩ := h2 x (List.mem_of_getElem? hx)
              have m1 : wr.cell? ⟨b, o + q * 2, none⟩ = some (.int .i64 x.1) := by rw [hbel.cell (p := ⟨b, _, none⟩) hb]; exact hc _ _ (smps_get cs q x hx).1
              have m2 : wr.cell? ⟨b, o + q * 2 + 1, none⟩ = some (.int .i64 x.2) := by rw [hbel.cell (p := ⟨b, _, none⟩) hb, Nat.add_assoc]; exact hc _ _ (smps_get cs q x hx).2
              have hS := hsum q
              have HT : Hid ((t : Int) - sumC (cs.take (q + 1)) = t - sumC (cs.take q) - x.2) := show _ = _ by rw [sumC_take hx]; omega
              have c1 : decide (x.2 < 1) = false := by simp; omega
              have c2 : decide (x.1 < fr) = false := by simp; omega
              have c3 : decide (to ≤ x.1) = false := by simp; omega
              have e1 : IntKind.i64.wrap (x.1 - fr) = x.1 - fr := IntWalk.i64_in _ (by omega)
              have e2 : (x.1 - fr).tmod step = 0 := by rw [Int.tmod_eq_emod_of_nonneg (by omega)]; exact x5
              have e3 : ¬step = 0 := by omega
              have e4 : (step == 0) = false := by simp; omega
              have e5 : wrap64 ((t : Int) - sumC (cs.take q) - x.2) = t - sumC (cs.take q) - x.2 := by unfold wrap64; omega
              clear hsum x5 hq3
              generalize hSq : sumC (cs.take q) = Sq at *
              clear hSq
              rcases Nat.eq_zero_or_pos q with hq0 | hq0
              · have c5 : decide ((0 : Int) < (q : Int)) = false := by simp only [decide_eq_false_iff_not]; omega
                have c6 : decide (0 < q) = false := by simp only [decide_eq_false_iff_not]; omega
                have hbw : b < wr.heap.size := by omega
                clear hq0
                clear hc hx h2 h3 h4
                go_wp2
                refine abstr (fun W => Below w3.heap.size w3 W ∧ (wr.heap.size < W.heap.size ∧ b < W.heap.size) ∧ W.cell? ⟨wr.heap.size, 0, none⟩ = some (.int .i64 x.1) ∧ W.cell? ⟨wr.heap.size, 1, none⟩ = some (.int .i64 x.2)) ⟨?_, ?_, ?_, ?_⟩ (fun W' hW => ?_)
                · (repeat' (first | with_reducible exact Below.refl _ _ | with_reducible refine Below.ext ?_ ?_ _ | with_reducible refine Below.alloc ?_ ?_ _ | with_reducible refine Below.setCell ?_ ?_ _ | with_reducible refine Below.drew ?_ | with_reducible assumption | (simp [World.size_ext]; done) | (simp [World.size_ext]; omega)))
                · constructor <;> go_simp <;> omega
                · go_simp
                · go_simp
                obtain ⟨hbW, ⟨hl1, hl2⟩, g1, g2⟩ := hW
                have hsW := hbW.size
                have HL : Hid (q < cs.length) := hlt2
                clear m1 m2 hbel hsz hlt2
                refine wp_region_ext_lit (by kernel_rfl) (by kernel_rfl) ?_
                (repeat (first | (with_reducible refine wpQuiet_step (fun K hK => ?_); go_simp; first | (with_reducible refine hK _ ?_; clear hK K) | (apply Exists.intro; with_reducible refine ⟨fun _ => ?_, hK _ ?_⟩; skip; clear hK K)) | (with_reducible refine quiet_skipN ?_ (fun K hK => ?_); (rfl); go_simp; with_reducible refine hK _ ?_; clear hK K)))
                refine wpQuiet_nil ?_; intro _ hw'; obtain ⟨Y, hw''⟩ := hw'; subst hw''
                go_wp2
                go_roundw
                case rel => exact ⟨q + 1, by have := HL.out; omega, by go_num, by rw [HT.out], by (repeat' (first | with_reducible exact Below.refl _ _ | with_reducible refine Below.ext ?_ ?_ _ | with_reducible refine Below.alloc ?_ ?_ _ | with_reducible refine Below.setCell ?_ ?_ _ | with_reducible refine Below.drew ?_ | with_reducible assumption | (simp [World.size_ext]; done) | (simp [World.size_ext]; omega)))⟩
                case measure => have := HL.out; simp [intOf]; omega
              · obtain ⟨m, rfl⟩ : ∃ m, q = m + 1 := ⟨q - 1, by omega⟩
                have hbw : b < wr.heap.size := by omega
                obtain ⟨y, hy⟩ : ∃ y, cs[m]? = some y := ⟨cs[m]'(by omega), List.getElem?_eq_getElem (by omega)⟩
                have hxy : y.1 < x.1 := by
                  have h5 := List.pairwise_iff_getElem.1 h3 m (m + 1) (by omega) (by omega) (by omega)
                  rw [List.getElem?_eq_getElem (by omega)] at hx hy
                  rw [Option.some.inj hx, Option.some.inj hy] at h5
                  exact h5
                have m3 : wr.cell? ⟨b, o + m * 2, none⟩ = some (.int .i64 y.1) := by rw [hbel.cell (p := ⟨b, _, none⟩) hb]; exact hc _ _ (smps_get cs m y hy).1
                have c4 : decide (x.1 ≤ y.1) = false := by simp; omega
                have c5 : decide ((0 : Int) < (m : Int) + 1) = true := by simp only [decide_eq_true_eq]; omega
                have c6 : (0 : Int) < (m : Int) + 1 := by omega
                have k1 : IntKind.i64.wrap (m : Int) = (m : Int) := IntWalk.i64_in _ (by omega)
                have k3 : (m : Int) < cs.length := by omega
                have k5 : m < cs.length := by omega
                clear hy hxy
                clear hc hx h2 h3 h4
                go_wp2
                refine abstr (fun W => Below w3.heap.size w3 W ∧ (wr.heap.size < W.heap.size ∧ b < W.heap.size) ∧ W.cell? ⟨wr.heap.size, 0, none⟩ = some (.int .i64 x.1) ∧ W.cell? ⟨wr.heap.size, 1, none⟩ = some (.int .i64 x.2) ∧ W.cell? ⟨b, o + m * 2, none⟩ = some (.int .i64 y.1)) ⟨?_, ?_, ?_, ?_, ?_⟩ (fun W' hW => ?_)
                · (repeat' (first | with_reducible exact Below.refl _ _ | with_reducible refine Below.ext ?_ ?_ _ | with_reducible refine Below.alloc ?_ ?_ _ | with_reducible refine Below.setCell ?_ ?_ _ | with_reducible refine Below.drew ?_ | with_reducible assumption | (simp [World.size_ext]; done) | (simp [World.size_ext]; omega)))
                · constructor <;> go_simp <;> omega
                · go_simp
                · go_simp
                · go_simp
                obtain ⟨hbW, ⟨hl1, hl2⟩, g1, g2, g3⟩ := hW
                have hsW := hbW.size
                have HL : Hid (m + 1 < cs.length) := hlt2
                clear m1 m2 m3 hbel hsz hlt2
                refine wp_region_ext_lit (by kernel_rfl) (by kernel_rfl) ?_
                (repeat (first | (with_reducible refine wpQuiet_step (fun K hK => ?_); go_simp; first | (with_reducible refine hK _ ?_; clear hK K) | (apply Exists.intro; with_reducible refine ⟨fun _ => ?_, hK _ ?_⟩; skip; clear hK K)) | (with_reducible refine quiet_skipN ?_ (fun K hK => ?_); (rfl); go_simp; with_reducible refine hK _ ?_; clear hK K)))
                refine wpQuiet_nil ?_; intro _ hw'; obtain ⟨Y, hw''⟩ := hw'; subst hw''
                go_wp2
                go_roundw
                case rel => exact ⟨m + 1 + 1, by have := HL.out; omega, by go_num, by rw [HT.out], by (repeat' (first | with_reducible exact Below.refl _ _ | with_reducible refine Below.ext ?_ ?_ _ | with_reducible refine Below.alloc ?_ ?_ _ | with_reducible refine Below.setCell ?_ ?_ _ | with_reducible refine Below.drew ?_ | with_reducible assumption | (simp [World.size_ext]; done) | (simp [World.size_ext]; omega)))⟩
                case measure => have := HL.out; simp [intOf]; omega
            · obtain rfl : q = cs.length := by omega
              rw [List.take_of_length_le (Nat.le_refl _), h4]
              have e : (t : Int) - t = 0 := by omega
              clear hlt2
              go_wp2
              go_ret
              exact ⟨by simp, fin3 _ hbel⟩
section
open Go.ChangeShapes Go.WideShapes Go.ChangeAt
variable {H : Type} {enc : TypeId × Value → H}
theorem tallyCovers_walk : LawWalkS enc Try.prog 8 Try.f8 := by
  intro W base args ds ps hval hA hlt _ hs
  rw [Try.params8] at hA hval hs
  obtain ⟨v0, v1, v2, v3, d0, d1, d2, d3, p0, p1, p2, p3, rfl, rfl, rfl, h0, h1, h2, h3⟩ := trodAll_four hA
  obtain ⟨A, n, c, l, rfl, hnc, hr, hl, hn⟩ := smps_open (hval 0 _ v0 rfl rfl) h0
  obtain ⟨fr, rfl, _, _, hfr⟩ := open_int Try.underlying2 (hval 1 _ v1 rfl rfl) h1
  obtain ⟨to, rfl, _, _, hto⟩ := open_int Try.underlying2 (hval 2 _ v2 rfl rfl) h2
  obtain ⟨step, rfl, _, _, hst⟩ := open_int Try.underlying2 (hval 3 _ v3 rfl rfl) h3
  simp [Lit.wf, IntKind.min, IntKind.max, IntKind.signed, IntKind.bits] at hfr hto hst
  have hn' := bound_of hs (j := 0) rfl rfl hn
  exact law_covers A n c l fr to step W hr hl (by omega) hfr hto hst
set_option maxRecDepth 100000 in
theorem tallyCovers_lifted (os : Os) (started : os.Started) (H : Type) (enc : TypeId × Value → H) :
    ReturnsInHanded {} Try.checked os 8 .any (Rows.tallyCoversSpec.pre6 enc Try.prog Try.f8 Rows.tallyCoversRow.domain false) (Rows.tallyCoversSpec.post enc Try.prog Try.f8 false true false false) :=
  law_lifted_sized (C := Try.checked) own started (by kernel_rfl) Try.func8 laidOut (by kernel_rfl) rfl Try.underlying4 rfl rfl
    (fun ds h => by obtain ⟨d0, d1, d2, d3, rfl⟩ := list4 h; rfl)
    (ChangeSpec.witness6 (enc := enc) (C := Try.checked) false ⟨#[], #[.slice none 0 0, .int .i64 0, .int .i64 0, .int .i64 0], []⟩ 8 (by kernel_rfl) (by kernel_rfl) (by kernel_rfl) (by kernel_rfl))
    tallyCovers_walk
theorem tallyCovers_holds : Rows.TallyCoversSaid :=
  OpenClaim.holds_of_wide 8 Try.f8 rfl rfl rfl rfl rfl rfl rfl ⟨rfl, rfl, rfl, rfl, rfl⟩ rfl rfl rfl rfl rfl (by kernel_rfl) Try.func8 (by kernel_rfl)
    (of_decide_eq_true (by kernel_rfl)) (by unfold Func.isWrapper; rw [if_neg (of_decide_eq_false (by kernel_rfl))]; exact ⟨rfl, rfl⟩)
    (fun os started H enc _ => tallyCovers_lifted os started H enc)
#print axioms tallyCovers_holds
end
end Go.Proofs.Ytijegnhkkgdihaa
