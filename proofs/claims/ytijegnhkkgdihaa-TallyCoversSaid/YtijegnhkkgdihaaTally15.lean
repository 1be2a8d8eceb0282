import Derived.Test.YtijegnhkkgdihaaTally14
import Derived.Test.YtijegnhkkgdihaaTally13
import Derived.Test.YtijegnhkkgdihaaTally11
/-! The law of windows. -/
namespace Go.Proofs.Ytijegnhkkgdihaa
open Go.RowKit
set_option linter.unusedVariables false
set_option linter.unusedSimpArgs false
theorem winP_len (op : Int) (l : List (Int × Int)) (to step : Int) : ∀ (f : Nat) (s : Int) (a : Nat) (out : List (Int × Int)), (winP op l to step f s a out).1.length ≤ out.length + f
  | 0, s, a, out => Nat.le_refl _
  | f + 1, s, a, out => by
    by_cases h : s < to
    · obtain ⟨e, he⟩ : ∃ e, e = if step < to - s then s + step else to := ⟨_, rfl⟩
      rw [winP_step h he rfl rfl]
      generalize adv l s a = a1
      generalize adv l e a1 = a2
      by_cases h1 : a1 = a2
      · rw [if_pos h1]
        by_cases h2 : e = to
        · rw [if_pos h2]; exact Nat.le_add_right _ _
        · rw [if_neg h2]
          have := winP_len op l to step f (s + step) a2 out
          omega
      · rw [if_neg h1]
        by_cases h2 : (foldA op (cut l a1 a2)).2.2 ≠ 0
        · rw [if_pos h2]; exact Nat.zero_le _
        · rw [if_neg h2]
          by_cases h3 : e = to
          · rw [if_pos h3]; simp
          · rw [if_neg h3]
            have := winP_len op l to step f (s + step) a2 (out ++ [(s, (foldA op (cut l a1 a2)).1)])
            simp at this
            omega
    · rw [winP_end h]
      simp
theorem winsA_len (op : Int) (l : List (Int × Int)) (fr to step : Int) : (winsA op l fr to step).1.length ≤ 1024 := by
  unfold winsA
  split
  · simp
  · split
    · simp
    · have := winP_len op l to step 1024 fr 0 []
      simpa using this
theorem below_of_ext {w w' : World} {X : Ext} (h : Below (w.ext X).heap.size (w.ext X) w') : Below w.heap.size w w' := by
  have h1 : Below w.heap.size w (w.ext X) := Below.ext (Below.refl _ _) (Nat.le_refl _) _
  exact h1.trans (h.mono h1.size)
set_option maxRecDepth 100000 in
set_option maxHeartbeats 4000000 in
theorem law_windows (op : Int) (A : Option Addr) (n c : Nat) (l : List (Int × Int)) (fr to step : Int) (w : World) (hr : Reads w w.heap.size 2 A n (smps l)) (hl : I64s l) (hop : -9223372036854775808 ≤ op ∧ op ≤ 9223372036854775807) (hn : n * 16 ≤ 140737488355328)
    (hfr : -9223372036854775808 ≤ fr ∧ fr ≤ 9223372036854775807) (hto : -9223372036854775808 ≤ to ∧ to ≤ 9223372036854775807) (hst : -9223372036854775808 ≤ step ∧ step ≤ 9223372036854775807) :
    Calls Try.prog 7 #[.int .i64 op, .slice A n c, .int .i64 fr, .int .i64 to, .int .i64 step] w fun e w' => e = .returned (.bool true) ∧ Below w.heap.size w w' := by
  have hlen := winsA_len op l fr to step
  go_enter Try.func7, Try.ntmps7
  go_wp2_with (go_at_call 13; refine Held.out ?_)
  unfold Held
  refine (rising_any A n c l w hr hn).mono ?_
  rintro e w1 ⟨b, rfl, hrise, hb1⟩
  have hs1 := hb1.size
  have hr1 := (hr.below hb1).more hs1
  by_cases hbig : b = false ∨ 300 < n
  · have cb : (!b || decide (300 < (n : Int))) = true := by cases b <;> simp at hbig ⊢; omega
    have fin : ∀ w', Below w1.heap.size w1 w' → Below w.heap.size w w' := fun w' h => hb1.trans (h.mono hs1)
    cases b with
    | false =>
      go_wp2_with (first | (go_at_call 10; with_reducible refine (to_any _ _ _ _ _ hr1 hn).mono ?_; rintro e w2 ⟨v, rfl, ho, hb2⟩; obtain ⟨A2, cap2, rfl, hcap2⟩ := own_slice ho; have hq2 := Reads.of_own ho; have hs2 := hb2.size; clear ho; skip) | (go_at_call 14; with_reducible refine (windows_any _ _ _ _ _ _ _ _ _ hq2 hl hop hn hcap2 hfr hto hst).mono ?_; rintro e w3 ⟨v, rfl, ho, hb3⟩; obtain ⟨A3, cap3, rfl, hcap3⟩ := own_slice ho; have hq3 := Reads.of_own ho; have hs3 := hb3.size; clear ho; skip) | (go_at_call 12; with_reducible refine (awake_any _).mono ?_; rintro e w' ⟨rfl, hb⟩; obtain ⟨X, rfl⟩ := World.ext_of_below hb; clear hb))
      have hb12 := hb2.trans (hb3.mono hs2)
      have hs12 := hb12.size
      go_ret
      refine ⟨rfl, fin _ ?_⟩
      (repeat' (first | with_reducible exact Below.refl _ _ | with_reducible refine Below.ext ?_ ?_ _ | with_reducible refine Below.alloc ?_ ?_ _ | with_reducible refine Below.setCell ?_ ?_ _ | with_reducible refine Below.drew ?_ | with_reducible assumption | (simp [World.size_ext]; done) | (simp [World.size_ext]; omega)))
    | true =>
      have hbig' : 300 < n := by simpa using hbig
      have cn : decide (300 < (n : Int)) = true := by simp; omega
      go_wp2_with (first | (go_at_call 10; with_reducible refine (to_any _ _ _ _ _ hr1 hn).mono ?_; rintro e w2 ⟨v, rfl, ho, hb2⟩; obtain ⟨A2, cap2, rfl, hcap2⟩ := own_slice ho; have hq2 := Reads.of_own ho; have hs2 := hb2.size; clear ho; skip) | (go_at_call 14; with_reducible refine (windows_any _ _ _ _ _ _ _ _ _ hq2 hl hop hn hcap2 hfr hto hst).mono ?_; rintro e w3 ⟨v, rfl, ho, hb3⟩; obtain ⟨A3, cap3, rfl, hcap3⟩ := own_slice ho; have hq3 := Reads.of_own ho; have hs3 := hb3.size; clear ho; skip) | (go_at_call 12; with_reducible refine (awake_any _).mono ?_; rintro e w' ⟨rfl, hb⟩; obtain ⟨X, rfl⟩ := World.ext_of_below hb; clear hb))
      have hb12 := hb2.trans (hb3.mono hs2)
      have hs12 := hb12.size
      go_ret
      refine ⟨rfl, fin _ ?_⟩
      (repeat' (first | with_reducible exact Below.refl _ _ | with_reducible refine Below.ext ?_ ?_ _ | with_reducible refine Below.alloc ?_ ?_ _ | with_reducible refine Below.setCell ?_ ?_ _ | with_reducible refine Below.drew ?_ | with_reducible assumption | (simp [World.size_ext]; done) | (simp [World.size_ext]; omega)))
  · obtain rfl : b = true := by cases b <;> simp at hbig ⊢
    have cn : decide (300 < (n : Int)) = false := by simp at hbig ⊢; omega
    have hrw := fun w hr' => rwindows_any op A n c l fr to step w hr' hl hop hn hfr hto hst
    rw [← wins_same op (hrise rfl)] at hrw
    obtain ⟨cs, er, hR⟩ : ∃ cs er, winsA op l fr to step = (cs, er) := ⟨_, _, rfl⟩
    have hpw := fun A c w hr' hc => windows_any op A n c l fr to step w hr' hl hop hn hc hfr hto hst
    rw [hR] at hrw hpw hlen
    clear hrise hbig
    have fin : ∀ w', Below w1.heap.size w1 w' → Below w.heap.size w w' := fun w' h => hb1.trans (h.mono hs1)
    go_wp2_with (first | (go_at_call 10; with_reducible refine (to_any _ _ _ _ _ hr1 hn).mono ?_; rintro e w2 ⟨v, rfl, ho, hb2⟩; obtain ⟨A2, cap2, rfl, hcap2⟩ := own_slice ho; have hq2 := Reads.of_own ho; have hs2 := hb2.size; clear ho; skip) | (go_at_call 14; with_reducible refine (hpw _ _ _ hq2 hcap2).mono ?_; rintro e w3 ⟨v, rfl, ho, hb3⟩; obtain ⟨A3, cap3, rfl, hcap3⟩ := own_slice ho; have hq3 := Reads.of_own ho; have hs3 := hb3.size; clear ho; (have hr3 : Reads w3 w3.heap.size 2 A n (smps l) := (hr1.below (hb2.trans (hb3.mono hs2))).more (by omega))) | (go_at_call 15; with_reducible refine (hrw _ hr3).mono ?_; rintro e w4 ⟨v, rfl, ho, hb4⟩; obtain ⟨A4, cap4, rfl, hcap4⟩ := own_slice ho; have hq4 := Reads.of_own ho; have hs4 := hb4.size; clear ho; (have hq34 := (hq3.below hb4).more hs4)) | (go_at_call 12; with_reducible refine (awake_any _).mono ?_; rintro e w' ⟨rfl, hb⟩; obtain ⟨X, rfl⟩ := World.ext_of_below hb; clear hb) | (go_at_call 17; with_reducible refine (from_any _ _ _ _ _ (hq34.grown _) (by omega)).mono ?_; rintro e w5 ⟨v, rfl, ho, hb5⟩; obtain ⟨A5, cap5, rfl, hcap5⟩ := own_slice ho; have hq5 := Reads.of_own ho; have hs5 := hb5.size; clear ho; (have hq45 := ((hq4.grown _).below hb5).more hs5)) | (go_at_call 16; with_reducible refine (same_any _ _ _ _ _ _ _ hq5 hq45 (by omega)).mono ?_; rintro e w' ⟨rfl, hb⟩; obtain ⟨X, rfl⟩ := World.ext_of_below hb; clear hb))
    have hb45 : Below w4.heap.size w4 w5 := below_of_ext hb5
    have hb24 : Below w1.heap.size w1 w4 := hb2.trans ((hb3.mono hs2).trans (hb4.mono (by omega)))
    have hb15 := hb24.trans (hb45.mono hb24.size)
    have hs15 := hb15.size
    go_ret
    refine ⟨rfl, fin _ ?_⟩
    clear hb24 hb45 hb2 hb3 hb4 hb1
    (repeat' (first | with_reducible exact Below.refl _ _ | with_reducible refine Below.ext ?_ ?_ _ | with_reducible refine Below.alloc ?_ ?_ _ | with_reducible refine Below.setCell ?_ ?_ _ | with_reducible refine Below.drew ?_ | with_reducible assumption | (simp [World.size_ext]; done) | (simp [World.size_ext]; omega)))
section
open Go.ChangeShapes Go.WideShapes Go.ChangeAt
variable {H : Type} {enc : TypeId × Value → H}
theorem trodAll_five {P : Program} {w : World} {base : Nat} {spare : Nat → Bool} {held : Bool} {t0 t1 t2 t3 t4 : TypeId} {args : Array Value} {ds : List (DataW H)} {ps : List MemPlace} (h : DataW.TrodAll enc P w base spare held [t0, t1, t2, t3, t4] args.toList ds ps) :
    ∃ v0 v1 v2 v3 v4 d0 d1 d2 d3 d4 p0 p1 p2 p3 p4, args = #[v0, v1, v2, v3, v4] ∧ ds = [d0, d1, d2, d3, d4] ∧ DataW.Trod enc P w base spare held t0 v0 d0 p0 ∧ DataW.Trod enc P w base spare held t1 v1 d1 p1 ∧ DataW.Trod enc P w base spare held t2 v2 d2 p2 ∧ DataW.Trod enc P w base spare held t3 v3 d3 p3 ∧ DataW.Trod enc P w base spare held t4 v4 d4 p4 := by
  obtain ⟨v0, r0, d0, e0, p0, q0, hargs, rfl, rfl, h0, k0⟩ := trodAll_cons h
  obtain ⟨v1, r1, d1, e1, p1, q1, rfl, rfl, rfl, h1, k1⟩ := trodAll_cons k0
  obtain ⟨v2, r2, d2, e2, p2, q2, rfl, rfl, rfl, h2, k2⟩ := trodAll_cons k1
  obtain ⟨v3, r3, d3, e3, p3, q3, rfl, rfl, rfl, h3, k3⟩ := trodAll_cons k2
  obtain ⟨v4, r4, d4, e4, p4, q4, rfl, rfl, rfl, h4, k4⟩ := trodAll_cons k3
  obtain ⟨rfl, rfl, rfl⟩ := trodAll_nil k4
  exact ⟨v0, v1, v2, v3, v4, d0, d1, d2, d3, d4, p0, p1, p2, p3, p4, by cases args; simp_all, rfl, h0, h1, h2, h3, h4⟩
theorem tallyWindows_walk : LawWalkS enc Try.prog 7 Try.f7 := by
  intro W base args ds ps hval hA hlt _ hs
  rw [Try.params7] at hA hval hs
  obtain ⟨v0, v1, v2, v3, v4, d0, d1, d2, d3, d4, p0, p1, p2, p3, p4, rfl, rfl, h0, h1, h2, h3, h4⟩ := trodAll_five hA
  obtain ⟨op, rfl, _, _, hop⟩ := open_int Try.underlying3 (hval 0 _ v0 rfl rfl) h0
  obtain ⟨A, n, c, l, rfl, hnc, hr, hl, hn⟩ := smps_open (hval 1 _ v1 rfl rfl) h1
  obtain ⟨fr, rfl, _, _, hfr⟩ := open_int Try.underlying2 (hval 2 _ v2 rfl rfl) h2
  obtain ⟨to, rfl, _, _, hto⟩ := open_int Try.underlying2 (hval 3 _ v3 rfl rfl) h3
  obtain ⟨step, rfl, _, _, hst⟩ := open_int Try.underlying2 (hval 4 _ v4 rfl rfl) h4
  simp [Lit.wf, IntKind.min, IntKind.max, IntKind.signed, IntKind.bits] at hop hfr hto hst
  have hn' := bound_of hs (j := 1) rfl rfl hn
  exact law_windows op A n c l fr to step W hr hl hop (by omega) hfr hto hst
set_option maxRecDepth 100000 in
theorem tallyWindows_lifted (os : Os) (started : os.Started) (H : Type) (enc : TypeId × Value → H) :
    ReturnsInHanded {} Try.checked os 7 .any (Rows.tallyWindowsSpec.pre6 enc Try.prog Try.f7 Rows.tallyWindowsRow.domain false) (Rows.tallyWindowsSpec.post enc Try.prog Try.f7 false true false false) :=
  law_lifted_sized (C := Try.checked) own started (by kernel_rfl) Try.func7 laidOut (by kernel_rfl) rfl Try.underlying4 rfl rfl
    (fun ds h => by obtain ⟨d0, d1, d2, d3, d4, rfl⟩ := list5 h; rfl)
    (ChangeSpec.witness6 (enc := enc) (C := Try.checked) false ⟨#[], #[.int .i64 0, .slice none 0 0, .int .i64 0, .int .i64 0, .int .i64 0], []⟩ 8 (by kernel_rfl) (by kernel_rfl) (by kernel_rfl) (by kernel_rfl))
    tallyWindows_walk
theorem tallyWindows_holds : Rows.TallyWindowsSaid :=
  OpenClaim.holds_of_wide 7 Try.f7 rfl rfl rfl rfl rfl rfl rfl ⟨rfl, rfl, rfl, rfl, rfl⟩ rfl rfl rfl rfl rfl (by kernel_rfl) Try.func7 (by kernel_rfl)
    (of_decide_eq_true (by kernel_rfl)) (by unfold Func.isWrapper; rw [if_neg (of_decide_eq_false (by kernel_rfl))]; exact ⟨rfl, rfl⟩)
    (fun os started H enc _ => tallyWindows_lifted os started H enc)
#print axioms tallyWindows_holds
end
end Go.Proofs.Ytijegnhkkgdihaa
