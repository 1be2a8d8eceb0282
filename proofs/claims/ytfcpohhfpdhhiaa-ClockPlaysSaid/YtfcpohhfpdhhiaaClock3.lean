import Derived.Test.YtfcpohhfpdhhiaaClock2
/-! Clocks: the program's calls. -/
namespace Go.Proofs.Ytfcpohhfpdhhiaa
open Go.RowKit
set_option linter.unusedVariables false
set_option linter.unusedSimpArgs false
theorem set_any' (g : Nat) (k : Ck) (a b c : Int) (r : Ans) (hr : setP k a b = r) (w : World) (hk : Blk w g 58 k.cells) :
    Calls Try.prog 25 #[.pointer (some ⟨g, 0, none⟩), .agg #[.int .i64 a, .int .u32 b, .int .u32 c]] w fun e w' => e = .returned (.tuple #[.agg #[.int .i64 (r).x, .int .u32 (r).y, .int .u32 (r).z], .int .i64 r.e]) ∧ Blk w' g 58 r.k.cells ∧ Only w w' g := by
  subst hr
  exact set_any g k a b c w hk
theorem up_any (g : Nat) (phys : Int) (w : World) :
    Calls Try.prog 24 #[.pointer (some ⟨g, 0, none⟩), .int .i64 phys] w fun e w' => e = .returned (.int .i64 (if badP phys then 1 else 0)) ∧ Below w.heap.size w w' := by
  by_cases h : badP phys
  · rw [if_pos h]
    unfold badP at h
    by_cases h1 : phys < 0
    · go_enter Try.func24, Try.ntmps24
      go_wp2
      go_ret
      exact ⟨rfl, by (repeat' (first | with_reducible exact Below.refl _ _ | with_reducible refine Below.ext ?_ ?_ _ | with_reducible refine Below.alloc ?_ ?_ _ | with_reducible refine Below.setCell ?_ ?_ _ | with_reducible refine Below.drew ?_ | with_reducible assumption | (simp [World.size_ext]; done) | (simp [World.size_ext]; omega)))⟩
    · have h2 : 4611686018427387904 < phys := by omega
      go_enter Try.func24, Try.ntmps24
      go_wp2
      go_ret
      exact ⟨rfl, by (repeat' (first | with_reducible exact Below.refl _ _ | with_reducible refine Below.ext ?_ ?_ _ | with_reducible refine Below.alloc ?_ ?_ _ | with_reducible refine Below.setCell ?_ ?_ _ | with_reducible refine Below.drew ?_ | with_reducible assumption | (simp [World.size_ext]; done) | (simp [World.size_ext]; omega)))⟩
  · rw [if_neg h]
    unfold badP at h
    have h1 : ¬phys < 0 := by omega
    have h2 : ¬4611686018427387904 < phys := by omega
    go_enter Try.func24, Try.ntmps24
    go_wp2
    go_ret
    exact ⟨rfl, by (repeat' (first | with_reducible exact Below.refl _ _ | with_reducible refine Below.ext ?_ ?_ _ | with_reducible refine Below.alloc ?_ ?_ _ | with_reducible refine Below.setCell ?_ ?_ _ | with_reducible refine Below.drew ?_ | with_reducible assumption | (simp [World.size_ext]; done) | (simp [World.size_ext]; omega)))⟩
set_option maxRecDepth 100000 in
set_option maxHeartbeats 400000 in
theorem now_any (g : Nat) (k : Ck) (phys : Int) (w : World) (hk : Blk w g 58 k.cells) (hok : k.ok) :
    Calls Try.prog 9 #[.pointer (some ⟨g, 0, none⟩), .int .i64 phys] w fun e w' => e = .returned (.tuple #[.agg #[.int .i64 (nowP k phys).x, .int .u32 (nowP k phys).y, .int .u32 (nowP k phys).z], .int .i64 (nowP k phys).e]) ∧ Blk w' g 58 (nowP k phys).k.cells ∧ Only w w' g := by
  have l0 := Blk.lt hk
  have hne : g ≠ w.heap.size := by omega
  have hne' : w.heap.size ≠ g := by omega
  have hup := fun w' => up_any g phys w'
  by_cases h1 : badP phys
  · have e1 : nowP k phys = ⟨0, 0, 0, 1, k⟩ := by unfold nowP; rw [if_pos h1]
    rw [e1]
    simp only [if_pos h1] at hup
    have hup := hup (w.alloc (.cells #[.int .i64 0, .int .u32 0, .int .u32 0] 30))
    have hW := Blk.alloc hk (.cells #[.int .i64 0, .int .u32 0, .int .u32 0] 30); have hR := Blk.new w 30 #[.int .i64 0, .int .u32 0, .int .u32 0]; have hb0 : Below w.heap.size w (w.alloc (.cells #[.int .i64 0, .int .u32 0, .int .u32 0] 30)) := Below.alloc (Below.refl _ _) (Nat.le_refl _) _
    go_enter Try.func9, Try.ntmps9
    go_wp2_with (go_at_call 24; (with_reducible refine hup.mono ?_); rintro e w1 ⟨rfl, hb1⟩; have hk1 := Blk.below hW hb1 (Blk.lt hW); have hR1 := Blk.below hR hb1 (Blk.lt hR); have c1 := Blk.cell hk1; have f1 := Blk.frozen hk1; have l1 := Blk.lt hk1; have d1 := Blk.cell hR1; have g1 := Blk.frozen hR1; have m1 := Blk.lt hR1; have hb01 := hb0.trans (hb1.mono (by simp)))
    refine bodyPost_cell_tmp Try.results9 rfl (Blk.three hR1) Try.underlying30 rfl (by kernel_rfl) rfl ⟨rfl, ?_, ?_⟩
    · exact Blk.far (Blk.far (Blk.far hk1 (p := ⟨w.heap.size, 0, none⟩) hne _) (p := ⟨w.heap.size, 1, none⟩) hne _) (p := ⟨w.heap.size, 2, none⟩) hne _
    · have h0 : Only w w1 g := Only.of_below hb01
      (repeat' (first | with_reducible exact h0 | with_reducible exact Only.refl _ _ | with_reducible refine Only.set_ ?_ ?_ _ | with_reducible refine Only.alloc ?_ _ | with_reducible refine Only.ext ?_ _ | exact .inl rfl | (right; first | omega | (simp [World.size_ext]; done) | (simp [World.size_ext]; omega))))
  · simp only [if_neg h1] at hup
    have hup := hup (w.alloc (.cells #[.int .i64 0, .int .u32 0, .int .u32 0] 30))
    have q0 : (k.cells)[0]? = some (.int .i64 k.a) := rfl; have q1 : (k.cells)[1]? = some (.int .u32 k.b) := rfl; have q2 : (k.cells)[2]? = some (.int .u32 k.c) := rfl; have q3 : (k.cells)[3]? = some (.int .i64 k.off) := rfl; have q4 : (k.cells)[4]? = some (.int .i64 k.up) := rfl; have q5 : (k.cells)[5]? = some (.int .u32 k.mark) := rfl
    by_cases h2 : k.a < phys
    · have e1 : nowP k phys = setP k phys 0 := by unfold nowP giveP; rw [if_neg h1, if_pos h2]
      rw [e1]
      generalize hr : setP k phys 0 = r
      have hW := Blk.alloc hk (.cells #[.int .i64 0, .int .u32 0, .int .u32 0] 30); have hR := Blk.new w 30 #[.int .i64 0, .int .u32 0, .int .u32 0]; have hb0 : Below w.heap.size w (w.alloc (.cells #[.int .i64 0, .int .u32 0, .int .u32 0] 30)) := Below.alloc (Below.refl _ _) (Nat.le_refl _) _
      go_enter Try.func9, Try.ntmps9
      go_wp2_with (first | (go_at_call 24; (with_reducible refine hup.mono ?_); rintro e w1 ⟨rfl, hb1⟩; have hk1 := Blk.below hW hb1 (Blk.lt hW); have hR1 := Blk.below hR hb1 (Blk.lt hR); have c1 := Blk.cell hk1; have f1 := Blk.frozen hk1; have l1 := Blk.lt hk1; have d1 := Blk.cell hR1; have g1 := Blk.frozen hR1; have m1 := Blk.lt hR1; have hb01 := hb0.trans (hb1.mono (by simp))) | (go_at_call 25; (with_reducible refine (set_any' _ k _ _ _ r hr _ hk1).mono ?_); rintro e w2 ⟨rfl, hk2, ho2⟩; have hR2 := Blk.only hR1 ho2 hne'; have c2 := Blk.cell hk2; have f2 := Blk.frozen hk2; have d2 := Blk.cell hR2; have g2 := Blk.frozen hR2; have m2 := Blk.lt hR2; clear c1 f1 d1 g1))
      refine bodyPost_cell_tmp Try.results9 rfl (Blk.three hR2) Try.underlying30 rfl (by kernel_rfl) rfl ⟨rfl, ?_, ?_⟩
      · exact Blk.far (Blk.far (Blk.far hk2 (p := ⟨w.heap.size, 0, none⟩) hne _) (p := ⟨w.heap.size, 1, none⟩) hne _) (p := ⟨w.heap.size, 2, none⟩) hne _
      · have h0 : Only w w2 g := (Only.of_below hb01).trans ho2
        (repeat' (first | with_reducible exact h0 | with_reducible exact Only.refl _ _ | with_reducible refine Only.set_ ?_ ?_ _ | with_reducible refine Only.alloc ?_ _ | with_reducible refine Only.ext ?_ _ | exact .inl rfl | (right; first | omega | (simp [World.size_ext]; done) | (simp [World.size_ext]; omega))))
    · have hb4 := hok.b
      by_cases h3 : nextE k.a k.b ≠ 0
      · have e1 : nowP k phys = ⟨0, 0, 0, nextE k.a k.b, k⟩ := by unfold nowP giveP; rw [if_neg h1, if_neg h2, if_pos h3]
        rw [e1]
        have h3' : (nextE k.a k.b != 0) = true := by simpa using h3
        have hW := Blk.alloc hk (.cells #[.int .i64 0, .int .u32 0, .int .u32 0] 30); have hR := Blk.new w 30 #[.int .i64 0, .int .u32 0, .int .u32 0]; have hb0 : Below w.heap.size w (w.alloc (.cells #[.int .i64 0, .int .u32 0, .int .u32 0] 30)) := Below.alloc (Below.refl _ _) (Nat.le_refl _) _
        go_enter Try.func9, Try.ntmps9
        go_wp2_with (first | (go_at_call 24; (with_reducible refine hup.mono ?_); rintro e w1 ⟨rfl, hb1⟩; have hk1 := Blk.below hW hb1 (Blk.lt hW); have hR1 := Blk.below hR hb1 (Blk.lt hR); have c1 := Blk.cell hk1; have f1 := Blk.frozen hk1; have l1 := Blk.lt hk1; have d1 := Blk.cell hR1; have g1 := Blk.frozen hR1; have m1 := Blk.lt hR1; have hb01 := hb0.trans (hb1.mono (by simp))) | (go_at_call 26; (with_reducible refine (next_any _ _ _ _ hb4).mono ?_); rintro e w2 ⟨rfl, hb2⟩; have hk2 := Blk.below hk1 hb2 l1; have hR2 := Blk.below hR1 hb2 m1; have c2 := Blk.cell hk2; have f2 := Blk.frozen hk2; have d2 := Blk.cell hR2; have g2 := Blk.frozen hR2; have m2 := Blk.lt hR2; have hb02 := hb01.trans (hb2.mono hb01.size); have s2 := hb2.size; have n1 : w.heap.size ≠ w2.heap.size := (by omega); have n2 : w2.heap.size ≠ w.heap.size := (by omega); clear c1 f1 d1 g1))
        refine bodyPost_cell_tmp (cs := #[.int .i64 0, .int .u32 0, .int .u32 0]) Try.results9 rfl (Blk.alloc (Blk.three hR2) _) Try.underlying30 rfl (by kernel_rfl) rfl ⟨rfl, ?_, ?_⟩
        · (repeat' (first | with_reducible exact hk2 | with_reducible refine Blk.ext ?_ _ | with_reducible refine Blk.alloc ?_ _ | with_reducible apply Blk.set_to | with_reducible refine Blk.far ?_ ?_ _ | rfl | (simp [World.size_ext]; done) | (simp [World.size_ext]; omega)))
        · have h0 : Only w w2 g := Only.of_below hb02
          (repeat' (first | with_reducible exact h0 | with_reducible exact Only.refl _ _ | with_reducible refine Only.set_ ?_ ?_ _ | with_reducible refine Only.alloc ?_ _ | with_reducible refine Only.ext ?_ _ | exact .inl rfl | (right; first | omega | (simp [World.size_ext]; done) | (simp [World.size_ext]; omega))))
      · have e1 : nowP k phys = setP k (nextW k.a k.b) (nextT k.a k.b) := by unfold nowP giveP; rw [if_neg h1, if_neg h2, if_neg h3]
        rw [e1]
        have h3' : (nextE k.a k.b != 0) = false := by simpa using h3
        generalize hr : setP k (nextW k.a k.b) (nextT k.a k.b) = r
        have hW := Blk.alloc hk (.cells #[.int .i64 0, .int .u32 0, .int .u32 0] 30); have hR := Blk.new w 30 #[.int .i64 0, .int .u32 0, .int .u32 0]; have hb0 : Below w.heap.size w (w.alloc (.cells #[.int .i64 0, .int .u32 0, .int .u32 0] 30)) := Below.alloc (Below.refl _ _) (Nat.le_refl _) _
        go_enter Try.func9, Try.ntmps9
        go_wp2_with (first | (go_at_call 24; (with_reducible refine hup.mono ?_); rintro e w1 ⟨rfl, hb1⟩; have hk1 := Blk.below hW hb1 (Blk.lt hW); have hR1 := Blk.below hR hb1 (Blk.lt hR); have c1 := Blk.cell hk1; have f1 := Blk.frozen hk1; have l1 := Blk.lt hk1; have d1 := Blk.cell hR1; have g1 := Blk.frozen hR1; have m1 := Blk.lt hR1; have hb01 := hb0.trans (hb1.mono (by simp))) | (go_at_call 26; (with_reducible refine (next_any _ _ _ _ hb4).mono ?_); rintro e w2 ⟨rfl, hb2⟩; have hk2 := Blk.below hk1 hb2 l1; have hR2 := Blk.below hR1 hb2 m1; have c2 := Blk.cell hk2; have f2 := Blk.frozen hk2; have d2 := Blk.cell hR2; have g2 := Blk.frozen hR2; have m2 := Blk.lt hR2; have hb02 := hb01.trans (hb2.mono hb01.size); have s2 := hb2.size; have n1 : w.heap.size ≠ w2.heap.size := (by omega); have n2 : w2.heap.size ≠ w.heap.size := (by omega); clear c1 f1 d1 g1) | (go_at_call 25; (with_reducible refine Calls.mono (set_any' _ k _ _ _ r hr _ ?hkk) ?_); (case hkk => (repeat' (first | with_reducible exact hk2 | with_reducible refine Blk.ext ?_ _ | with_reducible refine Blk.alloc ?_ _ | with_reducible apply Blk.set_to | with_reducible refine Blk.far ?_ ?_ _ | rfl | (simp [World.size_ext]; done) | (simp [World.size_ext]; omega)))); rintro e w3 ⟨rfl, hk3, ho3⟩; have hR3 : Blk w3 w.heap.size 30 #[.int .i64 0, .int .u32 0, .int .u32 0] := by { (refine Blk.only (?_ : Blk _ _ _ _) ho3 hne'); (repeat' (first | with_reducible exact hR2 | with_reducible refine Blk.ext ?_ _ | with_reducible refine Blk.alloc ?_ _ | with_reducible apply Blk.set_to | with_reducible refine Blk.far ?_ ?_ _ | rfl | (simp [World.size_ext]; done) | (simp [World.size_ext]; omega))) }; have c3 := Blk.cell hk3; have f3 := Blk.frozen hk3; have d3 := Blk.cell hR3; have g3 := Blk.frozen hR3; have m3 := Blk.lt hR3; clear c2 f2 d2 g2))
        refine bodyPost_cell_tmp Try.results9 rfl (Blk.three hR3) Try.underlying30 rfl (by kernel_rfl) rfl ⟨rfl, ?_, ?_⟩
        · (repeat' (first | with_reducible exact hk3 | with_reducible refine Blk.ext ?_ _ | with_reducible refine Blk.alloc ?_ _ | with_reducible apply Blk.set_to | with_reducible refine Blk.far ?_ ?_ _ | rfl | (simp [World.size_ext]; done) | (simp [World.size_ext]; omega)))
        · have h0 : Only w w2 g := Only.of_below hb02
          have h1 : Only w w3 g := Only.trans (by (repeat' (first | with_reducible exact h0 | with_reducible exact Only.refl _ _ | with_reducible refine Only.set_ ?_ ?_ _ | with_reducible refine Only.alloc ?_ _ | with_reducible refine Only.ext ?_ _ | exact .inl rfl | (right; first | omega | (simp [World.size_ext]; done) | (simp [World.size_ext]; omega))))) ho3
          (repeat' (first | with_reducible exact h1 | with_reducible exact Only.refl _ _ | with_reducible refine Only.set_ ?_ ?_ _ | with_reducible refine Only.alloc ?_ _ | with_reducible refine Only.ext ?_ _ | exact .inl rfl | (right; first | omega | (simp [World.size_ext]; done) | (simp [World.size_ext]; omega))))
end Go.Proofs.Ytfcpohhfpdhhiaa
