import Derived.Test.YthajbeooemngpaaRd5
/-! The wire's reader: stamps. -/
namespace Go.Proofs.Ythajbeooemngpaa
open Go.RowKit
set_option linter.unusedVariables false
set_option linter.unusedSimpArgs false
set_option maxRecDepth 100000 in
set_option maxHeartbeats 1000000 in
theorem rdstamp_any (g b : Nat) (xs : List Nat) (e : Int) (w : World) (h : Rdr w g b xs e) :
    Calls Try.prog 52 #[.pointer (some ⟨g, 0, none⟩)] w fun e' w' => e' = .returned (.agg #[.int .i64 (stampP ⟨xs, e⟩).1.1, .int .u32 (stampP ⟨xs, e⟩).1.2.1, .int .u32 (stampP ⟨xs, e⟩).1.2.2]) ∧ Rdr w' g b (stampP ⟨xs, e⟩).2.xs (stampP ⟨xs, e⟩).2.e ∧ Only w w' g := by
  have ht := fun w1 (h1 : Rdr w1 g b xs e) => take_any g b xs e 16 w1 h1 (by omega)
  rw [show ((16 : Nat) : Int) = 16 from rfl] at ht
  have hlt := h.lt
  have hne : w.heap.size ≠ g := by omega
  unfold stampP
  generalize takeP 16 ⟨xs, e⟩ = p at *
  obtain ⟨p, q, e2⟩ := p
  simp only at *
  by_cases hp : p = []
  · subst hp
    rw [if_pos rfl]
    dsimp only [List.length_nil] at *
    go_enter Try.func52, Try.ntmps52
    go_wp2_with (go_at_call 82; (with_reducible refine (ht _ (h.below (Below.alloc (Below.refl _ _) (Nat.le_refl _) _))).mono ?_); rintro e w1 ⟨A1, k1, rfl, hs1, hk1, hm1, hr1, ho1⟩; have B1 := Blk.only (Blk.new w 93 #[.int .i64 0, .int .u32 0, .int .u32 0]) ho1 hne; have c1 := Blk.cell B1; have f1 := Blk.frozen B1; have l1 := Blk.lt B1)
    refine bodyPost_cell Try.results52 rfl (Blk.three B1) Try.underlying93 rfl (by kernel_rfl) rfl ⟨rfl, ?_, ?_⟩
    · exact hr1.only (k := w.heap.size) (by (repeat' (first | with_reducible exact hr1 | with_reducible exact Only.refl _ _ | with_reducible refine Only.set_ ?_ ?_ _ | with_reducible refine Only.alloc ?_ _ | with_reducible refine Only.ext ?_ _ | exact .inl rfl | (right; first | omega | (simp [World.size_ext]; done) | (simp [World.size_ext]; omega))))) (Ne.symm hne) (by omega)
    · have hox : Only w w1 g := (Only.of_below (Below.alloc (Below.refl _ _) (Nat.le_refl _) _)).trans ho1
      (repeat' (first | with_reducible exact hox | with_reducible exact Only.refl _ _ | with_reducible refine Only.set_ ?_ ?_ _ | with_reducible refine Only.alloc ?_ _ | with_reducible refine Only.ext ?_ _ | exact .inl rfl | (right; first | omega | (simp [World.size_ext]; done) | (simp [World.size_ext]; omega))))
  · rw [if_neg hp]
    have hp0 : ((p.length : Int) == 0) = false := beq_false_of_ne (fun h => hp (List.eq_nil_of_length_eq_zero (by omega)))
    by_cases he : getE p = 0
    · rw [if_pos he]
      have he' : (getE p != 0) = false := by simpa using he
      go_enter Try.func52, Try.ntmps52
      go_wp2_with (first | (go_at_call 82; (with_reducible refine (ht _ (h.below (Below.alloc (Below.refl _ _) (Nat.le_refl _) _))).mono ?_); rintro e w1 ⟨A1, k1, rfl, hs1, hk1, hm1, hr1, ho1⟩; have B1 := Blk.only (Blk.new w 93 #[.int .i64 0, .int .u32 0, .int .u32 0]) ho1 hne; have c1 := Blk.cell B1; have f1 := Blk.frozen B1; have l1 := Blk.lt B1) | (go_at_call 84; (with_reducible refine (get_any _ _ _ _ _ hs1.reads hs1.by_).mono ?_); rintro e w2 ⟨rfl, hb2⟩; have B2 := Blk.below B1 hb2 (Blk.lt B1); have c2 := Blk.cell B2; have f2 := Blk.frozen B2; have l2 := Blk.lt B2; have hr2 := hr1.below hb2))
      refine bodyPost_cell Try.results52 rfl (Blk.alloc (Blk.three B2) _) Try.underlying93 rfl (by kernel_rfl) rfl ⟨rfl, ?_, ?_⟩
      · exact hr2.only (k := w.heap.size) (by (repeat' (first | with_reducible exact hr1 | with_reducible exact Only.refl _ _ | with_reducible refine Only.set_ ?_ ?_ _ | with_reducible refine Only.alloc ?_ _ | with_reducible refine Only.ext ?_ _ | exact .inl rfl | (right; first | omega | (simp [World.size_ext]; done) | (simp [World.size_ext]; omega))))) (Ne.symm hne) (by omega)
      · have hox : Only w w2 g := ((Only.of_below (Below.alloc (Below.refl _ _) (Nat.le_refl _) _)).trans ho1).trans (Only.of_below hb2)
        (repeat' (first | with_reducible exact hox | with_reducible exact Only.refl _ _ | with_reducible refine Only.set_ ?_ ?_ _ | with_reducible refine Only.alloc ?_ _ | with_reducible refine Only.ext ?_ _ | exact .inl rfl | (right; first | omega | (simp [World.size_ext]; done) | (simp [World.size_ext]; omega))))
    · rw [if_neg he]
      have he' : (getE p != 0) = true := by simpa using he
      go_enter Try.func52, Try.ntmps52
      go_wp2_with (first | (go_at_call 82; (with_reducible refine (ht _ (h.below (Below.alloc (Below.refl _ _) (Nat.le_refl _) _))).mono ?_); rintro e w1 ⟨A1, k1, rfl, hs1, hk1, hm1, hr1, ho1⟩; have B1 := Blk.only (Blk.new w 93 #[.int .i64 0, .int .u32 0, .int .u32 0]) ho1 hne; have c1 := Blk.cell B1; have f1 := Blk.frozen B1; have l1 := Blk.lt B1) | (go_at_call 84; (with_reducible refine (get_any _ _ _ _ _ hs1.reads hs1.by_).mono ?_); rintro e w2 ⟨rfl, hb2⟩; have B2 := Blk.below B1 hb2 (Blk.lt B1); have c2 := Blk.cell B2; have f2 := Blk.frozen B2; have l2 := Blk.lt B2; have hr2 := hr1.below hb2) | (go_at_call 83; (with_reducible refine (fail_any g b q e2 _ _ (hr2.below (Below.alloc (Below.refl _ _) (Nat.le_refl _) _))).mono ?_); rintro e w3 ⟨rfl, hr3, ho3⟩; have B3 := Blk.only (Blk.alloc B2 _) ho3 hne; have S3 := Blk.only (Blk.new w2 93 #[.int .i64 (getW p), .int .u32 (getT p), .int .u32 (getM p)]) ho3 (by have := hr2.lt; omega); have d3 := Blk.cell S3; have m3 := Blk.lt S3; have c3 := Blk.cell B3; have f3 := Blk.frozen B3; have l3 := Blk.lt B3))
      refine bodyPost_cell Try.results52 rfl (Blk.three B3) Try.underlying93 rfl (by kernel_rfl) rfl ⟨rfl, ?_, ?_⟩
      · exact hr3.only (k := w.heap.size) (by (repeat' (first | with_reducible exact hr1 | with_reducible exact Only.refl _ _ | with_reducible refine Only.set_ ?_ ?_ _ | with_reducible refine Only.alloc ?_ _ | with_reducible refine Only.ext ?_ _ | exact .inl rfl | (right; first | omega | (simp [World.size_ext]; done) | (simp [World.size_ext]; omega))))) (Ne.symm hne) (by omega)
      · have hox : Only w w3 g := (((Only.of_below (Below.alloc (Below.refl _ _) (Nat.le_refl _) _)).trans ho1).trans (Only.of_below (hb2.alloc hb2.size _))).trans ho3
        (repeat' (first | with_reducible exact hox | with_reducible exact Only.refl _ _ | with_reducible refine Only.set_ ?_ ?_ _ | with_reducible refine Only.alloc ?_ _ | with_reducible refine Only.ext ?_ _ | exact .inl rfl | (right; first | omega | (simp [World.size_ext]; done) | (simp [World.size_ext]; omega))))
end Go.Proofs.Ythajbeooemngpaa
