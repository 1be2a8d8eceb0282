import Derived.Test.YthajbeooemngpaaPack4
/-! The law of samples as bytes. -/
namespace Go.Proofs.Ythajbeooemngpaa
open Go.RowKit
set_option linter.unusedVariables false
set_option linter.unusedSimpArgs false
theorem Row.conv {P : Program} {w : World} {base : Nat} {src dst : TypeId} {A : Option Addr} {n c : Nat} {xs : List Nat} (h : Row w base (.slice A n c) xs) (hs : P.underlying src = some (.slice 5)) (he : P.underlying 5 = some (.int .u8)) (hd : P.underlying dst = some .string) :
    (convert src dst (.slice A n c)).run P w = .ok (.string (strOf xs)) w := by
  obtain ⟨A', c', e, _, _, _, hr⟩ := h.slice
  simp only [Value.slice.injEq] at e
  obtain ⟨rfl, rfl, rfl⟩ := e
  exact conv_bytes hr hs he hd c
set_option maxRecDepth 100000 in
theorem pawake_any (w : World) : Calls Try.prog 18 #[] w fun e w' => e = .returned (.bool true) ∧ Below w.heap.size w w' := by
  have hB := Blk.new w 36 #[.int .i64 10, .int .i64 7, .int .i64 20, .int .i64 7, .int .i64 30, .int .i64 7]
  have hR : Reads _ _ 2 (some ⟨w.heap.size, 0, none⟩) 3 (smps [(10, 7), (20, 7), (30, 7)]) := Reads.of_own (hB.own (b := 0) (size := 2) (n := 3) (cap := 3) (Nat.zero_le _) (Nat.le_refl _) (by unfold maxLen; omega) rfl rfl rfl)
  have hC := ppack_any _ 3 3 _ _ hR (by unfold I64s; decide) (by omega)
  have hF : fineP [(10, 7), (20, 7), (30, 7)] = true := by decide
  have hS : strOf (packB [(10, 7), (20, 7), (30, 7)] 3) = { data := #[3, 20, 14, 0, 0, 0, 0] } := by
    rw [show packB [(10, 7), (20, 7), (30, 7)] 3 = [3, 20, 14, 0, 0, 0, 0] by simp [packB, dd, dn, tm, nm, pt, pn, pg, numB, zig, wrap64]]
    rfl
  clear hR hB
  go_enter Try.func18, Try.ntmps18
  go_wp2_with (go_at_call 15; (with_reducible refine hC.mono ?_); rintro e w1 ⟨(⟨_, u, rfl, hu⟩ | ⟨hf, _⟩), hb1⟩; rotate_left 1; (rw [hF] at hf; cases hf); obtain ⟨A1, n1, k1, rfl⟩ := hu.shape; have hcv := Row.conv (P := Try.prog) hu Try.underlying23 Try.underlying5 Try.underlying9; rw [hS] at hcv; clear hu)
  go_ret
  exact ⟨rfl, (Below.alloc (Below.refl _ _) (Nat.le_refl _) _).trans (hb1.mono (by simp))⟩
set_option maxRecDepth 100000 in
set_option maxHeartbeats 2000000 in
theorem law_packWrites (A : Option Addr) (n c : Nat) (l : List (Int × Int)) (w : World) (hr : Reads w w.heap.size 2 A n (smps l)) (h64 : I64s l) (hn : n * 16 ≤ 140737488355328) :
    Calls Try.prog 3 #[.slice A n c] w fun e w' => e = .returned (.bool true) ∧ Below w.heap.size w w' := by
  have hl : l.length = n := by have := hr.1; rw [smps_length] at this; omega
  have hto : ∀ w', Below w.heap.size w w' → Calls Try.prog 16 #[.slice A n c] w' fun e w'' => ∃ v, e = .returned v ∧ w''.ownsRow w'.heap.size 36 2 v n (smps l) ∧ Below w'.heap.size w' w'' := fun w' h => to_any A n c l w' ((hr.below h).more h.size) hn
  have hrp : ∀ w', Below w.heap.size w w' → Calls Try.prog 17 #[.slice A n c] w' fun e w'' => ((fineP l = true ∧ ∃ u, e = .returned (.tuple #[u, .int .i64 0]) ∧ Row w'' w'.heap.size u (packB l n)) ∨ (fineP l = false ∧ e = .returned (.tuple #[.slice none 0 0, .int .i64 1]))) ∧ Below w'.heap.size w' w'' := fun w' h => rpack_any A n c l w' ((hr.below h).more h.size) h64 hn
  have hrr : ∀ w', Below w.heap.size w w' → Calls Try.prog 20 #[.slice A n c] w' fun e w'' => e = .returned (.bool (decide (n ≤ 65536) && goodP l)) ∧ Below w'.heap.size w' w'' := fun w' h => rpright_any A n c l w' ((hr.below h).more h.size) hn
  by_cases hf : fineP l = true
  · have hnf : fineP l ≠ false := by rw [hf]; decide
    go_enter Try.func3, Try.ntmps3
    go_wp2_with (first | (go_at_call 16; (with_reducible refine (hto _ (Below.refl _ _)).mono ?_); rintro e w1 ⟨v, rfl, ho, hb1⟩; obtain ⟨A1, cap1, rfl, hcap1⟩ := own_slice ho; have hq1 := Reads.of_own ho; clear ho) | (go_at_call 15; (with_reducible refine (ppack_any _ _ _ _ _ hq1 h64 hn).mono ?_); rintro e w2 ⟨(⟨_, u2, rfl, hu2⟩ | ⟨hf', _⟩), hb2⟩; rotate_left 1; (exact absurd hf' hnf); have hb02 := hb1.trans (hb2.mono hb1.size)) | (go_at_call 17; (with_reducible refine (hrp _ hb02).mono ?_); rintro e w3 ⟨(⟨_, u3, rfl, hu3⟩ | ⟨hf', _⟩), hb3⟩; rotate_left 1; (exact absurd hf' hnf); have hb03 := hb02.trans (hb3.mono hb02.size)) | (go_at_call 18; (with_reducible refine (pawake_any _).mono ?_); rintro e w4 ⟨rfl, hb4⟩; have hb04 := hb03.trans (hb4.mono hb03.size); obtain ⟨A2, n2, c2, rfl⟩ := hu2.shape; obtain ⟨A3, n3, c3, rfl⟩ := hu3.shape; have hv2 := Row.conv (P := Try.prog) ((hu2.below hb3).below hb4) Try.underlying23 Try.underlying5 Try.underlying9; have hv3 := Row.conv (P := Try.prog) (hu3.below hb4) Try.underlying23 Try.underlying5 Try.underlying9) | (go_at_call 16; (with_reducible refine (hto _ hb04).mono ?_); rintro e w5 ⟨v, rfl, ho, hb5⟩; obtain ⟨A5, cap5, rfl, hcap5⟩ := own_slice ho; have hq5 := Reads.of_own ho; clear ho; have hb05 := hb04.trans (hb5.mono hb04.size)) | (go_at_call 19; (with_reducible refine (pright_any _ _ _ _ _ hq5 hn).mono ?_); rintro e w6 ⟨rfl, hb6⟩; have hb06 := hb05.trans (hb6.mono hb05.size)) | (go_at_call 20; (with_reducible refine (hrr _ hb06).mono ?_); rintro e w7 ⟨rfl, hb7⟩; have hb07 := hb06.trans (hb7.mono hb06.size)))
    go_ret
    exact ⟨rfl, hb07⟩
  · have hff : fineP l = false := by simpa using hf
    go_enter Try.func3, Try.ntmps3
    go_wp2_with (first | (go_at_call 16; (with_reducible refine (hto _ (Below.refl _ _)).mono ?_); rintro e w1 ⟨v, rfl, ho, hb1⟩; obtain ⟨A1, cap1, rfl, hcap1⟩ := own_slice ho; have hq1 := Reads.of_own ho; clear ho) | (go_at_call 15; (with_reducible refine (ppack_any _ _ _ _ _ hq1 h64 hn).mono ?_); rintro e w2 ⟨(⟨hf', _⟩ | ⟨_, rfl⟩), hb2⟩; (exact absurd hf' hf); have hb02 := hb1.trans (hb2.mono hb1.size)) | (go_at_call 17; (with_reducible refine (hrp _ hb02).mono ?_); rintro e w3 ⟨(⟨hf', _⟩ | ⟨_, rfl⟩), hb3⟩; (exact absurd hf' hf); have hb03 := hb02.trans (hb3.mono hb02.size)) | (go_at_call 18; (with_reducible refine (pawake_any _).mono ?_); rintro e w4 ⟨rfl, hb4⟩; have hb04 := hb03.trans (hb4.mono hb03.size); have hv2 := Row.conv (P := Try.prog) (Row.nil w4 0) Try.underlying23 Try.underlying5 Try.underlying9) | (go_at_call 16; (with_reducible refine (hto _ hb04).mono ?_); rintro e w5 ⟨v, rfl, ho, hb5⟩; obtain ⟨A5, cap5, rfl, hcap5⟩ := own_slice ho; have hq5 := Reads.of_own ho; clear ho; have hb05 := hb04.trans (hb5.mono hb04.size)) | (go_at_call 19; (with_reducible refine (pright_any _ _ _ _ _ hq5 hn).mono ?_); rintro e w6 ⟨rfl, hb6⟩; have hb06 := hb05.trans (hb6.mono hb05.size)) | (go_at_call 20; (with_reducible refine (hrr _ hb06).mono ?_); rintro e w7 ⟨rfl, hb7⟩; have hb07 := hb06.trans (hb7.mono hb06.size)))
    go_ret
    exact ⟨rfl, hb07⟩
section
open Go.ChangeShapes Go.WideShapes Go.ChangeAt
variable {H : Type} {enc : TypeId × Value → H}
set_option maxRecDepth 100000 in
theorem packWrites_walk : LawWalkS enc Try.prog 3 Try.f3 := by
  intro W base args ds ps hval hA hlt _ hs
  rw [Try.params3] at hA hval hs
  obtain ⟨v0, d0, rfl, rfl, h0⟩ := trodAll_one hA
  obtain ⟨A, n, c, l, rfl, hnc, hr, hl, hn⟩ := smps_open (hval 0 _ v0 rfl rfl) h0
  have hn' := bound_of hs (j := 0) rfl rfl hn
  exact law_packWrites A n c l W hr hl (by omega)
set_option maxRecDepth 100000 in
theorem packWrites_lifted (os : Os) (started : os.Started) (H : Type) (enc : TypeId × Value → H) :
    ReturnsInHanded {} Try.checked os 3 .any (Rows.packWritesSpec.pre6 enc Try.prog Try.f3 Rows.packWritesRow.domain false) (Rows.packWritesSpec.post enc Try.prog Try.f3 false true false false) :=
  law_lifted_sized (C := Try.checked) own started (by kernel_rfl) Try.func3 laidOut (by kernel_rfl) rfl Try.underlying4 rfl rfl
    (fun ds h => by obtain ⟨d0, rfl⟩ := list1 h; rfl)
    (ChangeSpec.witness6 (enc := enc) (C := Try.checked) false ⟨#[], #[.slice none 0 0], []⟩ 8 (by kernel_rfl) (by kernel_rfl) (by kernel_rfl) (by kernel_rfl))
    packWrites_walk
theorem packWrites_holds : Rows.PackWritesSaid :=
  OpenClaim.holds_of_wide 3 Try.f3 rfl rfl rfl rfl rfl rfl rfl ⟨rfl, rfl, rfl, rfl, rfl⟩ rfl rfl rfl rfl rfl (by kernel_rfl) Try.func3 (by kernel_rfl)
    (of_decide_eq_true (by kernel_rfl)) (by unfold Func.isWrapper; rw [if_neg (of_decide_eq_false (by kernel_rfl))]; exact ⟨rfl, rfl⟩)
    (fun os started H enc _ => packWrites_lifted os started H enc)
#print axioms packWrites_holds
end
end Go.Proofs.Ythajbeooemngpaa
