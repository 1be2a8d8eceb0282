import Derived.Test.YthajbeooemngpaaOrder
import Derived.ChangeShapes
/-! The law of the order of numbers' bytes. -/
namespace Go.Proofs.Ythajbeooemngpaa
open Go.RowKit
set_option linter.unusedVariables false
set_option linter.unusedSimpArgs false
theorem Row.conv {P : Program} {w : World} {base : Nat} {src dst : TypeId} {A : Option Addr} {n c : Nat} {xs : List Nat} (h : Row w base (.slice A n c) xs) (hs : P.underlying src = some (.slice 5)) (he : P.underlying 5 = some (.int .u8)) (hd : P.underlying dst = some .string) :
    (convert src dst (.slice A n c)).run P w = .ok (.string (strOf xs)) w := by
  obtain ⟨A', c', e, _, _, _, hr⟩ := h.slice
  simp only [Value.slice.injEq] at e
  obtain ⟨rfl, rfl, rfl⟩ := e
  exact conv_bytes hr hs he hd c
theorem wlaid_made (a : Int) (w : World) (ha : U64 a) : Calls Try.prog 22 #[.slice (some ⟨w.heap.size, 0, none⟩) 1 1] (w.alloc (.cells #[.int .i64 0, .int .u64 a, .int .i64 0, .bool false, .string { data := #[] }, .int .i64 0, .int .u32 0, .int .u32 0, .int .i64 0] 51)) fun e w' =>
    ∃ u v, e = .returned (.tuple #[u, v]) ∧ Row w' w.heap.size u (numB a.toNat) ∧ Below w.heap.size w w' := by
  have hB := Blk.new w 51 #[.int .i64 0, .int .u64 a, .int .i64 0, .bool false, .string { data := #[] }, .int .i64 0, .int .u32 0, .int .u32 0, .int .i64 0]
  have hR : Reads _ _ 9 (some ⟨w.heap.size, 0, none⟩) 1 (itms [⟨0, a, 0, false, ByteArray.empty, 0, 0, 0, 0⟩]) := Reads.of_own (hB.own (b := 0) (size := 9) (n := 1) (cap := 1) (Nat.zero_le _) (Nat.le_refl _) (by unfold maxLen; omega) rfl rfl rfl)
  refine (wlaid_one a _ ha _ 1 hR).mono ?_
  rintro e w' ⟨u, v, rfl, hu, _, hb⟩
  exact ⟨u, v, rfl, hu.base (by simp), (Below.alloc (Below.refl _ _) (Nat.le_refl _) _).trans (hb.mono (by simp))⟩
set_option maxRecDepth 100000 in
theorem wawake_any (w : World) : Calls Try.prog 26 #[] w fun e w' => e = .returned (.bool true) ∧ Below w.heap.size w w' := by
  have hC := wlaid_made 256 w (by unfold U64; omega)
  have hS : strOf (numB (256 : Int).toNat) = { data := #[249, 1, 0] } := by
    have l2 : longN 256 = 2 := by rw [longN_pos (by omega), longN_pos (by omega), longN_zero]
    rw [show numB (256 : Int).toNat = [249, 1, 0] by
      show numB 256 = _
      unfold numB
      rw [if_neg (by omega), l2]
      rfl]
    rfl
  go_enter Try.func26, Try.ntmps26
  go_wp2_with (go_at_call 22; (with_reducible refine hC.mono ?_); rintro e w1 ⟨u, v, rfl, hu, hb1⟩; obtain ⟨A1, n1, k1, rfl⟩ := hu.shape; have hcv := Row.conv (P := Try.prog) hu Try.underlying23 Try.underlying5 Try.underlying9; rw [hS] at hcv; clear hu)
  go_ret
  exact ⟨rfl, hb1⟩
set_option maxRecDepth 100000 in
set_option maxHeartbeats 1000000 in
theorem law_wireOrder (a b : Int) (w : World) (ha : U64 a) (hb : U64 b) :
    Calls Try.prog 6 #[.int .u64 a, .int .u64 b] w fun e w' => e = .returned (.bool true) ∧ Below w.heap.size w w' := by
  have hU := ha
  have hV := hb
  unfold U64 at hU hV
  have q1 := less_str (a := a.toNat) (b := b.toNat) (by omega) (by omega)
  have q2 := eq_str (a := a.toNat) (b := b.toNat) (by omega) (by omega)
  rw [show decide (a.toNat < b.toNat) = decide (a < b) by congr 1; apply propext; omega] at q1
  rw [show decide (a.toNat = b.toNat) = decide (a = b) by congr 1; apply propext; omega] at q2
  have hla : ∀ w', Below w.heap.size w w' → _ := fun w' (_ : Below w.heap.size w w') => wlaid_made a w' ha
  have hlb : ∀ w', Below w.heap.size w w' → _ := fun w' (_ : Below w.heap.size w w') => wlaid_made b w' hb
  go_enter Try.func6, Try.ntmps6
  go_wp2_with (first | (go_at_call 22; (with_reducible refine (hla _ (Below.refl _ _)).mono ?_); rintro e w1 ⟨u, v, rfl, hu, hb1⟩; obtain ⟨A1, n1, k1, rfl⟩ := hu.shape) | (go_at_call 22; (with_reducible refine (hlb _ hb1).mono ?_); rintro e w2 ⟨u2, v2, rfl, hu2, hb2⟩; obtain ⟨A2, n2, k2, rfl⟩ := hu2.shape; have hb02 := hb1.trans (hb2.mono hb1.size)) | (go_at_call 26; (with_reducible refine (wawake_any _).mono ?_); rintro e w3 ⟨rfl, hb3⟩; have hb03 := hb02.trans (hb3.mono hb02.size); have hv1 := Row.conv (P := Try.prog) ((hu.below hb2).below hb3) Try.underlying23 Try.underlying5 Try.underlying9; have hv2 := Row.conv (P := Try.prog) (hu2.below hb3) Try.underlying23 Try.underlying5 Try.underlying9))
  go_ret

  exact ⟨by simp; by_cases h : a = b <;> simp [h], hb03⟩
section
open Go.ChangeShapes Go.WideShapes Go.ChangeAt
variable {H : Type} {enc : TypeId × Value → H}
theorem own : ownKnob Try.checked.prog.godebug = none := rfl
set_option maxRecDepth 100000 in
theorem laidOut : laidOutB Try.prog = true := by kernel_rfl
set_option maxRecDepth 100000 in
theorem wireOrder_walk : LawWalk enc Try.prog 6 Try.f6 := by
  intro W base args ds ps hval hA hlt _
  rw [Try.params6] at hA hval
  obtain ⟨v0, v1, d0, d1, p0, p1, rfl, rfl, rfl, h0, h1⟩ := trodAll_two hA
  obtain ⟨a, rfl, _, _, ha⟩ := open_int Try.underlying34 (hval 0 _ v0 rfl rfl) h0
  obtain ⟨b, rfl, _, _, hb⟩ := open_int Try.underlying34 (hval 1 _ v1 rfl rfl) h1
  simp [Lit.wf, IntKind.min, IntKind.max, IntKind.signed, IntKind.bits] at ha hb
  exact law_wireOrder a b W ha hb
set_option maxRecDepth 100000 in
theorem wireOrder_lifted (os : Os) (started : os.Started) (H : Type) (enc : TypeId × Value → H) :
    ReturnsInHanded {} Try.checked os 6 .any (Rows.wireOrderSpec.pre6 enc Try.prog Try.f6 Rows.wireOrderRow.domain false) (Rows.wireOrderSpec.post enc Try.prog Try.f6 false true false false) :=
  law_lifted (C := Try.checked) own started (by kernel_rfl) Try.func6 laidOut (by kernel_rfl) rfl Try.underlying4 rfl
    (fun ds h => by obtain ⟨d0, d1, rfl⟩ := list2 h; rfl)
    (ChangeSpec.witness6 (enc := enc) (C := Try.checked) false ⟨#[], #[.int .u64 0, .int .u64 0], []⟩ 8 (by kernel_rfl) (by kernel_rfl) (by kernel_rfl) (by kernel_rfl))
    wireOrder_walk
theorem wireOrder_holds : Rows.WireOrderSaid :=
  OpenClaim.holds_of_wide 6 Try.f6 rfl rfl rfl rfl rfl rfl rfl ⟨rfl, rfl, rfl, rfl, rfl⟩ rfl rfl rfl rfl rfl (by kernel_rfl) Try.func6 (by kernel_rfl)
    (of_decide_eq_true (by kernel_rfl)) (by unfold Func.isWrapper; rw [if_neg (of_decide_eq_false (by kernel_rfl))]; exact ⟨rfl, rfl⟩)
    (fun os started H enc _ => wireOrder_lifted os started H enc)
#print axioms wireOrder_holds
end
end Go.Proofs.Ythajbeooemngpaa
