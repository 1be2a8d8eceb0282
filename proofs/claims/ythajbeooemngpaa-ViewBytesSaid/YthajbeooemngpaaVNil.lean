import Derived.Test.YthajbeooemngpaaChg2
import Derived.Test.YthajbeooemngpaaOwn
/-! The document's example; a nil control. -/
namespace Go.Proofs.Ythajbeooemngpaa
open Go.RowKit
set_option linter.unusedVariables false
set_option linter.unusedSimpArgs false
theorem Ctl.alloc {w : World} {g bm bs : Nat} {k : Vw} (h : Ctl w g bm bs k) (o : Obj) : Ctl (w.alloc o) g bm bs k := h.below (Below.alloc (Below.refl _ _) (Nat.le_refl _) o)
theorem reads_new (w : World) (l : List Int) (hl : l.length ≤ maxLen) : Reads (w.alloc (.cells (ints l).toArray 3)) (w.alloc (.cells (ints l).toArray 3)).heap.size 1 (some ⟨w.heap.size, 0, none⟩) l.length (ints l) :=
  Reads.of_own ((Blk.new w 3 (ints l).toArray).own (b := 0) (size := 1) (n := l.length) (cap := l.length) (Nat.zero_le _) (Nat.le_refl _) hl (by simp [ints_length]) (by simp [ints_length, List.take_of_length_le]) (by simp [ints_length]))
set_option maxRecDepth 100000 in
set_option maxHeartbeats 2000000 in
theorem vawake_any (w : World) : Calls Try.prog 28 #[] w fun e w' => e = .returned (.bool true) ∧ Below w.heap.size w w' := by
  have hR1 : Reads (w.alloc (.cells #[.int .i64 0, .int .i64 1, .int .i64 2] 3)) (w.alloc (.cells #[.int .i64 0, .int .i64 1, .int .i64 2] 3)).heap.size 1 (some ⟨w.heap.size, 0, none⟩) 3 (ints [0, 1, 2]) := reads_new w [0, 1, 2] (by unfold maxLen; simp)
  have hN := new_yes (some ⟨w.heap.size, 0, none⟩) 3 3 0 [1, 2] _ hR1 (by omega) (by decide)
  have hR2 : ∀ w1 : World, Reads (w1.alloc (.cells #[.int .i64 1, .int .i64 3] 3)) (w1.alloc (.cells #[.int .i64 1, .int .i64 3] 3)).heap.size 1 (some ⟨w1.heap.size, 0, none⟩) 2 (ints [1, 3]) := fun w1 => reads_new w1 [1, 3] (by unfold maxLen; simp)
  have hR3 : ∀ (w1 : World) (o : Obj), Reads ((w1.alloc o).alloc (.cells #[.int .i64 1, .int .i64 3] 3)) ((w1.alloc o).alloc (.cells #[.int .i64 1, .int .i64 3] 3)).heap.size 1 (some ⟨w1.heap.size + 1, 0, none⟩) 2 (ints [1, 3]) := fun w1 o => by
    have h := hR2 (w1.alloc o)
    rw [show (w1.alloc o).heap.size = w1.heap.size + 1 from by simp] at h
    exact h
  go_enter Try.func28, Try.ntmps28
  go_wp2_with (first | (go_at_call 32; (with_reducible refine hN.mono ?_); rintro e w1 ⟨⟨g, bm, bs, rfl, hC1, hg, hbm, hbs⟩, hb1⟩; have hl1 := hC1.lt) | (go_at_call 27; (with_reducible refine (change_yes g bm bs _ 1 _ 2 2 [1, 3] _ (hC1.alloc _) (hR2 w1) (by omega) (by decide) (by decide) (by decide) (fun _ a e => by cases e; simp only []; omega) (fun _ a e => by cases e; simp only []; omega)).mono ?_); rintro e w2 ⟨⟨v, bm', B5, rfl, ho, hC2, hbm', hB5⟩, hO2⟩; obtain ⟨A1, cap, rfl, hcap⟩ := own_sl ho) | (go_at_call 27; (with_reducible refine (change_no g bm' bs _ 3 _ 2 2 [1, 3] _ ((hC2.alloc _).alloc _) (hR3 _ _) (by omega) (by decide) (by decide)).mono ?_); rintro e w3 ⟨rfl, hb3⟩; have hV3 := Blk.below ((Blk.new w2 56 #[.int .i64 2, .int .i64 1, .slice A1 2 cap]).alloc (.cells #[.int .i64 1, .int .i64 3] 3)) hb3 (by simp; omega); have cV := hV3.cell; have lV := hV3.lt))
  go_ret
  have hs3 := hb3.size
  have hs2 := hO2.size
  have hs1 := hb1.size
  simp only [World.size_alloc] at hs1 hs2 hs3 hg hbs
  have hb01 : Below w.heap.size w w1 := (Below.alloc (Below.refl _ _) (Nat.le_refl _) _).trans (hb1.mono (by simp))
  have hb02 : Below w.heap.size w w2 := hb01.trans (((Below.alloc (Below.refl _ _) (Nat.le_refl _) _).mono (by omega)).trans (hO2.below (by omega) (by omega) (by simp; omega)))
  exact ⟨rfl, Below.alloc (((hb02.alloc (by omega) _).alloc (by simp; omega) _).trans (hb3.mono (by simp; omega))) (by omega) _⟩
set_option maxRecDepth 100000 in
set_option maxHeartbeats 1000000 in
theorem law_viewNil (n : Int) (w : World) : Calls Try.prog 7 #[.int .i64 n] w fun e w' => e = .returned (.bool true) ∧ Below w.heap.size w w' := by
  have hfd : ∀ w : World, (Instr.field 56 (.agg #[.int .i64 0, .int .i64 0, .slice none 0 0]) 0).run Try.prog w = .ok (.int .i64 0) w := fun _ => by kernel_rfl
  go_enter Try.func7, Try.ntmps7
  go_wp2_with (first | (go_at_call 27; (with_reducible refine (change_nil _ _ _ _ _).mono ?_); rintro e w' ⟨rfl, hb⟩; obtain ⟨X, rfl⟩ := World.ext_of_below hb; clear hb) | (go_at_call 28; (with_reducible refine (vawake_any _).mono ?_); rintro e w' ⟨rfl, hb⟩; obtain ⟨X, rfl⟩ := World.ext_of_below hb; clear hb) | (go_at_call 30; (with_reducible refine (now_nil _).mono ?_); rintro e w' ⟨rfl, hb⟩; obtain ⟨X, rfl⟩ := World.ext_of_below hb; clear hb) | (go_at_call 29; (with_reducible refine (active_nil _ _).mono ?_); rintro e w1 ⟨rfl, rfl⟩) | (go_at_call 31; (with_reducible refine (safe_nil _).mono ?_); rintro e w1 ⟨rfl, rfl⟩))
  go_ret
  refine ⟨rfl, ?_⟩
  (repeat' (first | with_reducible exact Below.refl _ _ | with_reducible refine Below.ext ?_ ?_ _ | with_reducible refine Below.alloc ?_ ?_ _ | with_reducible refine Below.setCell ?_ ?_ _ | with_reducible refine Below.drew ?_ | with_reducible assumption | (simp [World.size_ext]; done) | (simp [World.size_ext]; omega)))
section
open Go.ChangeShapes Go.WideShapes Go.ChangeAt
variable {H : Type} {enc : TypeId × Value → H}
set_option maxRecDepth 100000 in
theorem viewNil_walk : LawWalk enc Try.prog 7 Try.f7 := by
  intro W base args ds ps hval hA hlt _
  rw [Try.params7] at hA hval
  obtain ⟨v0, d0, rfl, rfl, h0⟩ := trodAll_one hA
  obtain ⟨a, rfl, _, _, ha⟩ := open_int Try.underlying3 (hval 0 _ v0 rfl rfl) h0
  exact law_viewNil a W
set_option maxRecDepth 100000 in
theorem viewNil_lifted (os : Os) (started : os.Started) (H : Type) (enc : TypeId × Value → H) :
    ReturnsInHanded {} Try.checked os 7 .any (Rows.viewNilSpec.pre6 enc Try.prog Try.f7 Rows.viewNilRow.domain false) (Rows.viewNilSpec.post enc Try.prog Try.f7 false true false false) :=
  law_lifted (C := Try.checked) own started (by kernel_rfl) Try.func7 laidOut (by kernel_rfl) rfl Try.underlying4 rfl
    (fun ds h => by obtain ⟨d0, rfl⟩ := list1 h; rfl)
    (ChangeSpec.witness6 (enc := enc) (C := Try.checked) false ⟨#[], #[.int .i64 0], []⟩ 8 (by kernel_rfl) (by kernel_rfl) (by kernel_rfl) (by kernel_rfl))
    viewNil_walk
theorem viewNil_holds : Rows.ViewNilSaid :=
  OpenClaim.holds_of_wide 7 Try.f7 rfl rfl rfl rfl rfl rfl rfl ⟨rfl, rfl, rfl, rfl, rfl⟩ rfl rfl rfl rfl rfl (by kernel_rfl) Try.func7 (by kernel_rfl)
    (of_decide_eq_true (by kernel_rfl)) (by unfold Func.isWrapper; rw [if_neg (of_decide_eq_false (by kernel_rfl))]; exact ⟨rfl, rfl⟩)
    (fun os started H enc _ => viewNil_lifted os started H enc)
#print axioms viewNil_holds
end
end Go.Proofs.Ythajbeooemngpaa
