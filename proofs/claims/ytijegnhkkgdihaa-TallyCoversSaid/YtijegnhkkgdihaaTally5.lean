import Derived.Test.YtijegnhkkgdihaaTally4
import Derived.Deep.SlicePairs
import Derived.SizedLaws
/-! The samples of an argument; the laws of folds. -/
namespace Go.Proofs.Ytijegnhkkgdihaa
open Go.RowKit
set_option linter.unusedVariables false
set_option linter.unusedSimpArgs false
section
open Go.ChangeShapes Go.WideShapes Go.ChangeAt
variable {H : Type} {enc : TypeId × Value → H}
theorem own : ownKnob Try.checked.prog.godebug = none := rfl
theorem laidOut : laidOutB Try.prog = true := by kernel_rfl
theorem cellsRefSample : Try.prog.cellsOf 49 = 2 := by kernel_rfl
theorem bytesRefSample : Try.prog.bytesOf 49 = 16 := by kernel_rfl
theorem smps_row (n : Nat) (f : Nat → Int × Int) (j : Nat) (u : Value) (h : (smps ((List.range n).map f))[j]? = some u) : ∃ i, i < n ∧ ((j = i * 2 ∧ u = .int .i64 (f i).1) ∨ (j = i * 2 + 1 ∧ u = .int .i64 (f i).2)) := by
  have hj : j < n * 2 := by
    rcases Nat.lt_or_ge j (n * 2) with h' | h'
    · exact h'
    · rw [List.getElem?_eq_none (by rw [smps_length]; simpa using h')] at h; cases h
  have hg : ((List.range n).map f)[j / 2]? = some (f (j / 2)) := by rw [List.getElem?_map, List.getElem?_range (by omega)]; rfl
  obtain ⟨g1, g2⟩ := smps_get _ _ _ hg
  refine ⟨j / 2, by omega, ?_⟩
  by_cases he : j % 2 = 0
  · left
    rw [show j / 2 * 2 = j by omega, h] at g1
    exact ⟨by omega, Option.some.inj g1⟩
  · right
    rw [show j / 2 * 2 + 1 = j by omega, h] at g2
    exact ⟨by omega, Option.some.inj g2⟩
theorem smps_open {W : World} {base : Nat} {d : DataW H} {p : List MemPlace} {v : Value} (hv : Value.okWide Try.prog W .any base 22 v) (h : DataW.Trod enc Try.prog W 0 (fun _ => true) true 22 v d p) :
    ∃ A n c l, v = .slice A n c ∧ n ≤ c ∧ Reads W W.heap.size 2 A n (smps l) ∧ I64s l ∧ ((n = 0) ∨ ∃ es sp, d = .slice es sp ∧ n ≤ es.length + sp.length) := by
  obtain ⟨A, n, c, rfl⟩ := okWide_slice Try.underlying22 hv
  obtain ⟨fuel, hf⟩ := h
  rcases Deep.open_slice_pairs Try.underlying22 Try.underlying49 cellsRefSample rfl rfl (by kernel_rfl) (by kernel_rfl) hf with ⟨hcs, hx⟩ | ⟨a, len, cap, m, k, V0, V1, D0, D1, P0, P1, hcs, _, hl, hm, hmm, hx, hcell⟩
  · simp [Value.cells] at hcs
    obtain ⟨rfl, rfl, rfl⟩ := hcs
    exact ⟨none, 0, 0, [], rfl, by omega, Reads.none_, (fun q hq => by cases hq), .inl rfl⟩
  · simp [Value.cells] at hcs
    obtain ⟨rfl, rfl, rfl⟩ := hcs
    simp only [if_true] at hmm
    have hint : ∀ i, i < n → ∃ q : Int × Int, V0 i = .int .i64 q.1 ∧ V1 i = .int .i64 q.2 ∧ (-9223372036854775808 ≤ q.1 ∧ q.1 ≤ 9223372036854775807) ∧ (-9223372036854775808 ≤ q.2 ∧ q.2 ≤ 9223372036854775807) := fun i hi => by
      obtain ⟨_, _, t0, t1⟩ := hcell i (by omega)
      obtain ⟨x, e0, _, wx⟩ := DataW.trod_int Try.underlying2 t0
      obtain ⟨y, e1, _, wy⟩ := DataW.trod_int Try.underlying2 t1
      simp at e0 e1
      simp [Lit.wf, IntKind.min, IntKind.max, IntKind.signed, IntKind.bits] at wx wy
      exact ⟨(x, y), e0, e1, wx, wy⟩
    obtain ⟨f, hf⟩ := Deep.choose_lt hint
    refine ⟨some a, n, c, (List.range n).map f, rfl, by omega, ⟨by rw [smps_length]; simp, fun hn => ⟨a, rfl, ?_, fun j u hu => ?_⟩⟩, fun q hq => ?_, .inr ⟨_, _, (Prod.ext_iff.1 hx).1, by simp⟩⟩
    · have := World.block_lt_of_cell? _ _ (hcell 0 (by omega)).1
      rwa [block_of_add] at this
    · obtain ⟨i, hi, ⟨rfl, rfl⟩ | ⟨rfl, rfl⟩⟩ := smps_row n f j u hu
      · rw [(hcell i (by omega)).1, (hf i hi).1]
      · rw [(hcell i (by omega)).2.1, (hf i hi).2.1]
    · obtain ⟨i, hi, rfl⟩ := List.mem_map.1 hq
      exact (hf i (by simpa using hi)).2.2
end
theorem awake_any (w : World) : Calls Try.prog 12 #[] w fun e w' => e = .returned (.bool true) ∧ Below w.heap.size w w' := by
  have hF : foldA 5 [(0, 3), (0, 9), (0, 5)] = (2, true, 0) := by decide
  have hB := Blk.new w 36 #[.int .i64 0, .int .i64 3, .int .i64 0, .int .i64 9, .int .i64 0, .int .i64 5]
  have hR : Reads _ _ 2 (some ⟨w.heap.size, 0, none⟩) 3 (smps [(0, 3), (0, 9), (0, 5)]) := Reads.of_own (hB.own (b := 0) (size := 2) (n := 3) (cap := 3) (Nat.zero_le _) (Nat.le_refl _) (by unfold maxLen; omega) rfl rfl rfl)
  have hC := fold_any 5 _ 3 3 _ _ hR (by unfold I64s; decide) (by omega) (by omega)
  rw [hF] at hC
  clear hR hB
  go_enter Try.func12, Try.ntmps12
  go_wp2_with (go_at_call 9; refine (hC).mono ?_; rintro e w' ⟨rfl, hb⟩; obtain ⟨X, rfl⟩ := World.ext_of_below hb; clear hb)
  go_ret
  refine ⟨rfl, ?_⟩
  (repeat' (first | with_reducible exact Below.refl _ _ | with_reducible refine Below.ext ?_ ?_ _ | with_reducible refine Below.alloc ?_ ?_ _ | with_reducible refine Below.setCell ?_ ?_ _ | with_reducible refine Below.drew ?_ | with_reducible assumption | (simp [World.size_ext]; done) | (simp [World.size_ext]; omega)))
theorem law_folds (op : Int) (A : Option Addr) (n c : Nat) (l : List (Int × Int)) (w : World) (hr : Reads w w.heap.size 2 A n (smps l)) (hl : I64s l) (hop : -9223372036854775808 ≤ op ∧ op ≤ 9223372036854775807) (hn : n * 16 ≤ 140737488355328) :
    Calls Try.prog 3 #[.int .i64 op, .slice A n c] w fun e w' => e = .returned (.bool true) ∧ Below w.heap.size w w' := by
  go_enter Try.func3, Try.ntmps3
  go_wp2_with (first | (go_at_call 10; with_reducible refine (to_any _ _ _ _ _ hr hn).mono ?_; rintro e w' ⟨v, rfl, ho, hb⟩; obtain ⟨A', cap, rfl, hcap⟩ := own_slice ho; have hq := Reads.of_own ho; clear ho; obtain ⟨X, rfl⟩ := World.ext_of_below hb; clear hb) | (go_at_call 9; with_reducible refine (fold_any _ _ _ _ _ _ hq hl hop hn).mono ?_; rintro e w' ⟨rfl, hb⟩; obtain ⟨X, rfl⟩ := World.ext_of_below hb; clear hb) | (go_at_call 11; with_reducible refine (rfold_any _ _ _ _ _ _ (hr.grown _) hl hop hn).mono ?_; rintro e w' ⟨rfl, hb⟩; obtain ⟨X, rfl⟩ := World.ext_of_below hb; clear hb) | (go_at_call 12; with_reducible refine (awake_any _).mono ?_; rintro e w' ⟨rfl, hb⟩; obtain ⟨X, rfl⟩ := World.ext_of_below hb; clear hb))
  go_ret
  refine ⟨rfl, ?_⟩
  (repeat' (first | with_reducible exact Below.refl _ _ | with_reducible refine Below.ext ?_ ?_ _ | with_reducible refine Below.alloc ?_ ?_ _ | with_reducible refine Below.setCell ?_ ?_ _ | with_reducible refine Below.drew ?_ | with_reducible assumption | (simp [World.size_ext]; done) | (simp [World.size_ext]; omega)))
section
open Go.ChangeShapes Go.WideShapes Go.ChangeAt
variable {H : Type} {enc : TypeId × Value → H}
theorem tallyFolds_walk : LawWalkS enc Try.prog 3 Try.f3 := by
  intro W base args ds ps hval hA hlt _ hs
  rw [Try.params3] at hA hval hs
  obtain ⟨v0, v1, d0, d1, p0, p1, rfl, rfl, rfl, h0, h1⟩ := trodAll_two hA
  obtain ⟨op, rfl, _, _, hop⟩ := open_int Try.underlying3 (hval 0 _ v0 rfl rfl) h0
  simp [Lit.wf, IntKind.min, IntKind.max, IntKind.signed, IntKind.bits] at hop
  obtain ⟨A, n, c, l, rfl, hnc, hr, hl, hn⟩ := smps_open (hval 1 _ v1 rfl rfl) h1
  have hn' : n * 16 ≤ 140737488355328 := by
    rcases hn with rfl | ⟨es, sp, rfl, hle⟩
    · omega
    · have := sized_slice hs (j := 1) rfl rfl Try.underlying22
      rw [bytesRefSample] at this
      have := reachBytes_lt
      omega
  exact law_folds op A n c l W hr hl hop hn'
set_option maxRecDepth 100000 in
theorem tallyFolds_lifted (os : Os) (started : os.Started) (H : Type) (enc : TypeId × Value → H) :
    ReturnsInHanded {} Try.checked os 3 .any (Rows.tallyFoldsSpec.pre6 enc Try.prog Try.f3 Rows.tallyFoldsRow.domain false) (Rows.tallyFoldsSpec.post enc Try.prog Try.f3 false true false false) :=
  law_lifted_sized (C := Try.checked) own started (by kernel_rfl) Try.func3 laidOut (by kernel_rfl) rfl Try.underlying4 rfl rfl
    (fun ds h => by obtain ⟨d0, d1, rfl⟩ := list2 h; rfl)
    (ChangeSpec.witness6 (enc := enc) (C := Try.checked) false ⟨#[], #[.int .i64 0, .slice none 0 0], []⟩ 8 (by kernel_rfl) (by kernel_rfl) (by kernel_rfl) (by kernel_rfl))
    tallyFolds_walk
theorem tallyFolds_holds : Rows.TallyFoldsSaid :=
  OpenClaim.holds_of_wide 3 Try.f3 rfl rfl rfl rfl rfl rfl rfl ⟨rfl, rfl, rfl, rfl, rfl⟩ rfl rfl rfl rfl rfl (by kernel_rfl) Try.func3 (by kernel_rfl)
    (of_decide_eq_true (by kernel_rfl)) (by unfold Func.isWrapper; rw [if_neg (of_decide_eq_false (by kernel_rfl))]; exact ⟨rfl, rfl⟩)
    (fun os started H enc _ => tallyFolds_lifted os started H enc)
#print axioms tallyFolds_holds
end
end Go.Proofs.Ytijegnhkkgdihaa
