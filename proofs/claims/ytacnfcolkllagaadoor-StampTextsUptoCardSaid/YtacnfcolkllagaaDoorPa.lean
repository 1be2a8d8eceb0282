import Derived.Test.YtacnfcolkllagaaDoorNm
/-! The stamp that a text is: the program's. -/
namespace Go.Proofs.YtacnfcolkllagaaDoor
open Go.RowKit
set_option linter.unusedVariables false
set_option linter.unusedSimpArgs false
structure Sts where
  a : Nat
  b : Nat
  c : Nat
def stO : List (List UInt8) → Option Sts
  | [a, b, c] => match numR a 4611686018427387904 with
    | none => none
    | some x => match numR b 4294967295 with
      | none => none
      | some y => match numR c 4294967295 with
        | none => none
        | some z => some ⟨x, y, z⟩
  | _ => none
def stW : Option Sts → Int
  | none => 0
  | some r => r.a
def stT : Option Sts → Int
  | none => 0
  | some r => r.b
def stM : Option Sts → Int
  | none => 0
  | some r => r.c
def stE : Option Sts → Int
  | none => 10
  | some r => 0
theorem stO_len {l : List (List UInt8)} (h : l.length ≠ 3) : stO l = none := by
  match l, h with
  | [], _ => rfl
  | [_], _ => rfl
  | [_, _], _ => rfl
  | [_, _, _], h => exact absurd rfl h
  | _ :: _ :: _ :: _ :: _, _ => rfl
theorem stO_three (a b c : List UInt8) : stO [a, b, c] = if (partP a).2 = true ∧ (partP b).2 = true ∧ (partP c).2 = true ∧ (partP a).1 ≤ 4611686018427387904 ∧ (partP b).1 ≤ 4294967295 ∧ (partP c).1 ≤ 4294967295 then some ⟨(partP a).1, (partP b).1, (partP c).1⟩ else none := by
  unfold stO
  dsimp only
  rw [partP_eq a _ (by omega), partP_eq b _ (by omega), partP_eq c _ (by omega)]
  by_cases h1 : (partP a).2 = true ∧ (partP a).1 ≤ 4611686018427387904
  · rw [if_pos h1]
    dsimp only
    by_cases h2 : (partP b).2 = true ∧ (partP b).1 ≤ 4294967295
    · rw [if_pos h2]
      dsimp only
      by_cases h3 : (partP c).2 = true ∧ (partP c).1 ≤ 4294967295
      · rw [if_pos h3, if_pos ⟨h1.1, h2.1, h3.1, h1.2, h2.2, h3.2⟩]
      · rw [if_neg h3]
        dsimp only
        rw [if_neg (fun h => h3 ⟨h.2.2.1, h.2.2.2.2.2⟩)]
    · rw [if_neg h2]
      dsimp only
      rw [if_neg (fun h => h2 ⟨h.2.1, h.2.2.2.2.1⟩)]
  · rw [if_neg h1]
    dsimp only
    rw [if_neg (fun h => h1 ⟨h.1, h.2.2.2.1⟩)]
theorem split_any (s : ByteArray) (hs : s.size < 4294967281) (w : World) (hx : Sx w) :
    ∃ L : List ByteArray, L.map (·.data.toList) = dotL s.data.toList ∧ (∀ x ∈ L, x.size ≤ s.size) ∧ Calls Tryd.prog 13 #[.string s, .string ⟨#[46]⟩] w fun e w' => e = .returned (.slice (some ⟨w.heap.size, 0, none⟩) L.length L.length) ∧ w' = w.alloc (.cells (L.map Value.string).toArray 9) := by
  obtain ⟨m, hm⟩ := hx.mx
  have h := Tryd.strings_Split s ⟨#[46]⟩ m w hs hm (by decide)
  refine ⟨Lib.splitB ⟨#[46]⟩ 0 (Lib.countB s ⟨#[46]⟩) s, ?_, ?_, ?_⟩
  · rw [Lib.splitB_data]
    exact splitK_dot _
  · have key : ∀ (k : Nat) (s : ByteArray), ∀ x ∈ Lib.splitB ⟨#[46]⟩ 0 k s, x.size ≤ s.size := by
      intro k
      induction k with
      | zero => intro s x hx; simp [Lib.splitB] at hx; subst hx; exact Nat.le_refl _
      | succ k ih =>
        intro s x hx
        unfold Lib.splitB at hx
        split at hx
        · simp at hx; subst hx; exact Nat.le_refl _
        · rcases List.mem_cons.1 hx with rfl | hx
          · rw [ByteArray.size_extract]; omega
          · have := ih _ x hx
            rw [ByteArray.size_extract] at this
            omega
    exact key _ _
  · have hl : (Lib.splitB ⟨#[46]⟩ 0 (Lib.countB s ⟨#[46]⟩) s).length = Lib.countB s ⟨#[46]⟩ + 1 := Lib.splitB_all ⟨#[46]⟩ (by decide) 0 _ s rfl
    rw [hl]
    exact h
set_option maxRecDepth 100000 in
set_option maxHeartbeats 16000000 in
theorem sparse_any (s : ByteArray) (hs : s.size < 4294967281) (w : World) (hx : Sx w) :
    Calls Tryd.prog 6 #[.string s] w fun e w' => e = .returned (.tuple #[.agg #[.int .i64 (stW (stO (dotL s.data.toList))), .int .u32 (stT (stO (dotL s.data.toList))), .int .u32 (stM (stO (dotL s.data.toList)))], .int .i64 (stE (stO (dotL s.data.toList)))]) ∧ Below w.heap.size w w' := by
  have hb00 : Below w.heap.size w (w.alloc (.cells #[.int .i64 0, .int .u32 0, .int .u32 0] 26)) := Below.alloc (Below.refl _ _) (Nat.le_refl _) _
  have hB0 := Blk.new w 26 #[.int .i64 0, .int .u32 0, .int .u32 0]
  obtain ⟨L, hL, hLs, hSp⟩ := split_any s hs (w.alloc (.cells #[.int .i64 0, .int .u32 0, .int .u32 0] 26)) (hx.below hb00)
  rw [← hL]
  have hD1 := Blk.new (w.alloc (.cells #[.int .i64 0, .int .u32 0, .int .u32 0] 26)) 9 (L.map Value.string).toArray
  have hB1 := hB0.alloc (.cells (L.map Value.string).toArray 9)
  have hb01 : Below w.heap.size w ((w.alloc (.cells #[.int .i64 0, .int .u32 0, .int .u32 0] 26)).alloc (.cells (L.map Value.string).toArray 9)) := hb00.alloc (by simp) _
  have hx1 := hx.below hb01
  have e0 : (w.alloc (.cells #[.int .i64 0, .int .u32 0, .int .u32 0] 26)).heap.size = w.heap.size + 1 := by simp
  rw [e0] at hD1 hSp
  by_cases h3 : L.length = 3
  case neg =>
    have hO := hide (stO_len (l := L.map (·.data.toList)) (by simpa using h3))
    have d3 : ((L.length : Int) != 3) = true := by simp; omega
    have kf1 := hB1.frozen
    have kg1 := hB1.cell
    clear hL hLs h3 hx hB0 hb00 hx1 hD1
    go_enter Tryd.func6, Tryd.ntmps6
    go_wp2_with (first
      | (go_at_call 13; (with_reducible refine hSp.mono ?_); rintro e w1 ⟨rfl, rfl⟩))
    refine bodyPost_cell_tmp (cs := #[.int .i64 0, .int .u32 0, .int .u32 0]) Tryd.results6 rfl (by first | exact hB1 | exact Blk.three hB1) Tryd.underlying26 rfl (by kernel_rfl) rfl ⟨?_, ?_⟩
    · rw [hO.out]; rfl
    · first | exact hb01 | exact hb01.setCell (by first | exact Nat.le_refl _ | (simp; done)) _ |>.setCell (by first | exact Nat.le_refl _ | (simp; done)) _ |>.setCell (by first | exact Nat.le_refl _ | (simp; done)) _
  obtain ⟨a, b, c, rfl⟩ : ∃ a b c, L = [a, b, c] := by
    match L, h3 with
    | [a, b, c], _ => exact ⟨a, b, c, rfl⟩
  have hST := stO_three a.data.toList b.data.toList c.data.toList
  simp only [List.map_cons, List.map_nil, List.length_cons, List.length_nil] at hSp hD1 hB1 hb01 hx1 ⊢
  have hP0 := fun w hx => part_any a (by have := hLs a (by simp); omega) w hx
  have hP1 := fun w hx => part_any b (by have := hLs b (by simp); omega) w hx
  have hP2 := fun w hx => part_any c (by have := hLs c (by simp); omega) w hx
  have l0 := partP_lt a.data.toList
  have l1 := partP_lt b.data.toList
  have l2 := partP_lt c.data.toList
  obtain ⟨⟨x, ba⟩, ea⟩ : ∃ r, partP a.data.toList = r := ⟨_, rfl⟩
  obtain ⟨⟨y, bb⟩, eb⟩ : ∃ r, partP b.data.toList = r := ⟨_, rfl⟩
  obtain ⟨⟨z, bc⟩, ec⟩ : ∃ r, partP c.data.toList = r := ⟨_, rfl⟩
  rw [ea, eb, ec] at hST
  rw [ea] at hP0 l0
  rw [eb] at hP1 l1
  rw [ec] at hP2 l2
  dsimp only at hP0 hP1 hP2 l0 l1 l2 hST
  have kc1 := hD1.cell
  clear hL hLs h3 hx hB0 hb00 ea eb ec e0
  cases ba with
  | false =>
    rw [if_neg (by simp)] at hST
    have hO := hide hST
    clear hST
    go_enter Tryd.func6, Tryd.ntmps6
    go_wp2_with (first
      | (go_at_call 13; (with_reducible refine hSp.mono ?_); rintro e w1 ⟨rfl, rfl⟩)
      | (go_at_call 14; (with_reducible refine (hP0 _ hx1).mono ?_); rintro e w2 ⟨rfl, hb2⟩; have hx2 := hx1.below hb2; have hD2 := hD1.below hb2 hD1.lt; have hB2 := hB1.below hb2 hB1.lt; have kc2 := hD2.cell; have kf2 := hB2.frozen; have kg2 := hB2.cell; have hs2 := hb2.size)
      | (go_at_call 14; (with_reducible refine (hP1 _ hx2).mono ?_); rintro e w3 ⟨rfl, hb3⟩; have hx3 := hx2.below hb3; have hD3 := hD2.below hb3 hD2.lt; have hB3 := hB2.below hb3 hB2.lt; have kc3 := hD3.cell; have kf3 := hB3.frozen; have kg3 := hB3.cell; have hb13 := hb2.trans (hb3.mono hs2))
      | (go_at_call 14; (with_reducible refine (hP2 _ hx3).mono ?_); rintro e w4 ⟨rfl, hb4⟩; have hB4 := hB3.below hb4 hB3.lt; have kf4 := hB4.frozen; have kg4 := hB4.cell; have hb14 := hb13.trans (hb4.mono hb13.size)))
    refine bodyPost_cell_tmp (cs := #[.int .i64 0, .int .u32 0, .int .u32 0]) Tryd.results6 rfl (Blk.three hB4) Tryd.underlying26 rfl (by kernel_rfl) rfl ⟨?_, ?_⟩
    · rw [hO.out]; rfl
    · exact (hb01.trans (hb14.mono hb01.size)).setCell (by first | exact Nat.le_refl _ | (simp; done)) _ |>.setCell (by first | exact Nat.le_refl _ | (simp; done)) _ |>.setCell (by first | exact Nat.le_refl _ | (simp; done)) _
  | true =>
    cases bb with
    | false =>
      rw [if_neg (by simp)] at hST
      have hO := hide hST
      clear hST
      go_enter Tryd.func6, Tryd.ntmps6
      go_wp2_with (first
        | (go_at_call 13; (with_reducible refine hSp.mono ?_); rintro e w1 ⟨rfl, rfl⟩)
        | (go_at_call 14; (with_reducible refine (hP0 _ hx1).mono ?_); rintro e w2 ⟨rfl, hb2⟩; have hx2 := hx1.below hb2; have hD2 := hD1.below hb2 hD1.lt; have hB2 := hB1.below hb2 hB1.lt; have kc2 := hD2.cell; have kf2 := hB2.frozen; have kg2 := hB2.cell; have hs2 := hb2.size)
        | (go_at_call 14; (with_reducible refine (hP1 _ hx2).mono ?_); rintro e w3 ⟨rfl, hb3⟩; have hx3 := hx2.below hb3; have hD3 := hD2.below hb3 hD2.lt; have hB3 := hB2.below hb3 hB2.lt; have kc3 := hD3.cell; have kf3 := hB3.frozen; have kg3 := hB3.cell; have hb13 := hb2.trans (hb3.mono hs2))
        | (go_at_call 14; (with_reducible refine (hP2 _ hx3).mono ?_); rintro e w4 ⟨rfl, hb4⟩; have hB4 := hB3.below hb4 hB3.lt; have kf4 := hB4.frozen; have kg4 := hB4.cell; have hb14 := hb13.trans (hb4.mono hb13.size)))
      refine bodyPost_cell_tmp (cs := #[.int .i64 0, .int .u32 0, .int .u32 0]) Tryd.results6 rfl (Blk.three hB4) Tryd.underlying26 rfl (by kernel_rfl) rfl ⟨?_, ?_⟩
      · rw [hO.out]; rfl
      · exact (hb01.trans (hb14.mono hb01.size)).setCell (by first | exact Nat.le_refl _ | (simp; done)) _ |>.setCell (by first | exact Nat.le_refl _ | (simp; done)) _ |>.setCell (by first | exact Nat.le_refl _ | (simp; done)) _
    | true =>
      cases bc with
      | false =>
        rw [if_neg (by simp)] at hST
        have hO := hide hST
        clear hST
        go_enter Tryd.func6, Tryd.ntmps6
        go_wp2_with (first
          | (go_at_call 13; (with_reducible refine hSp.mono ?_); rintro e w1 ⟨rfl, rfl⟩)
          | (go_at_call 14; (with_reducible refine (hP0 _ hx1).mono ?_); rintro e w2 ⟨rfl, hb2⟩; have hx2 := hx1.below hb2; have hD2 := hD1.below hb2 hD1.lt; have hB2 := hB1.below hb2 hB1.lt; have kc2 := hD2.cell; have kf2 := hB2.frozen; have kg2 := hB2.cell; have hs2 := hb2.size)
          | (go_at_call 14; (with_reducible refine (hP1 _ hx2).mono ?_); rintro e w3 ⟨rfl, hb3⟩; have hx3 := hx2.below hb3; have hD3 := hD2.below hb3 hD2.lt; have hB3 := hB2.below hb3 hB2.lt; have kc3 := hD3.cell; have kf3 := hB3.frozen; have kg3 := hB3.cell; have hb13 := hb2.trans (hb3.mono hs2))
          | (go_at_call 14; (with_reducible refine (hP2 _ hx3).mono ?_); rintro e w4 ⟨rfl, hb4⟩; have hB4 := hB3.below hb4 hB3.lt; have kf4 := hB4.frozen; have kg4 := hB4.cell; have hb14 := hb13.trans (hb4.mono hb13.size)))
        refine bodyPost_cell_tmp (cs := #[.int .i64 0, .int .u32 0, .int .u32 0]) Tryd.results6 rfl (Blk.three hB4) Tryd.underlying26 rfl (by kernel_rfl) rfl ⟨?_, ?_⟩
        · rw [hO.out]; rfl
        · exact (hb01.trans (hb14.mono hb01.size)).setCell (by first | exact Nat.le_refl _ | (simp; done)) _ |>.setCell (by first | exact Nat.le_refl _ | (simp; done)) _ |>.setCell (by first | exact Nat.le_refl _ | (simp; done)) _
      | true =>
        by_cases hx4 : x ≤ 4611686018427387904
        case neg =>
          rw [if_neg (fun h => hx4 h.2.2.2.1)] at hST
          have hO := hide hST
          have t1 : (4611686018427387904 : Int) < x := by omega
          clear hST
          go_enter Tryd.func6, Tryd.ntmps6
          go_wp2_with (first
            | (go_at_call 13; (with_reducible refine hSp.mono ?_); rintro e w1 ⟨rfl, rfl⟩)
            | (go_at_call 14; (with_reducible refine (hP0 _ hx1).mono ?_); rintro e w2 ⟨rfl, hb2⟩; have hx2 := hx1.below hb2; have hD2 := hD1.below hb2 hD1.lt; have hB2 := hB1.below hb2 hB1.lt; have kc2 := hD2.cell; have kf2 := hB2.frozen; have kg2 := hB2.cell; have hs2 := hb2.size)
            | (go_at_call 14; (with_reducible refine (hP1 _ hx2).mono ?_); rintro e w3 ⟨rfl, hb3⟩; have hx3 := hx2.below hb3; have hD3 := hD2.below hb3 hD2.lt; have hB3 := hB2.below hb3 hB2.lt; have kc3 := hD3.cell; have kf3 := hB3.frozen; have kg3 := hB3.cell; have hb13 := hb2.trans (hb3.mono hs2))
            | (go_at_call 14; (with_reducible refine (hP2 _ hx3).mono ?_); rintro e w4 ⟨rfl, hb4⟩; have hB4 := hB3.below hb4 hB3.lt; have kf4 := hB4.frozen; have kg4 := hB4.cell; have hb14 := hb13.trans (hb4.mono hb13.size)))
          refine bodyPost_cell_tmp (cs := #[.int .i64 0, .int .u32 0, .int .u32 0]) Tryd.results6 rfl (Blk.three hB4) Tryd.underlying26 rfl (by kernel_rfl) rfl ⟨?_, ?_⟩
          · rw [hO.out]; rfl
          · exact (hb01.trans (hb14.mono hb01.size)).setCell (by first | exact Nat.le_refl _ | (simp; done)) _ |>.setCell (by first | exact Nat.le_refl _ | (simp; done)) _ |>.setCell (by first | exact Nat.le_refl _ | (simp; done)) _
        have t1 : ¬ (4611686018427387904 : Int) < x := by omega
        by_cases hy4 : y ≤ 4294967295
        case neg =>
          rw [if_neg (fun h => hy4 h.2.2.2.2.1)] at hST
          have hO := hide hST
          have t2 : (4294967295 : Int) < y := by omega
          clear hST
          go_enter Tryd.func6, Tryd.ntmps6
          go_wp2_with (first
            | (go_at_call 13; (with_reducible refine hSp.mono ?_); rintro e w1 ⟨rfl, rfl⟩)
            | (go_at_call 14; (with_reducible refine (hP0 _ hx1).mono ?_); rintro e w2 ⟨rfl, hb2⟩; have hx2 := hx1.below hb2; have hD2 := hD1.below hb2 hD1.lt; have hB2 := hB1.below hb2 hB1.lt; have kc2 := hD2.cell; have kf2 := hB2.frozen; have kg2 := hB2.cell; have hs2 := hb2.size)
            | (go_at_call 14; (with_reducible refine (hP1 _ hx2).mono ?_); rintro e w3 ⟨rfl, hb3⟩; have hx3 := hx2.below hb3; have hD3 := hD2.below hb3 hD2.lt; have hB3 := hB2.below hb3 hB2.lt; have kc3 := hD3.cell; have kf3 := hB3.frozen; have kg3 := hB3.cell; have hb13 := hb2.trans (hb3.mono hs2))
            | (go_at_call 14; (with_reducible refine (hP2 _ hx3).mono ?_); rintro e w4 ⟨rfl, hb4⟩; have hB4 := hB3.below hb4 hB3.lt; have kf4 := hB4.frozen; have kg4 := hB4.cell; have hb14 := hb13.trans (hb4.mono hb13.size)))
          refine bodyPost_cell_tmp (cs := #[.int .i64 0, .int .u32 0, .int .u32 0]) Tryd.results6 rfl (Blk.three hB4) Tryd.underlying26 rfl (by kernel_rfl) rfl ⟨?_, ?_⟩
          · rw [hO.out]; rfl
          · exact (hb01.trans (hb14.mono hb01.size)).setCell (by first | exact Nat.le_refl _ | (simp; done)) _ |>.setCell (by first | exact Nat.le_refl _ | (simp; done)) _ |>.setCell (by first | exact Nat.le_refl _ | (simp; done)) _
        have t2 : ¬ (4294967295 : Int) < y := by omega
        by_cases hz4 : z ≤ 4294967295
        case neg =>
          rw [if_neg (fun h => hz4 h.2.2.2.2.2)] at hST
          have hO := hide hST
          have t3 : (4294967295 : Int) < z := by omega
          clear hST
          go_enter Tryd.func6, Tryd.ntmps6
          go_wp2_with (first
            | (go_at_call 13; (with_reducible refine hSp.mono ?_); rintro e w1 ⟨rfl, rfl⟩)
            | (go_at_call 14; (with_reducible refine (hP0 _ hx1).mono ?_); rintro e w2 ⟨rfl, hb2⟩; have hx2 := hx1.below hb2; have hD2 := hD1.below hb2 hD1.lt; have hB2 := hB1.below hb2 hB1.lt; have kc2 := hD2.cell; have kf2 := hB2.frozen; have kg2 := hB2.cell; have hs2 := hb2.size)
            | (go_at_call 14; (with_reducible refine (hP1 _ hx2).mono ?_); rintro e w3 ⟨rfl, hb3⟩; have hx3 := hx2.below hb3; have hD3 := hD2.below hb3 hD2.lt; have hB3 := hB2.below hb3 hB2.lt; have kc3 := hD3.cell; have kf3 := hB3.frozen; have kg3 := hB3.cell; have hb13 := hb2.trans (hb3.mono hs2))
            | (go_at_call 14; (with_reducible refine (hP2 _ hx3).mono ?_); rintro e w4 ⟨rfl, hb4⟩; have hB4 := hB3.below hb4 hB3.lt; have kf4 := hB4.frozen; have kg4 := hB4.cell; have hb14 := hb13.trans (hb4.mono hb13.size)))
          refine bodyPost_cell_tmp (cs := #[.int .i64 0, .int .u32 0, .int .u32 0]) Tryd.results6 rfl (Blk.three hB4) Tryd.underlying26 rfl (by kernel_rfl) rfl ⟨?_, ?_⟩
          · rw [hO.out]; rfl
          · exact (hb01.trans (hb14.mono hb01.size)).setCell (by first | exact Nat.le_refl _ | (simp; done)) _ |>.setCell (by first | exact Nat.le_refl _ | (simp; done)) _ |>.setCell (by first | exact Nat.le_refl _ | (simp; done)) _
        have t3 : ¬ (4294967295 : Int) < z := by omega
        rw [if_pos ⟨rfl, rfl, rfl, hx4, hy4, hz4⟩] at hST
        have hO := hide hST
        have v1 : IntKind.i64.wrap (x : Int) = x := by rw [IntKind.wrap_i64]; omega
        have v2 : IntKind.u32.wrap (y : Int) = y := by rw [IntKind.wrap_u32]; omega
        have v3 : IntKind.u32.wrap (z : Int) = z := by rw [IntKind.wrap_u32]; omega
        clear hST
        go_enter Tryd.func6, Tryd.ntmps6
        go_wp2_with (first
          | (go_at_call 13; (with_reducible refine hSp.mono ?_); rintro e w1 ⟨rfl, rfl⟩)
          | (go_at_call 14; (with_reducible refine (hP0 _ hx1).mono ?_); rintro e w2 ⟨rfl, hb2⟩; have hx2 := hx1.below hb2; have hD2 := hD1.below hb2 hD1.lt; have hB2 := hB1.below hb2 hB1.lt; have kc2 := hD2.cell; have kf2 := hB2.frozen; have kg2 := hB2.cell; have hs2 := hb2.size)
          | (go_at_call 14; (with_reducible refine (hP1 _ hx2).mono ?_); rintro e w3 ⟨rfl, hb3⟩; have hx3 := hx2.below hb3; have hD3 := hD2.below hb3 hD2.lt; have hB3 := hB2.below hb3 hB2.lt; have kc3 := hD3.cell; have kf3 := hB3.frozen; have kg3 := hB3.cell; have hb13 := hb2.trans (hb3.mono hs2))
          | (go_at_call 14; (with_reducible refine (hP2 _ hx3).mono ?_); rintro e w4 ⟨rfl, hb4⟩; have hB4 := hB3.below hb4 hB3.lt; have kf4 := hB4.frozen; have kg4 := hB4.cell; have hb14 := hb13.trans (hb4.mono hb13.size)))
        refine bodyPost_cell_tmp (cs := #[.int .i64 (x : Int), .int .u32 (y : Int), .int .u32 (z : Int)]) Tryd.results6 rfl (Blk.three hB4) Tryd.underlying26 rfl (by kernel_rfl) rfl ⟨?_, ?_⟩
        · rw [hO.out]; rfl
        · exact (hb01.trans (hb14.mono hb01.size)).setCell (by first | exact Nat.le_refl _ | (simp; done)) _ |>.setCell (by first | exact Nat.le_refl _ | (simp; done)) _ |>.setCell (by first | exact Nat.le_refl _ | (simp; done)) _
end Go.Proofs.YtacnfcolkllagaaDoor
