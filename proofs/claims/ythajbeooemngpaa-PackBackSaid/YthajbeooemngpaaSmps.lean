import Derived.Test.YthajbeooemngpaaRows
import Derived.Test.YthajbeooemngpaaKit
import Derived.WalkSpells
import Derived.WalkLawsBesides
import Derived.Test.YthajbeooemngpaaFirst
import Derived.Test.YthajbeooemngpaaGrow
import Derived.Deep.SlicePairs
import Derived.SizedLaws
/-! Samples: their cells, an argument's, and the program's copy of the document's. -/
namespace Go.Proofs.Ythajbeooemngpaa
open Go.RowKit
set_option linter.unusedVariables false
set_option linter.unusedSimpArgs false
def smps (l : List (Int × Int)) : List Value := l.flatMap fun p => [.int .i64 p.1, .int .i64 p.2]
theorem smps_length (l : List (Int × Int)) : (smps l).length = l.length * 2 := by
  induction l with
  | nil => rfl
  | cons p l ih => simp only [smps, List.flatMap_cons, List.length_append, List.length_cons, List.length_nil] at *; omega
theorem smps_append (l m : List (Int × Int)) : smps (l ++ m) = smps l ++ smps m := by simp [smps]
theorem smps_get : ∀ (l : List (Int × Int)) (i : Nat) (p : Int × Int), l[i]? = some p → (smps l)[i * 2]? = some (.int .i64 p.1) ∧ (smps l)[i * 2 + 1]? = some (.int .i64 p.2)
  | q :: l, 0, p, h => by
    simp only [List.getElem?_cons_zero, Option.some.injEq] at h
    subst h
    exact ⟨rfl, rfl⟩
  | q :: l, i + 1, p, h => by
    have := smps_get l i p (by simpa using h)
    have e : smps (q :: l) = .int .i64 q.1 :: .int .i64 q.2 :: smps l := rfl
    rw [e, show (i + 1) * 2 = i * 2 + 1 + 1 by omega]
    exact this
theorem infoS : (Try.prog.info? 36).map (fun i => (i.zero, i.size, i.bytes)) = some (some (.agg #[.int .i64 0, .int .i64 0]), 2, 16) := by kernel_rfl
theorem to_any (A : Option Addr) (n c : Nat) (l : List (Int × Int)) (w : World) (hr : Reads w w.heap.size 2 A n (smps l)) (hn : n * 16 ≤ 140737488355328) :
    Calls Try.prog 16 #[.slice A n c] w fun e w' => ∃ v, e = .returned v ∧ w'.ownsRow w.heap.size 36 2 v n (smps l) ∧ Below w.heap.size w w' := by
  obtain ⟨i0, hi, hz0, hz1, hz2⟩ := info_parts infoS
  have hl : l.length = n := by have := hr.1; rw [smps_length] at this; omega
  by_cases h0 : n = 0
  · subst h0
    obtain rfl : l = [] := List.length_eq_zero_iff.1 hl
    go_enter Try.func16, Try.ntmps16
    go_wp2
    go_loopw [3, 8] (fun v s wr => v = .slice none 0 0 ∧ s = .int .i64 0 ∧ wr = w) (fun _ s _ => 0)
    case atStart => exact ⟨rfl, rfl, rfl⟩
    case round =>
      obtain ⟨rfl, rfl, rfl⟩ := hrel
      go_wp2
      go_ret
      exact ⟨_, rfl, ⟨rfl, .inl ⟨rfl, rfl⟩⟩, Below.refl _ _⟩
  · obtain ⟨b, o, rfl, hb, hc⟩ := hr.plain (by omega) (by omega)
    go_enter Try.func16, Try.ntmps16
    go_wp2
    go_loopw [3, 8] (fun v s wr => ∃ j : Nat, j ≤ n ∧ s = .int .i64 (j : Int) ∧ wr.ownsRow w.heap.size 36 2 v j (smps (l.take j)) ∧ Below w.heap.size w wr) (fun _ s _ => ((n : Int) - intOf s).toNat)
    case atStart => exact ⟨0, by omega, rfl, ⟨rfl, .inl ⟨rfl, rfl⟩⟩, Below.refl _ _⟩
    case round =>
      obtain ⟨j, hj, rfl, hown, hbel⟩ := hrel
      have hcell0 := hbel.size
      by_cases hlt : j < n
      · have hg : l[j]? = some l[j] := List.getElem?_eq_getElem (by omega)
        obtain ⟨g1, g2⟩ := smps_get l j _ hg
        have m1 : wr.cell? ⟨b, o + j * 2, none⟩ = some (.int .i64 l[j].1) := by rw [hbel.cell (p := ⟨b, _, none⟩) hb]; exact hc _ _ g1
        have m2 : wr.cell? ⟨b, o + j * 2 + 1, none⟩ = some (.int .i64 l[j].2) := by rw [hbel.cell (p := ⟨b, _, none⟩) hb, Nat.add_assoc]; exact hc _ _ g2
        go_wp2_with (at_builtin; go_must (refine wpList_append_own _ rfl (.tmp 12) (.tmp 18) 27 rfl (w.heap.size) 36 i0 (.agg #[.int .i64 0, .int .i64 0]) 2 16 Try.underlying27 hi hz0 hz1 hz2 rfl (by decide) u3 (j) _ rfl ((hown.alloc _).alloc _) ⟨wr.heap.size + 1, 0, none⟩ 1 1 [.int .i64 l[j].1, .int .i64 l[j].2] rfl rfl ?c1 ?c2 ?c3 ?c4 ?c5 ?_))
        case c1 => exact cells_new_at _ #[_, _] _ (by simp)
        case c2 => simp [Value.oneCell']
        case c3 => unfold maxLen; omega
        case c4 => omega
        case c5 => simp; omega
        intro v' w1 hown1 hg1 _
        have hbel1 := own_below ((hbel.alloc hcell0 _).alloc (by simp; omega) _) ((hown.alloc _).alloc _) hg1 (Nat.le_refl _) (by simp; omega)
        have ht : smps (l.take (j + 1)) = smps (l.take j) ++ [.int .i64 l[j].1, .int .i64 l[j].2] := by
          rw [List.take_add_one, hg, smps_append]; rfl
        rw [← ht] at hown1
        clear ht
        go_wp2
        go_roundw
        case rel => exact ⟨j + 1, by omega, by go_num, hown1, hbel1⟩
        case measure => simp [intOf]; omega
      · obtain rfl : j = n := by omega
        rw [List.take_of_length_le (by omega)] at hown
        clear hlt
        go_wp2
        go_ret
        exact ⟨_, rfl, hown, hbel⟩
def I64s (l : List (Int × Int)) : Prop := ∀ p ∈ l, (-9223372036854775808 ≤ p.1 ∧ p.1 ≤ 9223372036854775807) ∧ -9223372036854775808 ≤ p.2 ∧ p.2 ≤ 9223372036854775807
theorem own_slice {base : Nat} {e : TypeId} {size n : Nat} {w : World} {v : Value} {xs : List Value} (h : w.ownsRow base e size v n xs) : ∃ A cap, v = .slice A n cap ∧ n ≤ cap := by
  rcases h.2 with ⟨rfl, rfl⟩ | ⟨g, cap, cur, rfl, -, -, hn, -⟩
  · exact ⟨none, 0, rfl, Nat.le_refl _⟩
  · exact ⟨_, _, rfl, hn⟩
section
open Go.ChangeShapes Go.WideShapes Go.ChangeAt
variable {H : Type} {enc : TypeId × Value → H}
theorem own : ownKnob Try.checked.prog.godebug = none := rfl
set_option maxRecDepth 100000 in
theorem laidOut : laidOutB Try.prog = true := by kernel_rfl
theorem cellsRefSample : Try.prog.cellsOf 115 = 2 := by kernel_rfl
theorem bytesRefSample : Try.prog.bytesOf 115 = 16 := by kernel_rfl
theorem smps_row (n : Nat) (f : Nat → Int × Int) (j : Nat) (u : Value) (h : (smps ((List.range n).map f))[j]? = some u) : ∃ i, i < n ∧ ((j = i * 2 ∧ u = .int .i64 (f i).1) ∨ (j = i * 2 + 1 ∧ u = .int .i64 (f i).2)) := by
  have hj : j < n * 2 := by
    rcases Nat.lt_or_ge j (n * 2) with h' | h'
    · exact h'
    · rw [List.getElem?_eq_none (by rw [smps_length]; simpa using h')] at h; cases h
  have hg : ((List.range n).map f)[j / 2]? = some (f (j / 2)) := by rw [List.getElem?_map, List.getElem?_range (by omega)]; rfl
  obtain ⟨g1, g2⟩ := smps_get _ _ _ hg
  refine ⟨j / 2, by omega, ?_⟩
  by_cases he : j % 2 = 0
  · left
    rw [show j / 2 * 2 = j by omega, h] at g1
    exact ⟨by omega, Option.some.inj g1⟩
  · right
    rw [show j / 2 * 2 + 1 = j by omega, h] at g2
    exact ⟨by omega, Option.some.inj g2⟩
set_option maxRecDepth 100000 in
theorem smps_open {W : World} {base : Nat} {d : DataW H} {p : List MemPlace} {v : Value} (hv : Value.okWide Try.prog W .any base 22 v) (h : DataW.Trod enc Try.prog W 0 (fun _ => true) true 22 v d p) :
    ∃ A n c l, v = .slice A n c ∧ n ≤ c ∧ Reads W W.heap.size 2 A n (smps l) ∧ I64s l ∧ ((n = 0) ∨ ∃ es sp, d = .slice es sp ∧ n ≤ es.length + sp.length) := by
  obtain ⟨A, n, c, rfl⟩ := okWide_slice Try.underlying22 hv
  obtain ⟨fuel, hf⟩ := h
  rcases Deep.open_slice_pairs Try.underlying22 Try.underlying115 cellsRefSample rfl rfl (by kernel_rfl) (by kernel_rfl) hf with ⟨hcs, hx⟩ | ⟨a, len, cap, m, k, V0, V1, D0, D1, P0, P1, hcs, _, hl, hm, hmm, hx, hcell⟩
  · simp [Value.cells] at hcs
    obtain ⟨rfl, rfl, rfl⟩ := hcs
    exact ⟨none, 0, 0, [], rfl, by omega, Reads.none_, (fun q hq => by cases hq), .inl rfl⟩
  · simp [Value.cells] at hcs
    obtain ⟨rfl, rfl, rfl⟩ := hcs
    simp only [if_true] at hmm
    have hint : ∀ i, i < n → ∃ q : Int × Int, V0 i = .int .i64 q.1 ∧ V1 i = .int .i64 q.2 ∧ (-9223372036854775808 ≤ q.1 ∧ q.1 ≤ 9223372036854775807) ∧ (-9223372036854775808 ≤ q.2 ∧ q.2 ≤ 9223372036854775807) := fun i hi => by
      obtain ⟨_, _, t0, t1⟩ := hcell i (by omega)
      obtain ⟨x, e0, _, wx⟩ := DataW.trod_int Try.underlying2 t0
      obtain ⟨y, e1, _, wy⟩ := DataW.trod_int Try.underlying2 t1
      simp at e0 e1
      simp [Lit.wf, IntKind.min, IntKind.max, IntKind.signed, IntKind.bits] at wx wy
      exact ⟨(x, y), e0, e1, wx, wy⟩
    obtain ⟨f, hf⟩ := Deep.choose_lt hint
    refine ⟨some a, n, c, (List.range n).map f, rfl, by omega, ⟨by rw [smps_length]; simp, fun hn => ⟨a, rfl, ?_, fun j u hu => ?_⟩⟩, fun q hq => ?_, .inr ⟨_, _, (Prod.ext_iff.1 hx).1, by simp⟩⟩
    · have := World.block_lt_of_cell? _ _ (hcell 0 (by omega)).1
      rwa [block_of_add] at this
    · obtain ⟨i, hi, ⟨rfl, rfl⟩ | ⟨rfl, rfl⟩⟩ := smps_row n f j u hu
      · rw [(hcell i (by omega)).1, (hf i hi).1]
      · rw [(hcell i (by omega)).2.1, (hf i hi).2.1]
    · obtain ⟨i, hi, rfl⟩ := List.mem_map.1 hq
      exact (hf i (by simpa using hi)).2.2
theorem bound_of {ts : List TypeId} {ds : List (DataW H)} {j n : Nat} {d : DataW H} (hs : (DataW.weightsEach Try.prog ts ds).all (· ≤ reachBytes) = true) (ht : ts[j]? = some 22) (hd : ds[j]? = some d) (hn : n = 0 ∨ ∃ es sp, d = .slice es sp ∧ n ≤ es.length + sp.length) : n * 16 ≤ 140737488351232 := by
  rcases hn with rfl | ⟨es, sp, rfl, hle⟩
  · omega
  · have := sized_slice hs ht hd Try.underlying22
    rw [bytesRefSample] at this
    have h2 : reachBytes = 140737488351232 := by decide
    omega
end
end Go.Proofs.Ythajbeooemngpaa
