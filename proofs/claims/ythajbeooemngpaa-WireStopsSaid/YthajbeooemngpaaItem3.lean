import Derived.Test.YthajbeooemngpaaOrder2
import Derived.Test.YthajbeooemngpaaBulk
import Derived.Deep.Slices
import Derived.ChangeSame
/-! A list of things that was handed in. -/
namespace Go.Proofs.Ythajbeooemngpaa
open Go.RowKit
set_option linter.unusedVariables false
set_option linter.unusedSimpArgs false
section
open Go.ChangeShapes Go.WideShapes Go.ChangeAt
variable {H : Type} {enc : TypeId × Value → H} {w : World} {base : Nat} {spare : Nat → Bool} {held : Bool}
theorem len9 {α : Type} : ∀ (D : List α), D.length = 9 → ∃ a b c d e f g h i, D = [a, b, c, d, e, f, g, h, i]
  | [a, b, c, d, e, f, g, h, i], _ => ⟨a, b, c, d, e, f, g, h, i, rfl⟩
theorem len7 {α : Type} : ∀ (D : List α), D.length = 7 → ∃ a b c d e f g, D = [a, b, c, d, e, f, g]
  | [a, b, c, d, e, f, g], _ => ⟨a, b, c, d, e, f, g, rfl⟩
theorem itemB_le {x : It} (hx : x.ok) : (itemB x).length ≤ 16 + x.text.size ∨ 18446744073709551616 ≤ x.text.size := by
  obtain ⟨o1, o2, o3, o4, o5, o6, o7⟩ := hx
  rcases Nat.lt_or_ge x.text.size 18446744073709551616 with hs | hs
  · left
    unfold itemB
    unfold U64 at o2
    have h1 := numB_le x.num.toNat (by omega)
    have h2 := numB_le _ (zig_lt _ o3)
    have h3 := textB_length x.text hs
    have h4 := stampBytes_length x.wall x.tick x.mark
    have h5 : (flagB x.flag).length = 1 := rfl
    (repeat' split) <;> first | omega | (simp; done) | (simp; omega)
  · exact .inr hs
set_option maxRecDepth 100000 in
theorem item_open {fuel : Nat} {cs : List Value} {x : DataW H × List MemPlace} (h : DataW.trod enc Try.prog w base spare held fuel 51 cs = some x) :
    ∃ it : It, cs = it.cells ∧ it.ok ∧ it.text.size ≤ maxLen ∧ it.text.size + 1 ≤ Rows.uptoBulk x.1 := by
  obtain ⟨xs, n, rfl, rfl, hl, hxl, hf⟩ := DataW.trod_struct Try.underlying51 h
  rw [show Try.prog.cellsOf 51 = 9 by kernel_rfl] at hl
  obtain ⟨v0, v1, v2, v3, v4, v5, v6, v7, v8, rfl⟩ := len9 cs hl
  obtain ⟨y0, y1, y2, y3, y4, y5, y6, rfl⟩ := len7 xs hxl
  have q1 : Try.prog.cellsOf 3 = 1 := by kernel_rfl
  have q2 : Try.prog.cellsOf 34 = 1 := by kernel_rfl
  have q3 : Try.prog.cellsOf 2 = 1 := by kernel_rfl
  have q4 : Try.prog.cellsOf 4 = 1 := by kernel_rfl
  have q5 : Try.prog.cellsOf 9 = 1 := by kernel_rfl
  have q6 : Try.prog.cellsOf 49 = 3 := by kernel_rfl
  have g0 := hf 0 _ rfl
  have g1 := hf 1 _ rfl
  have g2 := hf 2 _ rfl
  have g3 := hf 3 _ rfl
  have g4 := hf 4 _ rfl
  have g5 := hf 5 _ rfl
  have g6 := hf 6 _ rfl
  simp [q1] at g0
  simp [q2] at g1
  simp [q3] at g2
  simp [q4] at g3
  simp [q5] at g4
  simp [q6] at g5
  simp [q1] at g6
  obtain ⟨a0, e0, rfl, w0⟩ := DataW.trod_int Try.underlying3 g0
  obtain ⟨a1, e1, rfl, w1⟩ := DataW.trod_int Try.underlying34 g1
  obtain ⟨a2, e2, rfl, w2⟩ := DataW.trod_int Try.underlying2 g2
  obtain ⟨a3, e3, rfl⟩ := DataW.trod_bool Try.underlying4 g3
  obtain ⟨a4, e4, rfl, w4⟩ := DataW.trod_string Try.underlying9 g4
  obtain ⟨a8, e8, rfl, w8⟩ := DataW.trod_int Try.underlying3 g6
  obtain ⟨zs, m, rfl, rfl, hzl, hzs, hz⟩ := DataW.trod_struct Try.underlying49 g5
  obtain ⟨z0, z1, z2, rfl⟩ := list3 hzs
  have q7 : Try.prog.cellsOf 47 = 1 := by kernel_rfl
  have k0 := hz 0 _ rfl
  have k1 := hz 1 _ rfl
  have k2 := hz 2 _ rfl
  simp [q3] at k0
  simp [q7] at k1
  simp [q7] at k2
  obtain ⟨a5, e5, rfl, w5⟩ := DataW.trod_int Try.underlying2 k0
  obtain ⟨a6, e6, rfl, w6⟩ := DataW.trod_int Try.underlying47 k1
  obtain ⟨a7, e7, rfl, w7⟩ := DataW.trod_int Try.underlying47 k2
  simp at e0 e1 e2 e3 e4 e5 e6 e7 e8
  subst e0 e1 e2 e3 e4 e5 e6 e7 e8
  simp [Lit.wf, IntKind.min, IntKind.max, IntKind.signed, IntKind.bits] at w0 w1 w2 w5 w6 w7 w8
  refine ⟨⟨a0, a1, a2, a3, a4, a5, a6, a7, a8⟩, rfl, ⟨w0, w1, w2, w5, w6, w7, w8⟩, w4, ?_⟩
  have hb := bulk_string (H := H) a4.data.toList
  have hp := bulk_part (d := DataW.lit (H := H) (.string a4.data.toList)) (l := [DataW.lit (.int .i64 a0), .lit (.int .u64 a1), .lit (.int .i64 a2), .lit (.bool a3), .lit (.string a4.data.toList), .agg [.lit (.int .i64 a5), .lit (.int .u32 a6), .lit (.int .u32 a7)], .lit (.int .i64 a8)]) (by simp)
  have hq := bulk_parts (H := H) [DataW.lit (.int .i64 a0), .lit (.int .u64 a1), .lit (.int .i64 a2), .lit (.bool a3), .lit (.string a4.data.toList), .agg [.lit (.int .i64 a5), .lit (.int .u32 a6), .lit (.int .u32 a7)], .lit (.int .i64 a8)]
  have hsz : a4.data.toList.length = a4.size := by rw [Array.length_toList]; rfl
  simp only [List.map_cons, List.map_nil]
  omega
theorem itms_row (n : Nat) (f : Nat → It) (j : Nat) (u : Value) (h : (itms ((List.range n).map f))[j]? = some u) : ∃ i k, i < n ∧ k < 9 ∧ j = i * 9 + k ∧ (f i).cells[k]? = some u := by
  have hj : j < n * 9 := by
    rcases Nat.lt_or_ge j (n * 9) with h' | h'
    · exact h'
    · rw [List.getElem?_eq_none (by rw [itms_length]; simpa using h')] at h; cases h
  have hg : ((List.range n).map f)[j / 9]? = some (f (j / 9)) := by rw [List.getElem?_map, List.getElem?_range (by omega)]; rfl
  have hk : j % 9 < 9 := Nat.mod_lt _ (by omega)
  have hc : (f (j / 9)).cells[j % 9]? = some ((f (j / 9)).cells[j % 9]'hk) := List.getElem?_eq_getElem hk
  have := itms_get _ _ _ hg _ _ hc
  rw [show j / 9 * 9 + j % 9 = j by omega, h] at this
  exact ⟨j / 9, j % 9, by omega, hk, by omega, hc.trans this.symm⟩
theorem bulk_map (n : Nat) (D : Nat → DataW H) (f : Nat → It) (hf : ∀ i, i < n → (itemB (f i)).length ≤ 17 * Rows.uptoBulk (D i)) : ∀ k, k ≤ n → (itemsB ((List.range k).map f)).length ≤ 17 * Rows.uptoBulkAll ((List.range k).map D)
  | 0, _ => by simp [itemsB]
  | k + 1, hk => by
    have h1 := bulk_map n D f hf k (by omega)
    have h2 := hf k (by omega)
    have e1 : ∀ (l : List (DataW H)) d, Rows.uptoBulkAll (l ++ [d]) = Rows.uptoBulkAll l + Rows.uptoBulk d := fun l d => by
      induction l with
      | nil => simp [Rows.uptoBulkAll]
      | cons a r ih => simp only [List.cons_append, Rows.uptoBulkAll, ih]; omega
    rw [List.range_succ, List.map_append, List.map_append, List.map_singleton, List.map_singleton, e1]
    unfold itemsB at *
    rw [List.flatMap_append, List.length_append]
    simp only [List.flatMap_cons, List.flatMap_nil, List.append_nil]
    omega
set_option maxRecDepth 100000 in
theorem items_open2 {W : World} {base : Nat} {d : DataW H} {p : List MemPlace} {v : Value} (hv : Value.okWide Try.prog W .any base 39 v) (h : DataW.Trod enc Try.prog W 0 (fun _ => true) true 39 v d p) :
    ∃ A n c l, v = .slice A n c ∧ n ≤ c ∧ c ≤ maxLen ∧ Reads W W.heap.size 9 A n (itms l) ∧ (∀ x ∈ l, x.ok) ∧ (itemsB l).length ≤ 17 * Rows.uptoBulk d ∧ ∀ x ∈ l, x.text.size ≤ maxLen := by
  obtain ⟨A, n, c, rfl⟩ := okWide_slice Try.underlying39 hv
  obtain ⟨fuel, hf⟩ := h
  rcases Deep.open_slice Try.underlying39 hf with ⟨hcs, hx⟩ | ⟨a, len, cap, m, k, D, Pl, hcs, _, hle, hcap, hmm, hx, hcell⟩
  · simp [Value.cells] at hcs
    obtain ⟨rfl, rfl, rfl⟩ := hcs
    exact ⟨none, 0, 0, [], rfl, by omega, by unfold maxLen; omega, Reads.none_, (fun q hq => by cases hq), by simp [itemsB], fun q hq => by cases hq⟩
  · simp [Value.cells] at hcs
    obtain ⟨rfl, rfl, rfl⟩ := hcs
    simp only [if_true] at hmm
    have hint : ∀ i, i < n → ∃ q : It, (∀ k u, q.cells[k]? = some u → W.cell? (a.add (i * 9 + k)) = some u) ∧ q.ok ∧ (itemB q).length ≤ 17 * Rows.uptoBulk (D i) ∧ q.text.size ≤ maxLen := fun i hi => by
      obtain ⟨cs', h1, h2⟩ := hcell i (by omega)
      rw [show Try.prog.cellsOf 51 = 9 by kernel_rfl] at h1
      obtain ⟨_, hlen, hc⟩ := World.cells?_some h1
      obtain ⟨q, rfl, hq, hs, hb⟩ := item_open h2
      refine ⟨q, fun k u hu => ?_, hq, ?_, hs⟩
      · have hk : k < 9 := (List.getElem?_eq_some_iff.1 hu).1
        have := hc k hk
        rw [add_of_add] at this
        rw [this, hu]
      · rcases itemB_le hq with h' | h'
        · simp only at hb
          omega
        · unfold maxLen at hs
          omega
    obtain ⟨f, hf⟩ := Deep.choose_lt hint
    have hbulk := bulk_map n D f (fun i hi => (hf i hi).2.2.1) n (Nat.le_refl _)
    refine ⟨some a, n, c, (List.range n).map f, rfl, by omega, by omega, ⟨by rw [itms_length]; simp, fun hn => ⟨a, rfl, ?_, fun j u hu => ?_⟩⟩, fun q hq => ?_, ?_, fun q hq => ?_⟩
    · have := World.block_lt_of_cell? _ _ ((hf 0 hn).1 0 _ rfl)
      rwa [block_of_add] at this
    · obtain ⟨i, k, hi, hk, rfl, hc⟩ := itms_row n f j u hu
      exact (hf i hi).1 k u hc
    · obtain ⟨i, hi, rfl⟩ := List.mem_map.1 hq
      exact (hf i (by simpa using hi)).2.1
    · have hd := (Prod.ext_iff.1 hx).1
      simp only at hd
      rw [hd]
      have := bulk_elems ((List.range n).map D) ((List.range (m - n)).map fun j => D (n + j))
      omega
    · obtain ⟨i, hi, rfl⟩ := List.mem_map.1 hq
      exact (hf i (by simpa using hi)).2.2.2
set_option maxRecDepth 100000 in
theorem items_open {W : World} {base : Nat} {d : DataW H} {p : List MemPlace} {v : Value} (hv : Value.okWide Try.prog W .any base 39 v) (h : DataW.Trod enc Try.prog W 0 (fun _ => true) true 39 v d p) :
    ∃ A n c l, v = .slice A n c ∧ n ≤ c ∧ c ≤ maxLen ∧ Reads W W.heap.size 9 A n (itms l) ∧ (∀ x ∈ l, x.ok) ∧ (itemsB l).length ≤ 17 * Rows.uptoBulk d := by
  obtain ⟨A, n, c, l, h1, h2, h3, h4, h5, h6, -⟩ := items_open2 hv h
  exact ⟨A, n, c, l, h1, h2, h3, h4, h5, h6⟩
end
end Go.Proofs.Ythajbeooemngpaa
