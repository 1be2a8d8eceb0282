import Derived.Test.YthajbeooemngpaaRows2
import Derived.Test.YthajbeooemngpaaOwn
/-! Steps of a control that were handed in. -/
namespace Go.Proofs.Ythajbeooemngpaa
open Go.RowKit
set_option linter.unusedVariables false
set_option linter.unusedSimpArgs false
structure VOp where
  kind : Int
  n : Int
  A : Option Addr
  m : Nat
  c : Nat
  ms : List Int
  deriving Inhabited
def VOp.cells (x : VOp) : List Value := [.int .i64 x.kind, .int .i64 x.n, .slice x.A x.m x.c]
def VOp.ok (W : World) (x : VOp) : Prop := Reads W W.heap.size 1 x.A x.m (ints x.ms) ∧ -9223372036854775808 ≤ x.n ∧ x.n ≤ 9223372036854775807 ∧ x.m * 8 ≤ 140737488351232
theorem VOp.len (x : VOp) : x.cells.length = 3 := rfl
section
open Go.ChangeShapes Go.WideShapes Go.ChangeAt
variable {H : Type} {enc : TypeId × Value → H} {w : World} {base : Nat} {held : Bool}
set_option maxRecDepth 100000 in
theorem vop_open {fuel : Nat} {cs : List Value} {x : DataW H × List MemPlace} (h : DataW.trod enc Try.prog w base (fun _ => true) held fuel 72 cs = some x) (hw : ∀ z ∈ x.1.weights Try.prog 72, z ≤ reachBytes) : ∃ it : VOp, cs = it.cells ∧ it.ok w := by
  obtain ⟨xs, n, rfl, rfl, hl, hxl, hf⟩ := DataW.trod_struct Try.underlying72 h
  rw [show Try.prog.cellsOf 72 = 3 by kernel_rfl] at hl
  obtain ⟨v0, v1, v2, rfl⟩ := list3 hl
  obtain ⟨y0, y1, y2, rfl⟩ := list3 hxl
  have q1 : Try.prog.cellsOf 3 = 1 := by kernel_rfl
  have q2 : Try.prog.cellsOf 54 = 1 := by kernel_rfl
  have g0 := hf 0 _ rfl
  have g1 := hf 1 _ rfl
  have g2 := hf 2 _ rfl
  simp [q1] at g0 g1
  simp [q2] at g2
  obtain ⟨a0, e0, rfl, w0⟩ := DataW.trod_int Try.underlying3 g0
  obtain ⟨a1, e1, rfl, w1⟩ := DataW.trod_int Try.underlying3 g1
  obtain ⟨A, m, c, l, e2, _, _, hr, _, hb⟩ := ints_trod g2
  simp at e0 e1 e2
  subst e0 e1 e2
  simp [Lit.wf, IntKind.min, IntKind.max, IntKind.signed, IntKind.bits] at w1
  refine ⟨⟨a0, a1, A, m, c, l⟩, rfl, hr, w1.1, w1.2, ints_weight (d := y2.1) (fun z hz => hw z ?_) hb⟩
  simp only [DataW.weights, Try.underlying72, List.map_cons, List.map_nil, DataW.weightsEach, List.nil_append]
  simp only [List.mem_append]
  exact .inl hz
set_option maxRecDepth 100000 in
theorem vops_open {W : World} {base : Nat} {d : DataW H} {p : List MemPlace} {v : Value} (hv : Value.okWide Try.prog W .any base 63 v) (h : DataW.Trod enc Try.prog W 0 (fun _ => true) true 63 v d p) (hw : ∀ z ∈ d.weights Try.prog 63, z ≤ reachBytes) :
    ∃ A n c l, v = .slice A n c ∧ n ≤ c ∧ c ≤ maxLen ∧ Reads W W.heap.size 3 A n (rowsV VOp.cells l) ∧ ∀ x ∈ l, x.ok W := by
  obtain ⟨A, n, c, rfl⟩ := okWide_slice Try.underlying63 hv
  obtain ⟨fuel, hf⟩ := h
  rcases Deep.open_slice Try.underlying63 hf with ⟨hcs, hx⟩ | ⟨a, len, cap, m, k, D, Pl, hcs, _, hle, hcap, hmm, hx, hcell⟩
  · simp [Value.cells] at hcs
    obtain ⟨rfl, rfl, rfl⟩ := hcs
    exact ⟨none, 0, 0, [], rfl, by omega, by unfold maxLen; omega, Reads.none_, (fun q hq => by cases hq)⟩
  · simp [Value.cells] at hcs
    obtain ⟨rfl, rfl, rfl⟩ := hcs
    simp only [if_true] at hmm
    have hd : d = .slice ((List.range n).map D) ((List.range (m - n)).map fun j => D (n + j)) := congrArg Prod.fst hx
    have hint : ∀ i, i < n → ∃ q : VOp, (∀ k u, q.cells[k]? = some u → W.cell? (a.add (i * 3 + k)) = some u) ∧ q.ok W := fun i hi => by
      obtain ⟨cs', h1, h2⟩ := hcell i (by omega)
      rw [show Try.prog.cellsOf 72 = 3 by kernel_rfl] at h1
      obtain ⟨_, hlen, hc⟩ := World.cells?_some h1
      obtain ⟨q, rfl, hq⟩ := vop_open h2 (fun z hz => hw z (by
        rw [hd]
        simp only [DataW.weights, Try.underlying63, List.mem_cons, List.mem_append]
        exact .inr (.inl (weights_part (List.mem_map.2 ⟨i, by simpa using hi, rfl⟩) z hz))))
      refine ⟨q, fun k u hu => ?_, hq⟩
      have hk : k < 3 := (List.getElem?_eq_some_iff.1 hu).1
      have := hc k hk
      rw [add_of_add] at this
      rw [this, hu]
    obtain ⟨f, hf⟩ := Deep.choose_lt hint
    refine ⟨some a, n, c, (List.range n).map f, rfl, by omega, by omega, ⟨by rw [rowsV_length VOp.len]; simp, fun hn => ⟨a, rfl, ?_, fun j u hu => ?_⟩⟩, fun q hq => ?_⟩
    · have := World.block_lt_of_cell? _ _ ((hf 0 hn).1 0 _ rfl)
      rwa [block_of_add] at this
    · obtain ⟨i, k, hi, hk, rfl, hc⟩ := rowsV_row VOp.len (by omega) n f j u hu
      exact (hf i hi).1 k u hc
    · obtain ⟨i, hi, rfl⟩ := List.mem_map.1 hq
      exact (hf i (by simpa using hi)).2
end
end Go.Proofs.Ythajbeooemngpaa
