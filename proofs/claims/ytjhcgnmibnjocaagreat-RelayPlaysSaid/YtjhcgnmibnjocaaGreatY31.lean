import Derived.Test.YtjhcgnmibnjocaaGreatY30
/-! Messages and steps that were handed in. -/
namespace Go.Proofs.YtjhcgnmibnjocaaGreat
open Go.RowKit Go.Maps
set_option linter.unusedVariables false
set_option linter.unusedSimpArgs false
section
open Go.ChangeShapes Go.WideShapes Go.ChangeAt
variable {H : Type} {enc : TypeId × Value → H} {w : World} {base : Nat} {held : Bool}
theorem slice_trod {α : Type} [Inhabited α] {f : α → List Value} {k : Nat} (hk0 : 0 < k) (hf : ∀ x, (f x).length = k) {t e : TypeId} (ht : Tryz.prog.underlying t = some (.slice e)) (hc : Tryz.prog.cellsOf e = k) {ok : α → Prop}
  (hopen : ∀ (cs : List Value) (y : DataW H × List MemPlace) (n : Nat), DataW.trod enc Tryz.prog w base (fun _ => true) held n e cs = some y → (∀ z ∈ y.1.weights Tryz.prog e, z ≤ reachBytes) → ∃ q : α, cs = f q ∧ ok q)
  {fuel : Nat} {cs : List Value} {x : DataW H × List MemPlace} (h : DataW.trod enc Tryz.prog w base (fun _ => true) held fuel t cs = some x) (hw : ∀ z ∈ x.1.weights Tryz.prog t, z ≤ reachBytes) :
  ∃ A n c l, cs = [.slice A n c] ∧ n ≤ c ∧ c ≤ maxLen ∧ (A = none → c = 0) ∧ Reads w w.heap.size k A n (rowsV f l) ∧ (∀ q ∈ l, ok q) ∧ l.length = n ∧ c * Tryz.prog.bytesOf e ≤ 140737488351232 := by
 rcases Deep.open_slice ht h with ⟨hcs, hx⟩ | ⟨a, n, c, m, k', D, Pl, hcs, _, hle, hcap, hmm, hx, hcell⟩
 ·exact ⟨none, 0, 0, [], hcs, by omega, by unfold maxLen; omega, (fun _ => rfl), Reads.none_, (fun q hq => by cases hq), rfl, by omega⟩
 ·simp only [if_true] at hmm
  have hd : x.1 = .slice ((List.range n).map D) ((List.range (m - n)).map fun j => D (n + j)) := congrArg Prod.fst hx
  have hint : ∀ i, i < n → ∃ q : α, (∀ j u, (f q)[j]? = some u → w.cell? (a.add (i * k + j)) = some u) ∧ ok q := fun i hi => by
   obtain ⟨cs', h1, h2⟩ := hcell i (by omega)
   rw [hc] at h1
   obtain ⟨_, hlen, hcc⟩ := World.cells?_some h1
   obtain ⟨q, rfl, hq⟩ := hopen _ _ _ h2 (fun z hz => hw z (by
    rw [hd]
    simp only [DataW.weights, ht, List.mem_cons, List.mem_append]
    exact .inr (.inl (weights_part (List.mem_map.2 ⟨i, by simpa using hi, rfl⟩) z hz))))
   refine ⟨q, fun j u hu => ?_, hq⟩
   have hj : j < k := by have := (List.getElem?_eq_some_iff.1 hu).1; rw [hf] at this; exact this
   have := hcc j hj
   rw [add_of_add] at this
   rw [this, hu]
  obtain ⟨g, hg⟩ := Deep.choose_lt hint
  refine ⟨some a, n, c, (List.range n).map g, hcs, by omega, by omega, (fun e => by cases e), ⟨by rw [rowsV_length hf]; simp, fun hn => ⟨a, rfl, ?_, fun j u hu => ?_⟩⟩, fun q hq => ?_, by simp, ?_⟩
  ·have hl0 : 0 < (f (g 0)).length := by rw [hf]; exact hk0
   have := World.block_lt_of_cell? _ _ ((hg 0 hn).1 0 _ (List.getElem?_eq_getElem hl0))
   rwa [block_of_add] at this
  ·obtain ⟨i, j', hi, hj, rfl, hcj⟩ := rowsV_row hf hk0 n g j u hu
   exact (hg i hi).1 j' u hcj
  ·obtain ⟨i, hi, rfl⟩ := List.mem_map.1 hq
   exact (hg i (by simpa using hi)).2
  ·have := hw (m * Tryz.prog.bytesOf e) (by
    rw [hd]
    simp only [DataW.weights, ht, List.mem_cons, List.length_map, List.length_range]
    exact .inl (by rw [show n + (m - n) = m by omega]))
   have h2 : reachBytes = 140737488351232 := by decide
   rw [hmm] at this
   omega
def u8C (x : Nat) : List Value := [.int .u8 (x : Int)]
theorem u8C_row : ∀ l : List Nat, rowsV u8C l = u8s l
 | [] => rfl
 | x :: l => by
  have := u8C_row l
  simp only [rowsV, u8s, List.flatMap_cons, List.map_cons] at *
  rw [this]
  rfl
theorem u8_open (cs : List Value) (y : DataW H × List MemPlace) (n : Nat) (h : DataW.trod enc Tryz.prog w base (fun _ => true) held n 5 cs = some y) : ∃ q : Nat, cs = u8C q ∧ q < 256 := by
 obtain ⟨a, rfl, _, wa⟩ := DataW.trod_int Tryz.underlying5 h
 simp [Lit.wf, IntKind.min, IntKind.max, IntKind.signed, IntKind.bits] at wa
 exact ⟨a.toNat, by simp only [u8C, List.cons.injEq, Value.int.injEq, true_and, and_true]; omega, by omega⟩
set_option maxRecDepth 100000 in
theorem bsl_open {fuel : Nat} {cs : List Value} {x : DataW H × List MemPlace} (h : DataW.trod enc Tryz.prog w base (fun _ => true) held fuel 36 cs = some x) (hw : ∀ z ∈ x.1.weights Tryz.prog 36, z ≤ reachBytes) :
  ∃ (v : Value) (t : List Nat), cs = [v] ∧ Bsl w (fun k => w.heap.size ≤ k) v t ∧ t.length ≤ 140737488351232 := by
 obtain ⟨A, n, c, l, rfl, h1, h2, hA, hr, hl, rfl, hb⟩ := slice_trod (f := u8C) (k := 1) (ok := fun q => q < 256) (by omega) (fun _ => rfl) Tryz.underlying36 (by kernel_rfl) (fun cs y n h _ => u8_open cs y n h) h hw
 rw [show Tryz.prog.bytesOf 5 = 1 by kernel_rfl] at hb
 rw [u8C_row] at hr
 exact ⟨_, l, rfl, ⟨⟨A, c, rfl, hr, hA, fun h0 a ha ht => by
  obtain ⟨a', e', hlt, _⟩ := hr.2 h0
  rw [ha] at e'; cases e'
  omega, h1, h2⟩, hl⟩, by omega⟩
set_option maxRecDepth 100000 in
theorem ent_open (cs : List Value) (y : DataW H × List MemPlace) (n : Nat) (h : DataW.trod enc Tryz.prog w base (fun _ => true) held n 79 cs = some y) (hw : ∀ z ∈ y.1.weights Tryz.prog 79, z ≤ reachBytes) :
  ∃ q : Em, cs = q.cells ∧ Bsl w (fun k => w.heap.size ≤ k) q.v q.x.t ∧ I64 q.x.e := by
 obtain ⟨xs, n, rfl, rfl, hl, hxl, hf⟩ := DataW.trod_struct Tryz.underlying79 h
 rw [show Tryz.prog.cellsOf 79 = 2 by kernel_rfl] at hl
 obtain ⟨v0, v1, rfl⟩ := list2 hl
 obtain ⟨y0, y1, rfl⟩ := list2 hxl
 have q1 : Tryz.prog.cellsOf 3 = 1 := by kernel_rfl
 have q2 : Tryz.prog.cellsOf 36 = 1 := by kernel_rfl
 have g0 := hf 0 _ rfl
 have g1 := hf 1 _ rfl
 simp [q1] at g0
 simp [q2] at g1
 obtain ⟨a0, e0, rfl, w0⟩ := DataW.trod_int Tryz.underlying3 g0
 obtain ⟨v, t, e1, hB, _⟩ := bsl_open g1 (fun z hz => hw z (by
  simp only [DataW.weights, Tryz.underlying79, List.map_cons, List.map_nil, DataW.weightsEach, List.nil_append]
  simp only [List.mem_append]
  exact .inl hz))
 simp at e0 e1
 subst e0 e1
 simp [Lit.wf, IntKind.min, IntKind.max, IntKind.signed, IntKind.bits] at w0
 exact ⟨⟨⟨a0, t⟩, v1⟩, rfl, hB, w0⟩
end
end Go.Proofs.YtjhcgnmibnjocaaGreat
