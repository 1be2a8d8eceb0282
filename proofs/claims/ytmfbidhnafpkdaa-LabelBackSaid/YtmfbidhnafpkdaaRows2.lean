import Derived.Test.YtmfbidhnafpkdaaInts
import Derived.Deep.Slices
import Derived.SizedLaws
import Derived.ChangeSame
/-! Rows of things of k cells each; a slice of ints that was handed in, at whatever depth. -/
namespace Go.Proofs.Ytmfbidhnafpkdaa
open Go.RowKit
set_option linter.unusedVariables false
set_option linter.unusedSimpArgs false
def rowsV {α : Type} (f : α → List Value) (l : List α) : List Value := l.flatMap f
section
variable {α : Type} {f : α → List Value} {k : Nat}
theorem rowsV_length (hf : ∀ x, (f x).length = k) (l : List α) : (rowsV f l).length = l.length * k := by
  induction l with
  | nil => simp [rowsV]
  | cons p l ih =>
    simp only [rowsV, List.flatMap_cons, List.length_append, List.length_cons] at *
    rw [ih, hf, Nat.add_mul]
    omega
theorem rowsV_get (hf : ∀ x, (f x).length = k) : ∀ (l : List α) (i : Nat) (x : α), l[i]? = some x → ∀ j v, (f x)[j]? = some v → (rowsV f l)[i * k + j]? = some v
  | q :: l, 0, p, h, j, v, hv => by
    simp only [List.getElem?_cons_zero, Option.some.injEq] at h
    subst h
    have hk : j < (f q).length := (List.getElem?_eq_some_iff.1 hv).1
    have e : rowsV f (q :: l) = f q ++ rowsV f l := rfl
    rw [e, Nat.zero_mul, Nat.zero_add, List.getElem?_append_left hk, hv]
  | q :: l, i + 1, p, h, j, v, hv => by
    have := rowsV_get hf l i p (by simpa using h) j v hv
    have e : rowsV f (q :: l) = f q ++ rowsV f l := rfl
    have hl : (f q).length = k := hf q
    have h2 : (i + 1) * k + j - k = i * k + j := by rw [Nat.succ_mul]; omega
    rw [e, List.getElem?_append_right (by rw [hl, Nat.succ_mul]; omega), hl, h2]
    exact this
theorem rowsV_row (hf : ∀ x, (f x).length = k) (hk0 : 0 < k) (n : Nat) (g : Nat → α) (j : Nat) (u : Value) (h : (rowsV f ((List.range n).map g))[j]? = some u) : ∃ i m, i < n ∧ m < k ∧ j = i * k + m ∧ (f (g i))[m]? = some u := by
  have hj : j < n * k := by
    rcases Nat.lt_or_ge j (n * k) with h' | h'
    · exact h'
    · rw [List.getElem?_eq_none (by rw [rowsV_length hf]; simpa using h')] at h; cases h
  have hd : j / k < n := Nat.div_lt_of_lt_mul (by rw [Nat.mul_comm]; exact hj)
  have hg : ((List.range n).map g)[j / k]? = some (g (j / k)) := by rw [List.getElem?_map, List.getElem?_range hd]; rfl
  have hm : j % k < k := Nat.mod_lt _ hk0
  have hl : j % k < (f (g (j / k))).length := by rw [hf]; exact hm
  have hc := List.getElem?_eq_getElem hl
  have := rowsV_get hf _ _ _ hg _ _ hc
  have hjj : j / k * k + j % k = j := by rw [Nat.mul_comm]; exact Nat.div_add_mod j k
  rw [hjj, h] at this
  exact ⟨j / k, j % k, hd, hm, hjj.symm, hc.trans this.symm⟩
end
section
open Go.ChangeShapes Go.WideShapes Go.ChangeAt
variable {H : Type} {enc : TypeId × Value → H} {w : World} {base : Nat} {held : Bool}
/-- A slice of ints as it is read, at whatever depth. -/
theorem ints_trod {fuel : Nat} {cs : List Value} {x : DataW H × List MemPlace} (h : DataW.trod enc Try.prog w base (fun _ => true) held fuel 46 cs = some x) :
    ∃ A n c l, cs = [.slice A n c] ∧ n ≤ c ∧ c ≤ maxLen ∧ Reads w w.heap.size 1 A n (ints l) ∧ (∀ y ∈ l, -9223372036854775808 ≤ y ∧ y ≤ 9223372036854775807) ∧ (n = 0 ∨ ∃ es sp, x.1 = .slice es sp ∧ n ≤ es.length + sp.length) := by
  rcases Deep.open_slice Try.underlying46 h with ⟨hcs, hx⟩ | ⟨a, n, c, m, k, D, Pl, hcs, _, hle, hcap, hmm, hx, hcell⟩
  · exact ⟨none, 0, 0, [], hcs, by omega, by unfold maxLen; omega, Reads.none_, (fun q hq => by cases hq), .inl rfl⟩
  · simp only [if_true] at hmm
    have hint : ∀ i, i < n → ∃ y : Int, w.cell? (a.add i) = some (.int .i64 y) ∧ -9223372036854775808 ≤ y ∧ y ≤ 9223372036854775807 := fun i hi => by
      obtain ⟨cs', h1, h2⟩ := hcell i (by omega)
      rw [show Try.prog.cellsOf 3 = 1 by kernel_rfl, Nat.mul_one] at h1
      obtain ⟨_, hlen, hc⟩ := World.cells?_some h1
      obtain ⟨y, rfl, _, hw⟩ := DataW.trod_int Try.underlying3 h2
      simp [Lit.wf, IntKind.min, IntKind.max, IntKind.signed, IntKind.bits] at hw
      have := hc 0 (by omega)
      rw [add_of_add] at this
      exact ⟨y, by simpa using this, hw⟩
    obtain ⟨f, hf⟩ := Deep.choose_lt hint
    refine ⟨some a, n, c, (List.range n).map f, hcs, by omega, by omega, ⟨by rw [ints_length]; simp, fun hn => ⟨a, rfl, ?_, fun j u hu => ?_⟩⟩, fun q hq => ?_, .inr ?_⟩
    · have := World.block_lt_of_cell? _ _ (hf 0 hn).1
      rwa [block_of_add] at this
    · simp only [ints, List.map_map, List.getElem?_map] at hu
      by_cases hj : j < n
      · rw [List.getElem?_range hj] at hu
        simp at hu
        rw [← hu]
        exact (hf j hj).1
      · rw [List.getElem?_eq_none (by simpa using hj)] at hu
        cases hu
    · obtain ⟨i, hi, rfl⟩ := List.mem_map.1 hq
      exact (hf i (by simpa using hi)).2
    · subst hx
      exact ⟨_, _, rfl, by simp⟩
set_option maxRecDepth 100000 in
theorem ints_open {W : World} {base : Nat} {d : DataW H} {p : List MemPlace} {v : Value} (hv : Value.okWide Try.prog W .any base 46 v) (h : DataW.Trod enc Try.prog W 0 (fun _ => true) true 46 v d p) :
    ∃ A n c l, v = .slice A n c ∧ n ≤ c ∧ c ≤ maxLen ∧ Reads W W.heap.size 1 A n (ints l) ∧ (∀ y ∈ l, -9223372036854775808 ≤ y ∧ y ≤ 9223372036854775807) ∧ (n = 0 ∨ ∃ es sp, d = .slice es sp ∧ n ≤ es.length + sp.length) := by
  obtain ⟨A, n, c, rfl⟩ := okWide_slice Try.underlying46 hv
  obtain ⟨fuel, hf⟩ := h
  obtain ⟨A', n', c', l, hcs, h1, h2, h3, h4, h5⟩ := ints_trod hf
  simp [Value.cells] at hcs
  obtain ⟨rfl, rfl, rfl⟩ := hcs
  exact ⟨_, _, _, l, rfl, h1, h2, h3, h4, h5⟩
set_option maxRecDepth 100000 in
theorem ints_bytes : Try.prog.bytesOf 3 = 8 := by kernel_rfl
set_option maxRecDepth 100000 in
/-- A bound out of a weight. -/
theorem ints_weight {d : DataW H} {n : Nat} (hw : ∀ z ∈ d.weights Try.prog 46, z ≤ reachBytes) (hn : n = 0 ∨ ∃ es sp, d = .slice es sp ∧ n ≤ es.length + sp.length) : n * 8 ≤ 140737488351232 := by
  rcases hn with rfl | ⟨es, sp, rfl, hle⟩
  · omega
  · have := hw ((es.length + sp.length) * 8) (by simp [DataW.weights, Try.underlying46, ints_bytes])
    have h2 : reachBytes = 140737488351232 := by decide
    omega
theorem weights_at {ts : List TypeId} {ds : List (DataW H)} (h : (DataW.weightsEach Try.prog ts ds).all (· ≤ reachBytes) = true) {j : Nat} {t : TypeId} {d : DataW H} (ht : ts[j]? = some t) (hd : ds[j]? = some d) : ∀ z ∈ d.weights Try.prog t, z ≤ reachBytes := fun z hz => by
  have := List.all_eq_true.1 h _ (DataW.weights_mem_each ht hd z hz)
  simpa using this
theorem weights_part {P : Program} {e : TypeId} : ∀ {l : List (DataW H)} {d : DataW H}, d ∈ l → ∀ z ∈ d.weights P e, z ∈ DataW.weightsAll P e l
  | x :: l, d, hd, z, hz => by
    rw [DataW.weightsAll, List.mem_append]
    rcases List.mem_cons.1 hd with rfl | h
    · exact .inl hz
    · exact .inr (weights_part h z hz)
end
end Go.Proofs.Ytmfbidhnafpkdaa
