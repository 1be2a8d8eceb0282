import Derived.Test.YtmfbidhnafpkdaaDoorInts
import Derived.Deep.Slices
import Derived.SizedLaws
import Derived.ChangeSame
/-! Rows of things of k cells each; a slice of ints that was handed in, at whatever depth. -/
namespace Go.Proofs.YtmfbidhnafpkdaaDoor
open Go.RowKit
set_option linter.unusedVariables false
set_option linter.unusedSimpArgs false
def rowsV {α : Type} (f : α → List Value) (l : List α) : List Value := l.flatMap f
section
variable {α : Type} {f : α → List Value} {k : Nat}
theorem rowsV_length (hf : ∀ x, (f x).length = k) (l : List α) : (rowsV f l).length = l.length * k := by
  induction l with
  | nil => simp [rowsV]
  | cons p l ih =>
    simp only [rowsV, List.flatMap_cons, List.length_append, List.length_cons] at *
    rw [ih, hf, Nat.add_mul]
    omega
theorem rowsV_get (hf : ∀ x, (f x).length = k) : ∀ (l : List α) (i : Nat) (x : α), l[i]? = some x → ∀ j v, (f x)[j]? = some v → (rowsV f l)[i * k + j]? = some v
  | q :: l, 0, p, h, j, v, hv => by
    simp only [List.getElem?_cons_zero, Option.some.injEq] at h
    subst h
    have hk : j < (f q).length := (List.getElem?_eq_some_iff.1 hv).1
    have e : rowsV f (q :: l) = f q ++ rowsV f l := rfl
    rw [e, Nat.zero_mul, Nat.zero_add, List.getElem?_append_left hk, hv]
  | q :: l, i + 1, p, h, j, v, hv => by
    have := rowsV_get hf l i p (by simpa using h) j v hv
    have e : rowsV f (q :: l) = f q ++ rowsV f l := rfl
    have hl : (f q).length = k := hf q
    have h2 : (i + 1) * k + j - k = i * k + j := by rw [Nat.succ_mul]; omega
    rw [e, List.getElem?_append_right (by rw [hl, Nat.succ_mul]; omega), hl, h2]
    exact this
theorem rowsV_row (hf : ∀ x, (f x).length = k) (hk0 : 0 < k) (n : Nat) (g : Nat → α) (j : Nat) (u : Value) (h : (rowsV f ((List.range n).map g))[j]? = some u) : ∃ i m, i < n ∧ m < k ∧ j = i * k + m ∧ (f (g i))[m]? = some u := by
  have hj : j < n * k := by
    rcases Nat.lt_or_ge j (n * k) with h' | h'
    · exact h'
    · rw [List.getElem?_eq_none (by rw [rowsV_length hf]; simpa using h')] at h; cases h
  have hd : j / k < n := Nat.div_lt_of_lt_mul (by rw [Nat.mul_comm]; exact hj)
  have hg : ((List.range n).map g)[j / k]? = some (g (j / k)) := by rw [List.getElem?_map, List.getElem?_range hd]; rfl
  have hm : j % k < k := Nat.mod_lt _ hk0
  have hl : j % k < (f (g (j / k))).length := by rw [hf]; exact hm
  have hc := List.getElem?_eq_getElem hl
  have := rowsV_get hf _ _ _ hg _ _ hc
  have hjj : j / k * k + j % k = j := by rw [Nat.mul_comm]; exact Nat.div_add_mod j k
  rw [hjj, h] at this
  exact ⟨j / k, j % k, hd, hm, hjj.symm, hc.trans this.symm⟩
end
section
open Go.ChangeShapes Go.WideShapes Go.ChangeAt
variable {H : Type} {enc : TypeId × Value → H} {w : World} {base : Nat} {held : Bool}
set_option maxRecDepth 100000 in
theorem ints_bytes : Tryd.prog.bytesOf 3 = 8 := by kernel_rfl
theorem weights_at {ts : List TypeId} {ds : List (DataW H)} (h : (DataW.weightsEach Tryd.prog ts ds).all (· ≤ reachBytes) = true) {j : Nat} {t : TypeId} {d : DataW H} (ht : ts[j]? = some t) (hd : ds[j]? = some d) : ∀ z ∈ d.weights Tryd.prog t, z ≤ reachBytes := fun z hz => by
  have := List.all_eq_true.1 h _ (DataW.weights_mem_each ht hd z hz)
  simpa using this
theorem weights_part {P : Program} {e : TypeId} : ∀ {l : List (DataW H)} {d : DataW H}, d ∈ l → ∀ z ∈ d.weights P e, z ∈ DataW.weightsAll P e l
  | x :: l, d, hd, z, hz => by
    rw [DataW.weightsAll, List.mem_append]
    rcases List.mem_cons.1 hd with rfl | h
    · exact .inl hz
    · exact .inr (weights_part h z hz)
end
end Go.Proofs.YtmfbidhnafpkdaaDoor
