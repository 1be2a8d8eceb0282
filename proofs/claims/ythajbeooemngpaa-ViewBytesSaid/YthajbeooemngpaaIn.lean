import Derived.Test.YthajbeooemngpaaStr
/-! Bytes that come in, with their bound. -/
namespace Go
open Go.RowKit Go.ChangeShapes Go.WideShapes Go.ChangeAt Go.Proofs
set_option linter.unusedVariables false
set_option linter.unusedSimpArgs false
theorem bytes_open2 {H : Type} {enc : TypeId × Value → H} {P : Program} {t e : TypeId} {base : Nat} {d : DataW H} {p : List MemPlace} (ht : P.underlying t = some (.slice e)) (he : P.underlying e = some (.int .u8)) (hc : P.cellsOf e = 1) {W : World} {v : Value}
    (hv : Value.okWide P W .any base t v) (h : DataW.Trod enc P W 0 (fun _ => true) true t v d p) (hp : ∀ x ∈ p, x.block < W.heap.size) :
    ∃ A c l, v = .slice A l.length c ∧ l.length ≤ c ∧ Reads W W.heap.size 1 A l.length (u8s l) ∧ (∀ x ∈ l, x < 256) ∧ (A = none → c = 0) ∧ (c = 0 ∨ ∃ es sp, d = .slice es sp ∧ c ≤ es.length + sp.length) := by
  obtain ⟨A, n, c, rfl⟩ := okWide_slice ht hv
  obtain ⟨fuel, hf⟩ := h
  rcases open_ints ht he hc hf with ⟨hcs, hx⟩ | ⟨a, len', cap', zs, hcs, _, hl, hm, hz, hx, hcell, hwz⟩
  · simp [Value.cells] at hcs
    obtain ⟨rfl, rfl, rfl⟩ := hcs
    exact ⟨none, 0, [], rfl, by simp, Reads.none_, (fun _ h => by cases h), (fun _ => rfl), .inl rfl⟩
  · simp [Value.cells] at hcs
    obtain ⟨rfl, rfl, rfl⟩ := hcs
    simp only [if_true] at hz
    have hb : ∀ x ∈ zs, 0 ≤ x ∧ x < 256 := fun x hx => byte_of_lit (hwz x hx)
    have hL : ((zs.take n).map Int.toNat).length = n := by simp; omega
    refine ⟨some a, c, (zs.take n).map Int.toNat, by rw [hL], by rw [hL]; omega, ?_, fun x hx => ?_, (fun h => by cases h), .inr ⟨_, _, (Prod.ext_iff.1 hx).1, by simp [lits]; omega⟩⟩
    · rw [hL]
      refine ⟨by rw [u8s_length, hL, Nat.mul_one], fun hn => ⟨a, rfl, ?_, fun j u hu => ?_⟩⟩
      · have := World.block_lt_of_cell? _ _ (hcell 0 (by omega))
        rwa [block_of_add] at this
      · rw [u8s_get] at hu
        have hj : j < n := by
          rcases Nat.lt_or_ge j n with h | h
          · exact h
          · rw [List.getElem?_eq_none (by rw [hL]; omega)] at hu; cases hu
        have hjz : j < zs.length := by omega
        rw [hcell j hjz]
        simp [List.getElem?_take, hj, hjz] at hu
        rw [← hu]
        have := hb zs[j] (List.getElem_mem hjz)
        simp [List.getD, hjz]
        omega
    · obtain ⟨y, hy, rfl⟩ := List.mem_map.1 hx
      have := hb y (List.mem_of_mem_take hy)
      omega
theorem bytes_bound {H : Type} {P : Program} {ts : List TypeId} {ds : List (DataW H)} {j c : Nat} {t e : TypeId} {d : DataW H} (hs : (DataW.weightsEach P ts ds).all (· ≤ reachBytes) = true) (hu : P.underlying t = some (.slice e)) (hb : P.bytesOf e = 1)
    (ht : ts[j]? = some t) (hd : ds[j]? = some d) (hn : c = 0 ∨ ∃ es sp, d = .slice es sp ∧ c ≤ es.length + sp.length) : c ≤ 140737488351232 := by
  rcases hn with rfl | ⟨es, sp, rfl, hle⟩
  · omega
  · have := sized_slice hs ht hd hu
    rw [hb] at this
    have h2 : reachBytes = 140737488351232 := by decide
    omega
end Go
