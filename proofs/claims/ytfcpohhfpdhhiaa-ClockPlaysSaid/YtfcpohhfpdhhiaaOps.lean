import Derived.Test.YtfcpohhfpdhhiaaClock5
import Derived.Deep.Slices
import Derived.ChangeSame
/-! Steps of a clock that were handed in; what rises. -/
namespace Go.Proofs.Ytfcpohhfpdhhiaa
open Go.RowKit
set_option linter.unusedVariables false
set_option linter.unusedSimpArgs false
structure Op5 where
  kind : Int
  phys : Int
  a : Int
  b : Int
  c : Int
  deriving Inhabited
def Op5.cells (x : Op5) : List Value := [.int .i64 x.kind, .int .i64 x.phys, .int .i64 x.a, .int .u32 x.b, .int .u32 x.c]
def Op5.ok (x : Op5) : Prop := I64 x.phys ∧ I64 x.a ∧ U32 x.b ∧ U32 x.c
def opsV (l : List Op5) : List Value := l.flatMap Op5.cells
theorem opsV_length (l : List Op5) : (opsV l).length = l.length * 5 := by
  induction l with
  | nil => rfl
  | cons p l ih =>
    simp only [opsV, List.flatMap_cons, List.length_append, List.length_cons] at *
    rw [ih]
    simp only [Op5.cells, List.length_cons, List.length_nil]
    omega
theorem opsV_get : ∀ (l : List Op5) (i : Nat) (x : Op5), l[i]? = some x → ∀ k v, x.cells[k]? = some v → (opsV l)[i * 5 + k]? = some v
  | q :: l, 0, p, h, k, v, hv => by
    simp only [List.getElem?_cons_zero, Option.some.injEq] at h
    subst h
    have e : opsV (q :: l) = q.cells ++ opsV l := rfl
    have hk : k < q.cells.length := (List.getElem?_eq_some_iff.1 hv).1
    rw [e, Nat.zero_mul, Nat.zero_add, List.getElem?_append_left hk, hv]
  | q :: l, i + 1, p, h, k, v, hv => by
    have := opsV_get l i p (by simpa using h) k v hv
    have e : opsV (q :: l) = q.cells ++ opsV l := rfl
    have hl : q.cells.length = 5 := rfl
    rw [e, List.getElem?_append_right (by rw [hl]; omega), hl, show (i + 1) * 5 + k - 5 = i * 5 + k by omega]
    exact this
theorem opsV_row (n : Nat) (f : Nat → Op5) (j : Nat) (u : Value) (h : (opsV ((List.range n).map f))[j]? = some u) : ∃ i k, i < n ∧ k < 5 ∧ j = i * 5 + k ∧ (f i).cells[k]? = some u := by
  have hj : j < n * 5 := by
    rcases Nat.lt_or_ge j (n * 5) with h' | h'
    · exact h'
    · rw [List.getElem?_eq_none (by rw [opsV_length]; simpa using h')] at h; cases h
  have hg : ((List.range n).map f)[j / 5]? = some (f (j / 5)) := by rw [List.getElem?_map, List.getElem?_range (by omega)]; rfl
  have hk : j % 5 < 5 := Nat.mod_lt _ (by omega)
  have hc : (f (j / 5)).cells[j % 5]? = some ((f (j / 5)).cells[j % 5]'hk) := List.getElem?_eq_getElem hk
  have := opsV_get _ _ _ hg _ _ hc
  rw [show j / 5 * 5 + j % 5 = j by omega, h] at this
  exact ⟨j / 5, j % 5, by omega, hk, by omega, hc.trans this.symm⟩
section
open Go.ChangeShapes Go.WideShapes Go.ChangeAt
variable {H : Type} {enc : TypeId × Value → H} {w : World} {base : Nat} {spare : Nat → Bool} {held : Bool}
theorem len5 {α : Type} : ∀ (D : List α), D.length = 5 → ∃ a b c d e, D = [a, b, c, d, e]
  | [a, b, c, d, e], _ => ⟨a, b, c, d, e, rfl⟩
set_option maxRecDepth 100000 in
theorem op_open {fuel : Nat} {cs : List Value} {x : DataW H × List MemPlace} (h : DataW.trod enc Try.prog w base spare held fuel 33 cs = some x) : ∃ it : Op5, cs = it.cells ∧ it.ok := by
  obtain ⟨xs, n, rfl, rfl, hl, hxl, hf⟩ := DataW.trod_struct Try.underlying33 h
  rw [show Try.prog.cellsOf 33 = 5 by kernel_rfl] at hl
  obtain ⟨v0, v1, v2, v3, v4, rfl⟩ := len5 cs hl
  obtain ⟨y0, y1, y2, rfl⟩ := list3 hxl
  have q1 : Try.prog.cellsOf 3 = 1 := by kernel_rfl
  have q3 : Try.prog.cellsOf 2 = 1 := by kernel_rfl
  have q6 : Try.prog.cellsOf 31 = 3 := by kernel_rfl
  have q7 : Try.prog.cellsOf 22 = 1 := by kernel_rfl
  have g0 := hf 0 _ rfl
  have g1 := hf 1 _ rfl
  have g2 := hf 2 _ rfl
  simp [q1] at g0
  simp [q3] at g1
  simp [q6] at g2
  obtain ⟨a0, e0, rfl, w0⟩ := DataW.trod_int Try.underlying3 g0
  obtain ⟨a1, e1, rfl, w1⟩ := DataW.trod_int Try.underlying2 g1
  obtain ⟨zs, m, rfl, rfl, hzl, hzs, hz⟩ := DataW.trod_struct Try.underlying31 g2
  obtain ⟨z0, z1, z2, rfl⟩ := list3 hzs
  have k0 := hz 0 _ rfl
  have k1 := hz 1 _ rfl
  have k2 := hz 2 _ rfl
  simp [q3] at k0
  simp [q7] at k1
  simp [q7] at k2
  obtain ⟨a5, e5, rfl, w5⟩ := DataW.trod_int Try.underlying2 k0
  obtain ⟨a6, e6, rfl, w6⟩ := DataW.trod_int Try.underlying22 k1
  obtain ⟨a7, e7, rfl, w7⟩ := DataW.trod_int Try.underlying22 k2
  simp at e0 e1 e5 e6 e7
  subst e0 e1 e5 e6 e7
  simp [Lit.wf, IntKind.min, IntKind.max, IntKind.signed, IntKind.bits] at w0 w1 w5 w6 w7
  exact ⟨⟨a0, a1, a5, a6, a7⟩, rfl, w1, w5, w6, w7⟩
set_option maxRecDepth 100000 in
theorem ops_open {W : World} {base : Nat} {d : DataW H} {p : List MemPlace} {v : Value} (hv : Value.okWide Try.prog W .any base 23 v) (h : DataW.Trod enc Try.prog W 0 (fun _ => true) true 23 v d p) :
    ∃ A n c l, v = .slice A n c ∧ n ≤ c ∧ c ≤ maxLen ∧ Reads W W.heap.size 5 A n (opsV l) ∧ ∀ x ∈ l, x.ok := by
  obtain ⟨A, n, c, rfl⟩ := okWide_slice Try.underlying23 hv
  obtain ⟨fuel, hf⟩ := h
  rcases Deep.open_slice Try.underlying23 hf with ⟨hcs, hx⟩ | ⟨a, len, cap, m, k, D, Pl, hcs, _, hle, hcap, hmm, hx, hcell⟩
  · simp [Value.cells] at hcs
    obtain ⟨rfl, rfl, rfl⟩ := hcs
    exact ⟨none, 0, 0, [], rfl, by omega, by unfold maxLen; omega, Reads.none_, (fun q hq => by cases hq)⟩
  · simp [Value.cells] at hcs
    obtain ⟨rfl, rfl, rfl⟩ := hcs
    simp only [if_true] at hmm
    have hint : ∀ i, i < n → ∃ q : Op5, (∀ k u, q.cells[k]? = some u → W.cell? (a.add (i * 5 + k)) = some u) ∧ q.ok := fun i hi => by
      obtain ⟨cs', h1, h2⟩ := hcell i (by omega)
      rw [show Try.prog.cellsOf 33 = 5 by kernel_rfl] at h1
      obtain ⟨_, hlen, hc⟩ := World.cells?_some h1
      obtain ⟨q, rfl, hq⟩ := op_open h2
      refine ⟨q, fun k u hu => ?_, hq⟩
      have hk : k < 5 := (List.getElem?_eq_some_iff.1 hu).1
      have := hc k hk
      rw [add_of_add] at this
      rw [this, hu]
    obtain ⟨f, hf⟩ := Deep.choose_lt hint
    refine ⟨some a, n, c, (List.range n).map f, rfl, by omega, by omega, ⟨by rw [opsV_length]; simp, fun hn => ⟨a, rfl, ?_, fun j u hu => ?_⟩⟩, fun q hq => ?_⟩
    · have := World.block_lt_of_cell? _ _ ((hf 0 hn).1 0 _ rfl)
      rwa [block_of_add] at this
    · obtain ⟨i, k, hi, hk, rfl, hc⟩ := opsV_row n f j u hu
      exact (hf i hi).1 k u hc
    · obtain ⟨i, hi, rfl⟩ := List.mem_map.1 hq
      exact (hf i (by simpa using hi)).2
end
/-- Of two Walls and Ticks the first stands ahead. -/
def Ahead (a b x y : Int) : Prop := a < x ∨ (a = x ∧ b < y)
theorem ahead_cmp {a b c x y z : Int} (h : Ahead a b x y) : cmpI a b c x y z = -1 := by
  unfold Ahead at h
  unfold cmpI
  (repeat' split) <;> omega
theorem setP_zero {k : Ck} {a b : Int} (h : (setP k a b).e = 0) : setP k a b = ⟨a, b, k.mark, 0, { k with a := a, b := b, c := 0 }⟩ ∧ a ≤ k.up := by
  unfold setP at *
  split at h
  · simp at h
  · rename_i h'
    rw [if_neg h']
    exact ⟨rfl, by omega⟩
theorem setP_not {k : Ck} {a b : Int} (h : (setP k a b).e ≠ 0) : (setP k a b).k = k := by
  unfold setP at *
  split
  · rfl
  · rename_i h'
    rw [if_neg h'] at h
    simp at h
structure Gives (k : Ck) (phys ta tb : Int) (r : Ans) : Prop where
  z : r.z = k.mark
  up : r.x ≤ k.up
  phys : phys ≤ r.x
  ahead : Ahead ta tb r.x r.y
  k : r.k = { k with a := r.x, b := r.y, c := 0 }
theorem giveP_zero {k : Ck} {phys ta tb : Int} (ha : 0 ≤ ta ∧ ta ≤ 4611686018427387904) (hb : 0 ≤ tb ∧ tb ≤ 4294967295) (h : (giveP k phys ta tb).e = 0) : Gives k phys ta tb (giveP k phys ta tb) := by
  obtain ⟨h1, h2, h3, h4⟩ := next_ok ha hb
  unfold giveP at *
  split at h
  · rename_i hp
    rw [if_pos hp]
    obtain ⟨e, hu⟩ := setP_zero h
    rw [e]
    exact ⟨rfl, hu, Int.le_refl _, .inl hp, rfl⟩
  · rename_i hp
    rw [if_neg hp]
    split at h
    · rename_i hn
      exact absurd h hn
    · rename_i hn
      rw [if_neg hn]
      have hn' : nextE ta tb = 0 := by omega
      obtain ⟨e, hu⟩ := setP_zero h
      rw [e]
      have := h4 hn'
      exact ⟨rfl, hu, by simp only; omega, by unfold Ahead; simp only; omega, rfl⟩
theorem giveP_not {k : Ck} {phys ta tb : Int} (h : (giveP k phys ta tb).e ≠ 0) : (giveP k phys ta tb).k = k := by
  unfold giveP at *
  split
  · rename_i hp
    rw [if_pos hp] at h
    exact setP_not h
  · rename_i hp
    rw [if_neg hp] at h
    split
    · rfl
    · rename_i hn
      rw [if_neg hn] at h
      exact setP_not h
theorem nowP_zero {k : Ck} (hk : k.ok) {phys : Int} (h : (nowP k phys).e = 0) : Gives k phys k.a k.b (nowP k phys) := by
  unfold nowP at *
  split at h
  · simp at h
  · rename_i hp
    rw [if_neg hp]
    exact giveP_zero hk.a hk.b h
theorem nowP_not {k : Ck} {phys : Int} (h : (nowP k phys).e ≠ 0) : (nowP k phys).k = k := by
  unfold nowP at *
  split
  · rfl
  · rename_i hp
    rw [if_neg hp] at h
    exact giveP_not h
theorem updP_zero {k : Ck} (hk : k.ok) {phys a b c : Int} (hb : 0 ≤ b ∧ b ≤ 4294967295) (h : (updP k phys a b c).e = 0) : Gives k phys k.a k.b (updP k phys a b c) ∧ Ahead a b (updP k phys a b c).x (updP k phys a b c).y ∧ a - phys ≤ k.off ∧ 0 ≤ phys ∧ phys ≤ 4611686018427387904 := by
  have hkb := hk.b
  unfold updP at *
  split at h
  · simp at h
  · rename_i h1
    split at h
    · simp at h
    · rename_i h2
      have hra := rightB_true (by simpa using h2 : rightB a = true)
      split at h
      · simp at h
      · rename_i h3
        rw [if_neg h1, if_neg h2, if_neg h3]
        have hph : 0 ≤ phys ∧ phys ≤ 4611686018427387904 := by unfold badP at h1; omega
        split at h
        · rename_i h4
          rw [if_pos h4]
          have hg := giveP_zero hra hb h
          have ha := hg.ahead
          refine ⟨⟨hg.z, hg.up, hg.phys, ?_, hg.k⟩, ha, by omega, hph⟩
          unfold cmpI at h4
          unfold Ahead at *
          (repeat' split at h4) <;> omega
        · rename_i h4
          rw [if_neg h4]
          have hg := giveP_zero hk.a hk.b h
          have ha := hg.ahead
          refine ⟨hg, ?_, by omega, hph⟩
          unfold cmpI at h4
          unfold Ahead at *
          (repeat' split at h4) <;> omega
theorem updP_not {k : Ck} {phys a b c : Int} (h : (updP k phys a b c).e ≠ 0) : (updP k phys a b c).k = k := by
  unfold updP at *
  split
  · rfl
  · rename_i h1
    rw [if_neg h1] at h
    split
    · rfl
    · rename_i h2
      rw [if_neg h2] at h
      split
      · rfl
      · rename_i h3
        rw [if_neg h3] at h
        split
        · rename_i h4
          rw [if_pos h4] at h
          exact giveP_not h
        · rename_i h4
          rw [if_neg h4] at h
          exact giveP_not h
end Go.Proofs.Ytfcpohhfpdhhiaa
