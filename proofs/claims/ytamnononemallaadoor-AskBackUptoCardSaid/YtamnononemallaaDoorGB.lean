import Derived.Test.YtamnononemallaaDoorChecked
import Derived.Test.YtamnononemallaaDoorGA
import Derived.Lib.SliceRun
import Derived.Deep.Slices
import Derived.SizedLaws
import Derived.ChangeSame
import Derived.Maps.AppendAt
import Derived.OneCell
import Derived.Sort.Walk0
import Derived.Test.YtamnononemallaaDoorShelf
import Derived.Laws.Externs
import Derived.Lib.AppendStr
import Derived.WalkSpells
import Derived.WalkLawsBesides
import Derived.WalkMore
/-! Several texts in one. -/
set_option linter.unusedVariables false
set_option linter.unusedSimpArgs false
/-! Rows of ints; slices.Index, Contains, Clone at them. -/
namespace Go.Proofs.YtamnononemallaaDoor
open Go.RowKit
def ints (l : List Int) : List Value := l.map (Value.int .i64)
theorem ints_length (l : List Int) : (ints l).length = l.length := by simp [ints]
theorem ints_get {l : List Int} {j : Nat} {x : Int} (h : l[j]? = some x) : (ints l)[j]? = some (.int .i64 x) := by simp [ints, h]
theorem ints_take (l : List Int) (k : Nat) : (ints l).take k = ints (l.take k) := by simp [ints, List.map_take]
theorem ints_append (l m : List Int) : ints (l ++ m) = ints l ++ ints m := by simp [ints]
theorem reads_len {w : World} {B : Nat} {A : Option Addr} {n : Nat} {l : List Int} (h : Reads w B 1 A n (ints l)) : l.length = n := by have := h.1; rw [ints_length] at this; omega
def hasB (l : List Int) (x : Int) : Bool := l.any (fun y => y == x)
theorem hasB_mem {l : List Int} {x : Int} : hasB l x = true ↔ x ∈ l := by simp [hasB]
theorem hasB_not {l : List Int} {x : Int} : hasB l x = false ↔ x ∉ l := by
  cases h : hasB l x with
  | true => simp [hasB_mem.1 h]
  | false => simp only [true_iff]; intro hm; rw [hasB_mem.2 hm] at h; cases h
theorem infoI64 : (Tryd.prog.info? 3).map (fun i => (i.zero, i.size, i.bytes)) = some (some (.int .i64 0), 1, 8) := by kernel_rfl
end Go.Proofs.YtamnononemallaaDoor

/-! Rows of things of k cells each; a slice of ints that was handed in, at whatever depth. -/
namespace Go.Proofs.YtamnononemallaaDoor
open Go.RowKit
def rowsV {α : Type} (f : α → List Value) (l : List α) : List Value := l.flatMap f
section
variable {α : Type} {f : α → List Value} {k : Nat}
theorem rowsV_length (hf : ∀ x, (f x).length = k) (l : List α) : (rowsV f l).length = l.length * k := by
  induction l with
  | nil => simp [rowsV]
  | cons p l ih =>
    simp only [rowsV, List.flatMap_cons, List.length_append, List.length_cons] at *
    rw [ih, hf, Nat.add_mul]
    omega
theorem rowsV_get (hf : ∀ x, (f x).length = k) : ∀ (l : List α) (i : Nat) (x : α), l[i]? = some x → ∀ j v, (f x)[j]? = some v → (rowsV f l)[i * k + j]? = some v
  | q :: l, 0, p, h, j, v, hv => by
    simp only [List.getElem?_cons_zero, Option.some.injEq] at h
    subst h
    have hk : j < (f q).length := (List.getElem?_eq_some_iff.1 hv).1
    have e : rowsV f (q :: l) = f q ++ rowsV f l := rfl
    rw [e, Nat.zero_mul, Nat.zero_add, List.getElem?_append_left hk, hv]
  | q :: l, i + 1, p, h, j, v, hv => by
    have := rowsV_get hf l i p (by simpa using h) j v hv
    have e : rowsV f (q :: l) = f q ++ rowsV f l := rfl
    have hl : (f q).length = k := hf q
    have h2 : (i + 1) * k + j - k = i * k + j := by rw [Nat.succ_mul]; omega
    rw [e, List.getElem?_append_right (by rw [hl, Nat.succ_mul]; omega), hl, h2]
    exact this
theorem rowsV_row (hf : ∀ x, (f x).length = k) (hk0 : 0 < k) (n : Nat) (g : Nat → α) (j : Nat) (u : Value) (h : (rowsV f ((List.range n).map g))[j]? = some u) : ∃ i m, i < n ∧ m < k ∧ j = i * k + m ∧ (f (g i))[m]? = some u := by
  have hj : j < n * k := by
    rcases Nat.lt_or_ge j (n * k) with h' | h'
    · exact h'
    · rw [List.getElem?_eq_none (by rw [rowsV_length hf]; simpa using h')] at h; cases h
  have hd : j / k < n := Nat.div_lt_of_lt_mul (by rw [Nat.mul_comm]; exact hj)
  have hg : ((List.range n).map g)[j / k]? = some (g (j / k)) := by rw [List.getElem?_map, List.getElem?_range hd]; rfl
  have hm : j % k < k := Nat.mod_lt _ hk0
  have hl : j % k < (f (g (j / k))).length := by rw [hf]; exact hm
  have hc := List.getElem?_eq_getElem hl
  have := rowsV_get hf _ _ _ hg _ _ hc
  have hjj : j / k * k + j % k = j := by rw [Nat.mul_comm]; exact Nat.div_add_mod j k
  rw [hjj, h] at this
  exact ⟨j / k, j % k, hd, hm, hjj.symm, hc.trans this.symm⟩
end
section
open Go.ChangeShapes Go.WideShapes Go.ChangeAt
variable {H : Type} {enc : TypeId × Value → H} {w : World} {base : Nat} {held : Bool}
set_option maxRecDepth 100000 in
theorem ints_bytes : Tryd.prog.bytesOf 3 = 8 := by kernel_rfl
theorem weights_at {ts : List TypeId} {ds : List (DataW H)} (h : (DataW.weightsEach Tryd.prog ts ds).all (· ≤ reachBytes) = true) {j : Nat} {t : TypeId} {d : DataW H} (ht : ts[j]? = some t) (hd : ds[j]? = some d) : ∀ z ∈ d.weights Tryd.prog t, z ≤ reachBytes := fun z hz => by
  have := List.all_eq_true.1 h _ (DataW.weights_mem_each ht hd z hz)
  simpa using this
theorem weights_part {P : Program} {e : TypeId} : ∀ {l : List (DataW H)} {d : DataW H}, d ∈ l → ∀ z ∈ d.weights P e, z ∈ DataW.weightsAll P e l
  | x :: l, d, hd, z, hz => by
    rw [DataW.weightsAll, List.mem_append]
    rcases List.mem_cons.1 hd with rfl | h
    · exact .inl hz
    · exact .inr (weights_part h z hz)
end
end Go.Proofs.YtamnononemallaaDoor

/-! Numbers as bytes, rows of bytes, and a writer: a block of one cell that holds a row. -/
namespace Go.Proofs.YtamnononemallaaDoor
open Go.RowKit

theorem grown_alloc (w : World) (o : Obj) : First.Grown w (w.alloc o) := World.ext_of_below (Below.alloc (Below.refl _ _) (Nat.le_refl _) o)
/-- A number's k lowest digits to the base 256, the highest first. -/
def be : Nat → Nat → List Nat
  | 0, _ => []
  | k + 1, n => be k (n / 256) ++ [n % 256]
theorem be_length : ∀ k n, (be k n).length = k
  | 0, _ => rfl
  | k + 1, n => by simp [be, be_length k]
theorem be_get : ∀ k n j, j < k → (be k n)[j]? = some (n / 256 ^ (k - 1 - j) % 256)
  | 0, _, _, h => by omega
  | k + 1, n, j, h => by
    simp only [be]
    by_cases hj : j < k
    · rw [List.getElem?_append_left (by rw [be_length]; exact hj), be_get k _ j hj, Nat.div_div_eq_div_mul, show k + 1 - 1 - j = (k - 1 - j) + 1 by omega, Nat.pow_succ']
    · have : j = k := by omega
      subst this
      rw [List.getElem?_append_right (by rw [be_length]; exact Nat.le_refl _), be_length]
      simp
theorem be_take_succ (k n j : Nat) (h : j < k) : (be k n).take (j + 1) = (be k n).take j ++ [n / 256 ^ (k - 1 - j) % 256] := by
  rw [List.take_add_one, be_get k n j h]; rfl
theorem be_lt : ∀ k n, ∀ x ∈ be k n, x < 256
  | 0, _, x, h => by simp [be] at h
  | k + 1, n, x, h => by
    simp only [be, List.mem_append, List.mem_singleton] at h
    rcases h with h | rfl
    · exact be_lt k _ x h
    · omega
/-- How many digits a number needs. -/
def longN (n : Nat) : Nat := if h : n = 0 then 0 else longN (n / 256) + 1
termination_by n
decreasing_by omega
theorem longN_zero : longN 0 = 0 := by rw [longN]; rfl
theorem longN_pos {n : Nat} (h : 0 < n) : longN n = longN (n / 256) + 1 := by rw [longN, dif_neg (by omega)]
theorem longN_le : ∀ (k n : Nat), n < 256 ^ k → longN n ≤ k
  | 0, n, h => by
    have : n = 0 := by simpa using h
    subst this
    rw [longN_zero]
    exact Nat.le_refl _
  | k + 1, n, h => by
    by_cases h0 : n = 0
    · subst h0
      rw [longN_zero]
      omega
    · rw [longN_pos (by omega)]
      have := longN_le k (n / 256) (by rw [Nat.pow_succ] at h; omega)
      omega
theorem lt_longN (n : Nat) : n < 256 ^ longN n := by
  induction n using Nat.strongRecOn with
  | ind n ih =>
    by_cases h0 : n = 0
    · subst h0
      rw [longN_zero]
      exact Nat.one_pos
    · rw [longN_pos (by omega), Nat.pow_succ]
      have := ih (n / 256) (by omega)
      omega
/-- A number's bytes. -/
def numB (n : Nat) : List Nat := if n < 248 then [n] else (247 + longN n) :: be (longN n) n
theorem numB_length (n : Nat) : (numB n).length = if n < 248 then 1 else longN n + 1 := by
  unfold numB
  split
  · rfl
  · simp [be_length]
theorem numB_le (n : Nat) (h : n < 18446744073709551616) : (numB n).length ≤ 9 := by
  rw [numB_length]
  split
  · omega
  · have := longN_le 8 n (by omega)
    omega
theorem numB_lt (n : Nat) (h : n < 18446744073709551616) : ∀ x ∈ numB n, x < 256 := by
  intro x hx
  unfold numB at hx
  split at hx
  · simp at hx
    omega
  · have := longN_le 8 n (by omega)
    rcases List.mem_cons.1 hx with rfl | hx
    · omega
    · exact be_lt _ _ x hx
/-- A number with a sign as one without. -/
def zig (a : Int) : Nat := if 0 ≤ a then (2 * a).toNat else (-2 * a - 1).toNat
theorem zig_lt (a : Int) (h : -9223372036854775808 ≤ a ∧ a ≤ 9223372036854775807) : zig a < 18446744073709551616 := by
  unfold zig
  split <;> omega

/-- A row of bytes that the call owns. -/
def Row (w : World) (base : Nat) (v : Value) (xs : List Nat) : Prop := w.ownsRow base 5 1 v xs.length (u8s xs)
theorem Row.nil (w : World) (base : Nat) : Row w base (.slice none 0 0) [] := ⟨rfl, .inl ⟨rfl, rfl⟩⟩
theorem Row.keep {w w' : World} {base : Nat} {v : Value} {xs : List Nat} (h : Row w base v xs) (hk : ∀ k, k < w.heap.size → v.ownBlock = some k → w'.heap[k]? = w.heap[k]?) : Row w' base v xs := by
  refine ⟨h.1, ?_⟩
  rcases h.2 with h1 | ⟨g, cap, cur, rfl, h2, h3, h4⟩
  · exact .inl h1
  · exact .inr ⟨g, cap, cur, rfl, h2, (hk g (blk_lt h3) rfl).trans h3, h4⟩
theorem Row.below {w w' : World} {base : Nat} {v : Value} {xs : List Nat} (h : Row w base v xs) (hb : Below w.heap.size w w') : Row w' base v xs := h.keep fun k hk _ => hb.block k hk
theorem Row.ge {w : World} {base : Nat} {v : Value} {xs : List Nat} (h : Row w base v xs) {k : Nat} (hk : v.ownBlock = some k) : base ≤ k ∧ k < w.heap.size := by
  rcases h.2 with ⟨rfl, _⟩ | ⟨g, cap, cur, rfl, h2, h3, h4⟩
  · cases hk
  · cases hk
    exact ⟨h2, blk_lt h3⟩
theorem Row.base {w : World} {base base' : Nat} {v : Value} {xs : List Nat} (h : Row w base v xs) (hb : base' ≤ base) : Row w base' v xs := own_base h hb
theorem Row.slice {w : World} {base : Nat} {v : Value} {xs : List Nat} (h : Row w base v xs) : ∃ A cap, v = .slice A xs.length cap ∧ xs.length ≤ cap ∧ cap ≤ maxLen ∧ (A = none → cap = 0) ∧ Reads w w.heap.size 1 A xs.length (u8s xs) := by
  rcases h.2 with ⟨rfl, h0⟩ | ⟨g, cap, cur, rfl, h2, h3, h4, h5, _⟩
  · refine ⟨none, 0, by rw [h0], by omega, by unfold maxLen; omega, fun _ => rfl, ?_⟩
    rw [h0]
    have : xs = [] := List.eq_nil_of_length_eq_zero h0
    subst this
    exact Reads.none_
  · exact ⟨some ⟨g, 0, none⟩, cap, rfl, h4, h5, (fun e => by cases e), Reads.of_own h⟩

theorem Row.shape {w : World} {base : Nat} {v : Value} {xs : List Nat} (h : Row w base v xs) : ∃ A n c, v = .slice A n c := by
  obtain ⟨A, c, e, -⟩ := h.slice
  exact ⟨A, _, c, e⟩
/-- The change of one row. -/
structure Chg (w w' : World) (v v' : Value) : Prop where
  os : w'.os = w.os
  tape : w'.tape = w.tape
  output : w'.output = w.output
  size : w.heap.size ≤ w'.heap.size
  block : ∀ k, k < w.heap.size → v.ownBlock ≠ some k → w'.heap[k]? = w.heap[k]?
  lies : v'.ownBlock = v.ownBlock ∨ ∃ b, v'.ownBlock = some b ∧ w.heap.size ≤ b
theorem Chg.refl (w : World) (v : Value) : Chg w w v v := ⟨rfl, rfl, rfl, Nat.le_refl _, fun _ _ _ => rfl, .inl rfl⟩
theorem Chg.trans {w w' w'' : World} {v v' v'' : Value} (h : Chg w w' v v') (k : Chg w' w'' v' v'') : Chg w w'' v v'' := by
  refine ⟨k.os.trans h.os, k.tape.trans h.tape, k.output.trans h.output, Nat.le_trans h.size k.size, fun i hi hv => ?_, ?_⟩
  · refine (k.block i (Nat.lt_of_lt_of_le hi h.size) ?_).trans (h.block i hi hv)
    rcases h.lies with e | ⟨b, e, hb⟩
    · rw [e]; exact hv
    · rw [e]
      intro e'
      cases e'
      omega
  · rcases k.lies with e | ⟨b, e, hb⟩
    · rw [e]; exact h.lies
    · exact .inr ⟨b, e, Nat.le_trans h.size hb⟩
theorem Chg.of_below {w w' : World} {v : Value} (h : Below w.heap.size w w') : Chg w w' v v := ⟨h.os, h.tape, h.output, h.size, fun k hk _ => h.block k hk, .inl rfl⟩
theorem Chg.below {w w' : World} {base : Nat} {v v' : Value} {xs : List Nat} (h : Chg w w' v v') (hr : Row w base v xs) (hb : base ≤ w.heap.size) : Below base w w' :=
  ⟨h.os, h.tape, h.output, h.size, fun k hk => h.block k (by omega) fun e => by have := (hr.ge e).1; omega⟩

theorem Row.chg {w w' : World} {b : Nat} {u v v' : Value} {ys : List Nat} (hu : Row w b u ys) (hc : Chg w w' v v') (hne : ∀ k, u.ownBlock = some k → v.ownBlock ≠ some k) : Row w' b u ys :=
  hu.keep fun k hk e => hc.block k hk (hne k e)
/-- The lowest digits, the lowest first. -/
def les (j n : Nat) : List Nat := (List.range j).map fun i => n / 256 ^ i % 256
theorem les_length (j n : Nat) : (les j n).length = j := by simp [les]
theorem les_succ (j n : Nat) : les (j + 1) n = les j n ++ [n / 256 ^ j % 256] := by simp [les, List.range_succ]
theorem les_get {j n i : Nat} (h : i < j) : (les j n)[i]? = some (n / 256 ^ i % 256) := by simp [les, h]
theorem Row.at_ {w : World} {base : Nat} {v : Value} {xs : List Nat} (h : Row w base v xs) (h0 : 0 < xs.length) : ∃ g cap, v = .slice (some ⟨g, 0, none⟩) xs.length cap ∧ g < w.heap.size ∧ base ≤ g ∧ xs.length ≤ cap ∧ cap ≤ maxLen ∧ ∀ (i x : Nat), xs[i]? = some x → w.cell? ⟨g, i, none⟩ = some (.int .u8 (x : Int)) := by
  rcases h.2 with ⟨rfl, e⟩ | ⟨g, cap, cur, rfl, h2, h3, h4, h5, h6, h7⟩
  · omega
  · refine ⟨g, cap, rfl, blk_lt h3, h2, h4, h5, fun i x hi => ?_⟩
    have := Row.slice h
    have hc : w.cell? ⟨g, i, none⟩ = cur[i]? := blk_cell h3 i
    rw [hc]
    have hi2 : (u8s xs)[i]? = some (.int .u8 (x : Int)) := by rw [u8s_get, hi]; rfl
    rw [← h7, List.getElem?_take] at hi2
    split at hi2
    · simpa using hi2
    · cases hi2
theorem Row.cell {w : World} {base L n c : Nat} {xs : List Nat} (h : Row w base (.slice (some ⟨L, 0, none⟩) n c) xs) {i x : Nat} (hi : xs[i]? = some x) : w.cell? ⟨L, i, none⟩ = some (.int .u8 (x : Int)) := by
  obtain ⟨g, cap, e, _, _, _, _, hc⟩ := h.at_ (by have := (List.getElem?_eq_some_iff.1 hi).1; omega)
  simp only [Value.slice.injEq, Option.some.injEq, Addr.mk.injEq] at e
  rw [e.1.1]
  exact hc i x hi
/-- A writer: a block of one cell that holds a row. -/
structure Wrt (w : World) (base g : Nat) (t : TypeId) (v : Value) (xs : List Nat) : Prop where
  blk : Blk w g t #[v]
  row : Row w base v xs
  ne : v.ownBlock ≠ some g
  ge : base ≤ g
structure Chw (w w' : World) (g : Nat) (v v' : Value) : Prop where
  os : w'.os = w.os
  tape : w'.tape = w.tape
  output : w'.output = w.output
  size : w.heap.size ≤ w'.heap.size
  block : ∀ k, k < w.heap.size → k ≠ g → v.ownBlock ≠ some k → w'.heap[k]? = w.heap[k]?
  lies : v'.ownBlock = v.ownBlock ∨ ∃ b, v'.ownBlock = some b ∧ w.heap.size ≤ b
theorem Chw.refl (w : World) (g : Nat) (v : Value) : Chw w w g v v := ⟨rfl, rfl, rfl, Nat.le_refl _, fun _ _ _ _ => rfl, .inl rfl⟩
theorem Chw.trans {w w' w'' : World} {g : Nat} {v v' v'' : Value} (h : Chw w w' g v v') (k : Chw w' w'' g v' v'') : Chw w w'' g v v'' := by
  refine ⟨k.os.trans h.os, k.tape.trans h.tape, k.output.trans h.output, Nat.le_trans h.size k.size, fun i hi hg hv => ?_, ?_⟩
  · refine (k.block i (Nat.lt_of_lt_of_le hi h.size) hg ?_).trans (h.block i hi hg hv)
    rcases h.lies with e | ⟨b, e, hb⟩
    · rw [e]; exact hv
    · rw [e]
      intro e'
      cases e'
      omega
  · rcases k.lies with e | ⟨b, e, hb⟩
    · rw [e]; exact h.lies
    · exact .inr ⟨b, e, Nat.le_trans h.size hb⟩
theorem Chw.of_below {w w' : World} {g : Nat} {v : Value} (h : Below w.heap.size w w') : Chw w w' g v v := ⟨h.os, h.tape, h.output, h.size, fun k hk _ _ => h.block k hk, .inl rfl⟩
theorem Chw.below {w w' : World} {base g : Nat} {t : TypeId} {v v' : Value} {xs : List Nat} (h : Chw w w' g v v') (hr : Wrt w base g t v xs) : Below base w w' :=
  ⟨h.os, h.tape, h.output, h.size, fun k hk => h.block k (by have := hr.ge; have := hr.blk.lt; omega) (by have := hr.ge; omega) fun e => by have := (hr.row.ge e).1; omega⟩
theorem Wrt.below {w w' : World} {base g : Nat} {t : TypeId} {v : Value} {xs : List Nat} (h : Wrt w base g t v xs) (hb : Below w.heap.size w w') : Wrt w' base g t v xs :=
  ⟨h.blk.below hb h.blk.lt, h.row.below hb, h.ne, h.ge⟩
theorem Blk.chw {w w' : World} {k g : Nat} {t : TypeId} {cs : Array Value} {v v' : Value} (h : Blk w k t cs) (hc : Chw w w' g v v') (h1 : k ≠ g) (h2 : v.ownBlock ≠ some k) : Blk w' k t cs := (hc.block k h.lt h1 h2).trans h
theorem Chw.old {w w' : World} {g : Nat} {v v' : Value} (hc : Chw w w' g v v') {k : Nat} (hk : k < w.heap.size) (h2 : v.ownBlock ≠ some k) : v'.ownBlock ≠ some k := by
  rcases hc.lies with e | ⟨b, e, hb⟩
  · rw [e]; exact h2
  · rw [e]
    intro e'
    cases e'
    omega
theorem Row.far {w : World} {base : Nat} {v : Value} {xs : List Nat} (h : Row w base v xs) {k : Nat} (hk : w.heap.size ≤ k) : v.ownBlock ≠ some k := fun e => by
  have := (h.ge e).2
  omega
theorem Wrt.chg {w w1 : World} {base g : Nat} {t : TypeId} {v v' : Value} {xs : List Nat} (h : Wrt w base g t v xs) (hc : Chg w w1 v v') : Blk w1 g t #[v] := (hc.block g h.blk.lt h.ne).trans h.blk
theorem Chg.ne {w w1 : World} {base g : Nat} {t : TypeId} {v v' : Value} {xs : List Nat} (h : Wrt w base g t v xs) (hc : Chg w w1 v v') : v'.ownBlock ≠ some g := by
  rcases hc.lies with e | ⟨b, e, hb⟩
  · rw [e]; exact h.ne
  · rw [e]
    intro e'
    cases e'
    have := h.blk.lt
    omega
theorem Wrt.set_ {w w1 : World} {base g : Nat} {t : TypeId} {v v' : Value} {xs ys : List Nat} (h : Wrt w base g t v xs) (hc : Chg w w1 v v') (hr : Row w1 base v' ys) :
    Wrt (w1.setCell ⟨g, 0, none⟩ v') base g t v' ys ∧ Chw w (w1.setCell ⟨g, 0, none⟩ v') g v v' := by
  refine ⟨⟨(h.chg hc).set_to rfl, ownsRow_setCell_other hr (hc.ne h) v', hc.ne h, h.ge⟩, ?_⟩
  refine ⟨hc.os, hc.tape, hc.output, ?_, fun k hk hg hv => ?_, hc.lies⟩
  · simpa using hc.size
  · exact (Below.heap_setCell w1 _ _ k hg).trans (hc.block k hk hv)

theorem app_byte {P : Program} {w : World} {ops : Array Oper} {rest : List Oper} {o : Oper} {a : Act} {Q : Exit → Act → World → Prop} (hgd : o.guard = none) (s x : Operand) (t : TypeId)
    (ho : o.op = .call { callee := .builtin .append, args := #[s, x], argTypes := #[t, t] }) (ht : P.underlying t = some (.slice 5)) (hinfo : (P.info? 5).map (fun i => (i.zero, i.size, i.bytes)) = some (some (.int .u8 0), 1, 1))
    (base : Nat) (v : Value) (xs : List Nat) (y : Nat) (b : Int) (hy : b = (y : Int)) (hs : a.eval s = v) (hown : Row w base v xs) (B : Nat) (hB : B = w.heap.size) (hx : a.eval x = .slice (some ⟨B, 0, none⟩) 1 1) (hlen : xs.length + 1 ≤ 140737488355328) (hbase : base ≤ w.heap.size)
    (h : ∀ v' w', Row w' base v' (xs ++ [y]) → Chg w w' v v' → wpList P ops Q rest (a.put o.dst v') w') :
    wpList P ops Q (o :: rest) a (w.alloc (.cells #[.int .u8 b] 5)) := by
  subst hy hB
  obtain ⟨i0, hi, hz0, hz1, hz2⟩ := info_parts hinfo
  refine wpList_append_own_at (w.alloc (.cells #[.int .u8 (y : Int)] 5)) hgd s x t ho base 5 i0 (.int .u8 0) 1 1 ht hi hz0 hz1 hz2 rfl (by decide) v xs.length (u8s xs) hs (Row.keep hown fun k hk _ => Below.heap_alloc w _ k hk) ⟨w.heap.size, 0, none⟩ 1 1 [.int .u8 (y : Int)] hx rfl (cell_one_new _ _ _) (fun u hu => by simp at hu; subst hu; rfl) (by unfold maxLen; omega) (by omega) (by simp; omega) fun v' w' h1 h2 h3 h4 => h v' w' ?_ ?_
  · unfold Row
    rw [List.length_append, u8s_append]
    exact h1
  · refine ⟨h2.os, h2.tape, h2.output, ?_, fun k hk hv => ?_, ?_⟩
    · have := h2.size
      simp at this
      omega
    · exact (h2.block k (by simp; omega) (Ne.symm hv)).trans (Below.heap_alloc w _ k hk)
    · rcases h4 with e | e
      · exact .inl e
      · exact .inr ⟨_, e, by simp⟩
theorem app_row {P : Program} {w : World} {ops : Array Oper} {rest : List Oper} {o : Oper} {a : Act} {Q : Exit → Act → World → Prop} (hgd : o.guard = none) (s x : Operand) (t : TypeId)
    (ho : o.op = .call { callee := .builtin .append, args := #[s, x], argTypes := #[t, t] }) (ht : P.underlying t = some (.slice 5)) (hinfo : (P.info? 5).map (fun i => (i.zero, i.size, i.bytes)) = some (some (.int .u8 0), 1, 1))
    (base : Nat) (v : Value) (xs ys : List Nat) (A : Option Addr) (m c : Nat) (hs : a.eval s = v) (hown : Row w base v xs) (hx : a.eval x = .slice A m c) (hm : m = ys.length) (hr : Reads w w.heap.size 1 A m (u8s ys)) (hnil : A = none → c = 0) (hlen : xs.length + m ≤ 140737488355328) (hbase : base ≤ w.heap.size)
    (h : ∀ v' w', Row w' base v' (xs ++ ys) → Chg w w' v v' → wpList P ops Q rest (a.put o.dst v') w') :
    wpList P ops Q (o :: rest) a w := by
  subst hm
  obtain ⟨i0, hi, hz0, hz1, hz2⟩ := info_parts hinfo
  cases A with
  | none =>
    have h0 : ys.length = 0 := by
      rcases Nat.eq_zero_or_pos ys.length with e | e
      · exact e
      · obtain ⟨_, e', _⟩ := hr.2 e
        cases e'
    have hy : ys = [] := List.eq_nil_of_length_eq_zero h0
    subst hy
    obtain rfl := hnil rfl
    refine wpList_plain hgd fun K hK' => ?_
    have hrun := run_append_owned_none (P := P) w base t o.type 5 i0 1 ht hi v xs.length (u8s xs) hown
    unfold Oper.wp
    simp [execOp, ho, resolve, invoke, builtin, hs, hx, hrun, Result.andThen]
    exact hK' _ _ (h v w (by simpa using hown) (Chg.refl _ _))
  | some ad =>
    refine wpList_append_own_at w hgd s x t ho base 5 i0 (.int .u8 0) 1 1 ht hi hz0 hz1 hz2 rfl (by decide) v xs.length (u8s xs) hs hown ad ys.length c (u8s ys) hx (by rw [u8s_length, Nat.mul_one]) (fun j u hu => ?_) (fun u hu => ?_) (by unfold maxLen; omega) (by omega) hbase fun v' w' h1 h2 h3 h4 => h v' w' ?_ ?_
    · obtain ⟨ad', e, _, hc⟩ := hr.2 (by have := (List.getElem?_eq_some_iff.1 hu).1; rw [u8s_length] at this; omega)
      cases e
      exact hc j u hu
    · obtain ⟨y, _, rfl⟩ := List.mem_map.1 hu
      rfl
    · unfold Row
      rw [List.length_append, u8s_append]
      exact h1
    · refine ⟨h2.os, h2.tape, h2.output, h2.size, fun k hk hv => h2.block k hk (Ne.symm hv), ?_⟩
      rcases h4 with e | e
      · exact .inl e
      · exact .inr ⟨_, e, Nat.le_refl _⟩
end Go.Proofs.YtamnononemallaaDoor

/-! Names and values: bytes by bytes, the program's and the document's. -/
namespace Go.Proofs.YtamnononemallaaDoor
open Go.RowKit
def nmC (i : Nat) (x : UInt8) : Bool := (decide (97 ≤ x.toNat) && decide (x.toNat ≤ 122)) || (decide (65 ≤ x.toNat) && decide (x.toNat ≤ 90)) || decide (x.toNat = 95) || (decide (0 < i) && decide (48 ≤ x.toNat) && decide (x.toNat ≤ 57))
def vlC (x : UInt8) : Bool := decide (32 ≤ x.toNat) && decide (x.toNat ≤ 126)
/-- The first 'n' bytes are bytes of a name. -/
def nmT (s : ByteArray) (n : Nat) : Bool := (List.range n).all fun i => nmC i (s.data.toList.getD i 0)
def vlT (s : ByteArray) (n : Nat) : Bool := (List.range n).all fun i => vlC (s.data.toList.getD i 0)
def nmA (s : ByteArray) : Bool := nmT s s.size
def vlA (s : ByteArray) : Bool := vlT s s.size
def nmB (s : ByteArray) : Bool := decide (1 ≤ s.size) && decide (s.size ≤ 32) && nmA s
def vlB (s : ByteArray) : Bool := decide (1 ≤ s.size) && decide (s.size ≤ 64) && vlA s
theorem byte_at {s : ByteArray} {i : Nat} (h : i < s.size) : s.data.toList.getD i 0 = s[i] := by
  rw [List.getD_eq_getElem?_getD, List.getElem?_eq_getElem (by rw [Array.length_toList]; exact h)]
  rfl
theorem nmA_no {s : ByteArray} {i : Nat} (h : i < s.size) (hc : nmC i s[i] = false) : nmA s = false := by
  simp only [nmA, nmT, List.all_eq_false]
  exact ⟨i, by simpa using h, by rw [byte_at h, hc]; simp⟩
theorem nmA_up {s : ByteArray} {i : Nat} (ha : nmT s i = true) (h : i < s.size) (hc : nmC i s[i] = true) : nmT s (i + 1) = true := by
  simp only [nmT] at *
  rw [List.range_succ, List.all_append, ha]
  simp only [List.all_cons, List.all_nil, Bool.and_true, Bool.true_and]
  rw [byte_at h, hc]
theorem vlA_no {s : ByteArray} {i : Nat} (h : i < s.size) (hc : vlC s[i] = false) : vlA s = false := by
  simp only [vlA, vlT, List.all_eq_false]
  exact ⟨i, by simpa using h, by rw [byte_at h, hc]; simp⟩
theorem vlA_up {s : ByteArray} {i : Nat} (ha : vlT s i = true) (h : i < s.size) (hc : vlC s[i] = true) : vlT s (i + 1) = true := by
  simp only [vlT] at *
  rw [List.range_succ, List.all_append, ha]
  simp only [List.all_cons, List.all_nil, Bool.and_true, Bool.true_and]
  rw [byte_at h, hc]
theorem str_empty {s : ByteArray} (h : s.size = 0) : s.toList = [] := by
  rw [ByteArray.toList_eq]
  exact List.eq_nil_of_length_eq_zero (by rw [← Lib.size_eq]; exact h)
theorem str_some {s : ByteArray} (h : 0 < s.size) : ¬ s.toList = [] ∧ s.toList.isEmpty = false := by
  rw [ByteArray.toList_eq]
  have h1 : ¬ s.data.toList = [] := fun e => by rw [Lib.size_eq, e] at h; cases h
  exact ⟨h1, by rw [List.isEmpty_eq_false_iff]; exact h1⟩
set_option maxRecDepth 100000 in
set_option maxHeartbeats 16000000 in
theorem pname_any (s : ByteArray) (hs : s.size ≤ maxLen) (w : World) :
    Calls Tryd.prog 30 #[.string s] w fun e w' => e = .returned (.bool (nmB s)) ∧ w' = w := by
  unfold maxLen at hs
  rcases Nat.eq_zero_or_pos s.size with h0 | h0
  · have he := str_empty h0
    have he' : s.toList.isEmpty = true := by rw [he]; rfl
    have hF := hide (show nmB s = false by simp [nmB, h0])
    go_enter Tryd.func30, Tryd.ntmps30
    go_wp2
    go_ret
    exact ⟨by rw [hF.out]; rfl, rfl⟩
  obtain ⟨he, he'⟩ := str_some h0
  by_cases h32 : s.size ≤ 32
  · have h32i : (s.size : Int) ≤ 32 := by omega
    have ht : nmB s = nmA s := by simp [nmB, h32, show 1 ≤ s.size from h0]
    rw [ht]
    go_enter Tryd.func30, Tryd.ntmps30
    go_wp2
    go_loopw [15] (fun s15 wr => ∃ i : Nat, i ≤ s.size ∧ s15 = .int .i64 (i : Int) ∧ nmT s i = true ∧ wr = w) (fun s15 _ => ((s.size : Int) - intOf s15).toNat)
    case atStart => exact ⟨0, by omega, rfl, rfl, rfl⟩
    case round =>
      obtain ⟨i, hi, rfl, hno, rfl⟩ := hrel
      by_cases hlt : i < s.size
      · rcases Nat.eq_zero_or_pos i with rfl | hip
        · obtain ⟨x, hx⟩ : ∃ x : UInt8, s[0] = x := ⟨_, rfl⟩
          have hii : (0 : Int) < s.size := by omega
          rcases Nat.lt_or_ge x.toNat 48 with h1 | h1
          · have hc : nmC 0 x = false := by simp [nmC]; omega
            have hF : nmA s = false := nmA_no hlt (by rw [hx]; exact hc)
            have hF := hide hF
            clear hc hno
            first | (have d1 : decide ((97 : Int) ≤ (x.toNat : Int)) = true := decide_eq_true (by omega)) | (have d1 : decide ((97 : Int) ≤ (x.toNat : Int)) = false := decide_eq_false (by omega))
            first | (have d2 : decide ((x.toNat : Int) ≤ 122) = true := decide_eq_true (by omega)) | (have d2 : decide ((x.toNat : Int) ≤ 122) = false := decide_eq_false (by omega))
            first | (have d3 : decide ((65 : Int) ≤ (x.toNat : Int)) = true := decide_eq_true (by omega)) | (have d3 : decide ((65 : Int) ≤ (x.toNat : Int)) = false := decide_eq_false (by omega))
            first | (have d4 : decide ((x.toNat : Int) ≤ 90) = true := decide_eq_true (by omega)) | (have d4 : decide ((x.toNat : Int) ≤ 90) = false := decide_eq_false (by omega))
            first | (have d5 : ((x.toNat : Int) == 95) = true := by simp; omega) | (have d5 : ((x.toNat : Int) == 95) = false := by simp; omega)
            first | (have d6 : decide ((x.toNat : Int) < 48) = true := decide_eq_true (by omega)) | (have d6 : decide ((x.toNat : Int) < 48) = false := decide_eq_false (by omega))
            first | (have d7 : decide ((48 : Int) ≤ (x.toNat : Int)) = true := decide_eq_true (by omega)) | (have d7 : decide ((48 : Int) ≤ (x.toNat : Int)) = false := decide_eq_false (by omega))
            first | (have d8 : decide ((57 : Int) < (x.toNat : Int)) = true := decide_eq_true (by omega)) | (have d8 : decide ((57 : Int) < (x.toNat : Int)) = false := decide_eq_false (by omega))
            first | (have d9 : decide ((x.toNat : Int) ≤ 57) = true := decide_eq_true (by omega)) | (have d9 : decide ((x.toNat : Int) ≤ 57) = false := decide_eq_false (by omega))
            go_wp2
            go_ret
            exact ⟨by simp [nmB, hF.out], by trivial⟩
          rcases Nat.lt_or_ge 57 x.toNat with h2 | h2
          rcases Nat.lt_or_ge x.toNat 65 with h3 | h3
          · have hc : nmC 0 x = false := by simp [nmC]; omega
            have hF : nmA s = false := nmA_no hlt (by rw [hx]; exact hc)
            have hF := hide hF
            clear hc hno
            first | (have d1 : decide ((97 : Int) ≤ (x.toNat : Int)) = true := decide_eq_true (by omega)) | (have d1 : decide ((97 : Int) ≤ (x.toNat : Int)) = false := decide_eq_false (by omega))
            first | (have d2 : decide ((x.toNat : Int) ≤ 122) = true := decide_eq_true (by omega)) | (have d2 : decide ((x.toNat : Int) ≤ 122) = false := decide_eq_false (by omega))
            first | (have d3 : decide ((65 : Int) ≤ (x.toNat : Int)) = true := decide_eq_true (by omega)) | (have d3 : decide ((65 : Int) ≤ (x.toNat : Int)) = false := decide_eq_false (by omega))
            first | (have d4 : decide ((x.toNat : Int) ≤ 90) = true := decide_eq_true (by omega)) | (have d4 : decide ((x.toNat : Int) ≤ 90) = false := decide_eq_false (by omega))
            first | (have d5 : ((x.toNat : Int) == 95) = true := by simp; omega) | (have d5 : ((x.toNat : Int) == 95) = false := by simp; omega)
            first | (have d6 : decide ((x.toNat : Int) < 48) = true := decide_eq_true (by omega)) | (have d6 : decide ((x.toNat : Int) < 48) = false := decide_eq_false (by omega))
            first | (have d7 : decide ((48 : Int) ≤ (x.toNat : Int)) = true := decide_eq_true (by omega)) | (have d7 : decide ((48 : Int) ≤ (x.toNat : Int)) = false := decide_eq_false (by omega))
            first | (have d8 : decide ((57 : Int) < (x.toNat : Int)) = true := decide_eq_true (by omega)) | (have d8 : decide ((57 : Int) < (x.toNat : Int)) = false := decide_eq_false (by omega))
            first | (have d9 : decide ((x.toNat : Int) ≤ 57) = true := decide_eq_true (by omega)) | (have d9 : decide ((x.toNat : Int) ≤ 57) = false := decide_eq_false (by omega))
            go_wp2
            go_ret
            exact ⟨by simp [nmB, hF.out], by trivial⟩
          rcases Nat.lt_or_ge 90 x.toNat with h4 | h4
          rcases Nat.lt_or_ge x.toNat 97 with h5 | h5
          by_cases h6 : x.toNat = 95
          · have hc : nmC 0 x = true := by simp [nmC]; omega
            have HN := hide (nmA_up hno hlt (by rw [hx]; exact hc))
            clear hc hno
            first | (have d1 : decide ((97 : Int) ≤ (x.toNat : Int)) = true := decide_eq_true (by omega)) | (have d1 : decide ((97 : Int) ≤ (x.toNat : Int)) = false := decide_eq_false (by omega))
            first | (have d2 : decide ((x.toNat : Int) ≤ 122) = true := decide_eq_true (by omega)) | (have d2 : decide ((x.toNat : Int) ≤ 122) = false := decide_eq_false (by omega))
            first | (have d3 : decide ((65 : Int) ≤ (x.toNat : Int)) = true := decide_eq_true (by omega)) | (have d3 : decide ((65 : Int) ≤ (x.toNat : Int)) = false := decide_eq_false (by omega))
            first | (have d4 : decide ((x.toNat : Int) ≤ 90) = true := decide_eq_true (by omega)) | (have d4 : decide ((x.toNat : Int) ≤ 90) = false := decide_eq_false (by omega))
            first | (have d5 : ((x.toNat : Int) == 95) = true := by simp; omega) | (have d5 : ((x.toNat : Int) == 95) = false := by simp; omega)
            first | (have d6 : decide ((x.toNat : Int) < 48) = true := decide_eq_true (by omega)) | (have d6 : decide ((x.toNat : Int) < 48) = false := decide_eq_false (by omega))
            first | (have d7 : decide ((48 : Int) ≤ (x.toNat : Int)) = true := decide_eq_true (by omega)) | (have d7 : decide ((48 : Int) ≤ (x.toNat : Int)) = false := decide_eq_false (by omega))
            first | (have d8 : decide ((57 : Int) < (x.toNat : Int)) = true := decide_eq_true (by omega)) | (have d8 : decide ((57 : Int) < (x.toNat : Int)) = false := decide_eq_false (by omega))
            first | (have d9 : decide ((x.toNat : Int) ≤ 57) = true := decide_eq_true (by omega)) | (have d9 : decide ((x.toNat : Int) ≤ 57) = false := decide_eq_false (by omega))
            go_wp2
            go_roundw
            case rel => exact ⟨_, Nat.succ_le_of_lt hlt, by go_num, HN.out, by trivial⟩
            case measure => simp [intOf]; omega
          · have hc : nmC 0 x = false := by simp [nmC]; omega
            have hF : nmA s = false := nmA_no hlt (by rw [hx]; exact hc)
            have hF := hide hF
            clear hc hno
            first | (have d1 : decide ((97 : Int) ≤ (x.toNat : Int)) = true := decide_eq_true (by omega)) | (have d1 : decide ((97 : Int) ≤ (x.toNat : Int)) = false := decide_eq_false (by omega))
            first | (have d2 : decide ((x.toNat : Int) ≤ 122) = true := decide_eq_true (by omega)) | (have d2 : decide ((x.toNat : Int) ≤ 122) = false := decide_eq_false (by omega))
            first | (have d3 : decide ((65 : Int) ≤ (x.toNat : Int)) = true := decide_eq_true (by omega)) | (have d3 : decide ((65 : Int) ≤ (x.toNat : Int)) = false := decide_eq_false (by omega))
            first | (have d4 : decide ((x.toNat : Int) ≤ 90) = true := decide_eq_true (by omega)) | (have d4 : decide ((x.toNat : Int) ≤ 90) = false := decide_eq_false (by omega))
            first | (have d5 : ((x.toNat : Int) == 95) = true := by simp; omega) | (have d5 : ((x.toNat : Int) == 95) = false := by simp; omega)
            first | (have d6 : decide ((x.toNat : Int) < 48) = true := decide_eq_true (by omega)) | (have d6 : decide ((x.toNat : Int) < 48) = false := decide_eq_false (by omega))
            first | (have d7 : decide ((48 : Int) ≤ (x.toNat : Int)) = true := decide_eq_true (by omega)) | (have d7 : decide ((48 : Int) ≤ (x.toNat : Int)) = false := decide_eq_false (by omega))
            first | (have d8 : decide ((57 : Int) < (x.toNat : Int)) = true := decide_eq_true (by omega)) | (have d8 : decide ((57 : Int) < (x.toNat : Int)) = false := decide_eq_false (by omega))
            first | (have d9 : decide ((x.toNat : Int) ≤ 57) = true := decide_eq_true (by omega)) | (have d9 : decide ((x.toNat : Int) ≤ 57) = false := decide_eq_false (by omega))
            go_wp2
            go_ret
            exact ⟨by simp [nmB, hF.out], by trivial⟩
          rcases Nat.lt_or_ge 122 x.toNat with h7 | h7
          · have hc : nmC 0 x = false := by simp [nmC]; omega
            have hF : nmA s = false := nmA_no hlt (by rw [hx]; exact hc)
            have hF := hide hF
            clear hc hno
            first | (have d1 : decide ((97 : Int) ≤ (x.toNat : Int)) = true := decide_eq_true (by omega)) | (have d1 : decide ((97 : Int) ≤ (x.toNat : Int)) = false := decide_eq_false (by omega))
            first | (have d2 : decide ((x.toNat : Int) ≤ 122) = true := decide_eq_true (by omega)) | (have d2 : decide ((x.toNat : Int) ≤ 122) = false := decide_eq_false (by omega))
            first | (have d3 : decide ((65 : Int) ≤ (x.toNat : Int)) = true := decide_eq_true (by omega)) | (have d3 : decide ((65 : Int) ≤ (x.toNat : Int)) = false := decide_eq_false (by omega))
            first | (have d4 : decide ((x.toNat : Int) ≤ 90) = true := decide_eq_true (by omega)) | (have d4 : decide ((x.toNat : Int) ≤ 90) = false := decide_eq_false (by omega))
            first | (have d5 : ((x.toNat : Int) == 95) = true := by simp; omega) | (have d5 : ((x.toNat : Int) == 95) = false := by simp; omega)
            first | (have d6 : decide ((x.toNat : Int) < 48) = true := decide_eq_true (by omega)) | (have d6 : decide ((x.toNat : Int) < 48) = false := decide_eq_false (by omega))
            first | (have d7 : decide ((48 : Int) ≤ (x.toNat : Int)) = true := decide_eq_true (by omega)) | (have d7 : decide ((48 : Int) ≤ (x.toNat : Int)) = false := decide_eq_false (by omega))
            first | (have d8 : decide ((57 : Int) < (x.toNat : Int)) = true := decide_eq_true (by omega)) | (have d8 : decide ((57 : Int) < (x.toNat : Int)) = false := decide_eq_false (by omega))
            first | (have d9 : decide ((x.toNat : Int) ≤ 57) = true := decide_eq_true (by omega)) | (have d9 : decide ((x.toNat : Int) ≤ 57) = false := decide_eq_false (by omega))
            go_wp2
            go_ret
            exact ⟨by simp [nmB, hF.out], by trivial⟩
          · have hc : nmC 0 x = true := by simp [nmC]; omega
            have HN := hide (nmA_up hno hlt (by rw [hx]; exact hc))
            clear hc hno
            first | (have d1 : decide ((97 : Int) ≤ (x.toNat : Int)) = true := decide_eq_true (by omega)) | (have d1 : decide ((97 : Int) ≤ (x.toNat : Int)) = false := decide_eq_false (by omega))
            first | (have d2 : decide ((x.toNat : Int) ≤ 122) = true := decide_eq_true (by omega)) | (have d2 : decide ((x.toNat : Int) ≤ 122) = false := decide_eq_false (by omega))
            first | (have d3 : decide ((65 : Int) ≤ (x.toNat : Int)) = true := decide_eq_true (by omega)) | (have d3 : decide ((65 : Int) ≤ (x.toNat : Int)) = false := decide_eq_false (by omega))
            first | (have d4 : decide ((x.toNat : Int) ≤ 90) = true := decide_eq_true (by omega)) | (have d4 : decide ((x.toNat : Int) ≤ 90) = false := decide_eq_false (by omega))
            first | (have d5 : ((x.toNat : Int) == 95) = true := by simp; omega) | (have d5 : ((x.toNat : Int) == 95) = false := by simp; omega)
            first | (have d6 : decide ((x.toNat : Int) < 48) = true := decide_eq_true (by omega)) | (have d6 : decide ((x.toNat : Int) < 48) = false := decide_eq_false (by omega))
            first | (have d7 : decide ((48 : Int) ≤ (x.toNat : Int)) = true := decide_eq_true (by omega)) | (have d7 : decide ((48 : Int) ≤ (x.toNat : Int)) = false := decide_eq_false (by omega))
            first | (have d8 : decide ((57 : Int) < (x.toNat : Int)) = true := decide_eq_true (by omega)) | (have d8 : decide ((57 : Int) < (x.toNat : Int)) = false := decide_eq_false (by omega))
            first | (have d9 : decide ((x.toNat : Int) ≤ 57) = true := decide_eq_true (by omega)) | (have d9 : decide ((x.toNat : Int) ≤ 57) = false := decide_eq_false (by omega))
            go_wp2
            go_roundw
            case rel => exact ⟨_, Nat.succ_le_of_lt hlt, by go_num, HN.out, by trivial⟩
            case measure => simp [intOf]; omega
          · have hc : nmC 0 x = true := by simp [nmC]; omega
            have HN := hide (nmA_up hno hlt (by rw [hx]; exact hc))
            clear hc hno
            first | (have d1 : decide ((97 : Int) ≤ (x.toNat : Int)) = true := decide_eq_true (by omega)) | (have d1 : decide ((97 : Int) ≤ (x.toNat : Int)) = false := decide_eq_false (by omega))
            first | (have d2 : decide ((x.toNat : Int) ≤ 122) = true := decide_eq_true (by omega)) | (have d2 : decide ((x.toNat : Int) ≤ 122) = false := decide_eq_false (by omega))
            first | (have d3 : decide ((65 : Int) ≤ (x.toNat : Int)) = true := decide_eq_true (by omega)) | (have d3 : decide ((65 : Int) ≤ (x.toNat : Int)) = false := decide_eq_false (by omega))
            first | (have d4 : decide ((x.toNat : Int) ≤ 90) = true := decide_eq_true (by omega)) | (have d4 : decide ((x.toNat : Int) ≤ 90) = false := decide_eq_false (by omega))
            first | (have d5 : ((x.toNat : Int) == 95) = true := by simp; omega) | (have d5 : ((x.toNat : Int) == 95) = false := by simp; omega)
            first | (have d6 : decide ((x.toNat : Int) < 48) = true := decide_eq_true (by omega)) | (have d6 : decide ((x.toNat : Int) < 48) = false := decide_eq_false (by omega))
            first | (have d7 : decide ((48 : Int) ≤ (x.toNat : Int)) = true := decide_eq_true (by omega)) | (have d7 : decide ((48 : Int) ≤ (x.toNat : Int)) = false := decide_eq_false (by omega))
            first | (have d8 : decide ((57 : Int) < (x.toNat : Int)) = true := decide_eq_true (by omega)) | (have d8 : decide ((57 : Int) < (x.toNat : Int)) = false := decide_eq_false (by omega))
            first | (have d9 : decide ((x.toNat : Int) ≤ 57) = true := decide_eq_true (by omega)) | (have d9 : decide ((x.toNat : Int) ≤ 57) = false := decide_eq_false (by omega))
            go_wp2
            go_roundw
            case rel => exact ⟨_, Nat.succ_le_of_lt hlt, by go_num, HN.out, by trivial⟩
            case measure => simp [intOf]; omega
          · have hc : nmC 0 x = false := by simp [nmC]; omega
            have hF : nmA s = false := nmA_no hlt (by rw [hx]; exact hc)
            have hF := hide hF
            clear hc hno
            first | (have d1 : decide ((97 : Int) ≤ (x.toNat : Int)) = true := decide_eq_true (by omega)) | (have d1 : decide ((97 : Int) ≤ (x.toNat : Int)) = false := decide_eq_false (by omega))
            first | (have d2 : decide ((x.toNat : Int) ≤ 122) = true := decide_eq_true (by omega)) | (have d2 : decide ((x.toNat : Int) ≤ 122) = false := decide_eq_false (by omega))
            first | (have d3 : decide ((65 : Int) ≤ (x.toNat : Int)) = true := decide_eq_true (by omega)) | (have d3 : decide ((65 : Int) ≤ (x.toNat : Int)) = false := decide_eq_false (by omega))
            first | (have d4 : decide ((x.toNat : Int) ≤ 90) = true := decide_eq_true (by omega)) | (have d4 : decide ((x.toNat : Int) ≤ 90) = false := decide_eq_false (by omega))
            first | (have d5 : ((x.toNat : Int) == 95) = true := by simp; omega) | (have d5 : ((x.toNat : Int) == 95) = false := by simp; omega)
            first | (have d6 : decide ((x.toNat : Int) < 48) = true := decide_eq_true (by omega)) | (have d6 : decide ((x.toNat : Int) < 48) = false := decide_eq_false (by omega))
            first | (have d7 : decide ((48 : Int) ≤ (x.toNat : Int)) = true := decide_eq_true (by omega)) | (have d7 : decide ((48 : Int) ≤ (x.toNat : Int)) = false := decide_eq_false (by omega))
            first | (have d8 : decide ((57 : Int) < (x.toNat : Int)) = true := decide_eq_true (by omega)) | (have d8 : decide ((57 : Int) < (x.toNat : Int)) = false := decide_eq_false (by omega))
            first | (have d9 : decide ((x.toNat : Int) ≤ 57) = true := decide_eq_true (by omega)) | (have d9 : decide ((x.toNat : Int) ≤ 57) = false := decide_eq_false (by omega))
            go_wp2
            go_ret
            exact ⟨by simp [nmB, hF.out], by trivial⟩
        · obtain ⟨x, hx⟩ : ∃ x : UInt8, s[i] = x := ⟨_, rfl⟩
          have hii : (i : Int) < s.size := by omega
          have di : ((i : Int) == 0) = false := by simp; omega
          have di' : decide ((0 : Int) < (i : Int)) = true := decide_eq_true (by omega)
          have di0 : ¬ (i = 0) := by omega
          rcases Nat.lt_or_ge x.toNat 48 with h1 | h1
          · have hc : nmC i x = false := by simp [nmC]; omega
            have hF : nmA s = false := nmA_no hlt (by rw [hx]; exact hc)
            have hF := hide hF
            clear hc hno
            first | (have d1 : decide ((97 : Int) ≤ (x.toNat : Int)) = true := decide_eq_true (by omega)) | (have d1 : decide ((97 : Int) ≤ (x.toNat : Int)) = false := decide_eq_false (by omega))
            first | (have d2 : decide ((x.toNat : Int) ≤ 122) = true := decide_eq_true (by omega)) | (have d2 : decide ((x.toNat : Int) ≤ 122) = false := decide_eq_false (by omega))
            first | (have d3 : decide ((65 : Int) ≤ (x.toNat : Int)) = true := decide_eq_true (by omega)) | (have d3 : decide ((65 : Int) ≤ (x.toNat : Int)) = false := decide_eq_false (by omega))
            first | (have d4 : decide ((x.toNat : Int) ≤ 90) = true := decide_eq_true (by omega)) | (have d4 : decide ((x.toNat : Int) ≤ 90) = false := decide_eq_false (by omega))
            first | (have d5 : ((x.toNat : Int) == 95) = true := by simp; omega) | (have d5 : ((x.toNat : Int) == 95) = false := by simp; omega)
            first | (have d6 : decide ((x.toNat : Int) < 48) = true := decide_eq_true (by omega)) | (have d6 : decide ((x.toNat : Int) < 48) = false := decide_eq_false (by omega))
            first | (have d7 : decide ((48 : Int) ≤ (x.toNat : Int)) = true := decide_eq_true (by omega)) | (have d7 : decide ((48 : Int) ≤ (x.toNat : Int)) = false := decide_eq_false (by omega))
            first | (have d8 : decide ((57 : Int) < (x.toNat : Int)) = true := decide_eq_true (by omega)) | (have d8 : decide ((57 : Int) < (x.toNat : Int)) = false := decide_eq_false (by omega))
            first | (have d9 : decide ((x.toNat : Int) ≤ 57) = true := decide_eq_true (by omega)) | (have d9 : decide ((x.toNat : Int) ≤ 57) = false := decide_eq_false (by omega))
            go_wp2
            go_ret
            exact ⟨by simp [nmB, hF.out], by trivial⟩
          rcases Nat.lt_or_ge 57 x.toNat with h2 | h2
          rcases Nat.lt_or_ge x.toNat 65 with h3 | h3
          · have hc : nmC i x = false := by simp [nmC]; omega
            have hF : nmA s = false := nmA_no hlt (by rw [hx]; exact hc)
            have hF := hide hF
            clear hc hno
            first | (have d1 : decide ((97 : Int) ≤ (x.toNat : Int)) = true := decide_eq_true (by omega)) | (have d1 : decide ((97 : Int) ≤ (x.toNat : Int)) = false := decide_eq_false (by omega))
            first | (have d2 : decide ((x.toNat : Int) ≤ 122) = true := decide_eq_true (by omega)) | (have d2 : decide ((x.toNat : Int) ≤ 122) = false := decide_eq_false (by omega))
            first | (have d3 : decide ((65 : Int) ≤ (x.toNat : Int)) = true := decide_eq_true (by omega)) | (have d3 : decide ((65 : Int) ≤ (x.toNat : Int)) = false := decide_eq_false (by omega))
            first | (have d4 : decide ((x.toNat : Int) ≤ 90) = true := decide_eq_true (by omega)) | (have d4 : decide ((x.toNat : Int) ≤ 90) = false := decide_eq_false (by omega))
            first | (have d5 : ((x.toNat : Int) == 95) = true := by simp; omega) | (have d5 : ((x.toNat : Int) == 95) = false := by simp; omega)
            first | (have d6 : decide ((x.toNat : Int) < 48) = true := decide_eq_true (by omega)) | (have d6 : decide ((x.toNat : Int) < 48) = false := decide_eq_false (by omega))
            first | (have d7 : decide ((48 : Int) ≤ (x.toNat : Int)) = true := decide_eq_true (by omega)) | (have d7 : decide ((48 : Int) ≤ (x.toNat : Int)) = false := decide_eq_false (by omega))
            first | (have d8 : decide ((57 : Int) < (x.toNat : Int)) = true := decide_eq_true (by omega)) | (have d8 : decide ((57 : Int) < (x.toNat : Int)) = false := decide_eq_false (by omega))
            first | (have d9 : decide ((x.toNat : Int) ≤ 57) = true := decide_eq_true (by omega)) | (have d9 : decide ((x.toNat : Int) ≤ 57) = false := decide_eq_false (by omega))
            go_wp2
            go_ret
            exact ⟨by simp [nmB, hF.out], by trivial⟩
          rcases Nat.lt_or_ge 90 x.toNat with h4 | h4
          rcases Nat.lt_or_ge x.toNat 97 with h5 | h5
          by_cases h6 : x.toNat = 95
          · have hc : nmC i x = true := by simp [nmC]; omega
            have HN := hide (nmA_up hno hlt (by rw [hx]; exact hc))
            clear hc hno
            first | (have d1 : decide ((97 : Int) ≤ (x.toNat : Int)) = true := decide_eq_true (by omega)) | (have d1 : decide ((97 : Int) ≤ (x.toNat : Int)) = false := decide_eq_false (by omega))
            first | (have d2 : decide ((x.toNat : Int) ≤ 122) = true := decide_eq_true (by omega)) | (have d2 : decide ((x.toNat : Int) ≤ 122) = false := decide_eq_false (by omega))
            first | (have d3 : decide ((65 : Int) ≤ (x.toNat : Int)) = true := decide_eq_true (by omega)) | (have d3 : decide ((65 : Int) ≤ (x.toNat : Int)) = false := decide_eq_false (by omega))
            first | (have d4 : decide ((x.toNat : Int) ≤ 90) = true := decide_eq_true (by omega)) | (have d4 : decide ((x.toNat : Int) ≤ 90) = false := decide_eq_false (by omega))
            first | (have d5 : ((x.toNat : Int) == 95) = true := by simp; omega) | (have d5 : ((x.toNat : Int) == 95) = false := by simp; omega)
            first | (have d6 : decide ((x.toNat : Int) < 48) = true := decide_eq_true (by omega)) | (have d6 : decide ((x.toNat : Int) < 48) = false := decide_eq_false (by omega))
            first | (have d7 : decide ((48 : Int) ≤ (x.toNat : Int)) = true := decide_eq_true (by omega)) | (have d7 : decide ((48 : Int) ≤ (x.toNat : Int)) = false := decide_eq_false (by omega))
            first | (have d8 : decide ((57 : Int) < (x.toNat : Int)) = true := decide_eq_true (by omega)) | (have d8 : decide ((57 : Int) < (x.toNat : Int)) = false := decide_eq_false (by omega))
            first | (have d9 : decide ((x.toNat : Int) ≤ 57) = true := decide_eq_true (by omega)) | (have d9 : decide ((x.toNat : Int) ≤ 57) = false := decide_eq_false (by omega))
            go_wp2
            go_roundw
            case rel => exact ⟨_, Nat.succ_le_of_lt hlt, by go_num, HN.out, by trivial⟩
            case measure => simp [intOf]; omega
          · have hc : nmC i x = false := by simp [nmC]; omega
            have hF : nmA s = false := nmA_no hlt (by rw [hx]; exact hc)
            have hF := hide hF
            clear hc hno
            first | (have d1 : decide ((97 : Int) ≤ (x.toNat : Int)) = true := decide_eq_true (by omega)) | (have d1 : decide ((97 : Int) ≤ (x.toNat : Int)) = false := decide_eq_false (by omega))
            first | (have d2 : decide ((x.toNat : Int) ≤ 122) = true := decide_eq_true (by omega)) | (have d2 : decide ((x.toNat : Int) ≤ 122) = false := decide_eq_false (by omega))
            first | (have d3 : decide ((65 : Int) ≤ (x.toNat : Int)) = true := decide_eq_true (by omega)) | (have d3 : decide ((65 : Int) ≤ (x.toNat : Int)) = false := decide_eq_false (by omega))
            first | (have d4 : decide ((x.toNat : Int) ≤ 90) = true := decide_eq_true (by omega)) | (have d4 : decide ((x.toNat : Int) ≤ 90) = false := decide_eq_false (by omega))
            first | (have d5 : ((x.toNat : Int) == 95) = true := by simp; omega) | (have d5 : ((x.toNat : Int) == 95) = false := by simp; omega)
            first | (have d6 : decide ((x.toNat : Int) < 48) = true := decide_eq_true (by omega)) | (have d6 : decide ((x.toNat : Int) < 48) = false := decide_eq_false (by omega))
            first | (have d7 : decide ((48 : Int) ≤ (x.toNat : Int)) = true := decide_eq_true (by omega)) | (have d7 : decide ((48 : Int) ≤ (x.toNat : Int)) = false := decide_eq_false (by omega))
            first | (have d8 : decide ((57 : Int) < (x.toNat : Int)) = true := decide_eq_true (by omega)) | (have d8 : decide ((57 : Int) < (x.toNat : Int)) = false := decide_eq_false (by omega))
            first | (have d9 : decide ((x.toNat : Int) ≤ 57) = true := decide_eq_true (by omega)) | (have d9 : decide ((x.toNat : Int) ≤ 57) = false := decide_eq_false (by omega))
            go_wp2
            go_ret
            exact ⟨by simp [nmB, hF.out], by trivial⟩
          rcases Nat.lt_or_ge 122 x.toNat with h7 | h7
          · have hc : nmC i x = false := by simp [nmC]; omega
            have hF : nmA s = false := nmA_no hlt (by rw [hx]; exact hc)
            have hF := hide hF
            clear hc hno
            first | (have d1 : decide ((97 : Int) ≤ (x.toNat : Int)) = true := decide_eq_true (by omega)) | (have d1 : decide ((97 : Int) ≤ (x.toNat : Int)) = false := decide_eq_false (by omega))
            first | (have d2 : decide ((x.toNat : Int) ≤ 122) = true := decide_eq_true (by omega)) | (have d2 : decide ((x.toNat : Int) ≤ 122) = false := decide_eq_false (by omega))
            first | (have d3 : decide ((65 : Int) ≤ (x.toNat : Int)) = true := decide_eq_true (by omega)) | (have d3 : decide ((65 : Int) ≤ (x.toNat : Int)) = false := decide_eq_false (by omega))
            first | (have d4 : decide ((x.toNat : Int) ≤ 90) = true := decide_eq_true (by omega)) | (have d4 : decide ((x.toNat : Int) ≤ 90) = false := decide_eq_false (by omega))
            first | (have d5 : ((x.toNat : Int) == 95) = true := by simp; omega) | (have d5 : ((x.toNat : Int) == 95) = false := by simp; omega)
            first | (have d6 : decide ((x.toNat : Int) < 48) = true := decide_eq_true (by omega)) | (have d6 : decide ((x.toNat : Int) < 48) = false := decide_eq_false (by omega))
            first | (have d7 : decide ((48 : Int) ≤ (x.toNat : Int)) = true := decide_eq_true (by omega)) | (have d7 : decide ((48 : Int) ≤ (x.toNat : Int)) = false := decide_eq_false (by omega))
            first | (have d8 : decide ((57 : Int) < (x.toNat : Int)) = true := decide_eq_true (by omega)) | (have d8 : decide ((57 : Int) < (x.toNat : Int)) = false := decide_eq_false (by omega))
            first | (have d9 : decide ((x.toNat : Int) ≤ 57) = true := decide_eq_true (by omega)) | (have d9 : decide ((x.toNat : Int) ≤ 57) = false := decide_eq_false (by omega))
            go_wp2
            go_ret
            exact ⟨by simp [nmB, hF.out], by trivial⟩
          · have hc : nmC i x = true := by simp [nmC]; omega
            have HN := hide (nmA_up hno hlt (by rw [hx]; exact hc))
            clear hc hno
            first | (have d1 : decide ((97 : Int) ≤ (x.toNat : Int)) = true := decide_eq_true (by omega)) | (have d1 : decide ((97 : Int) ≤ (x.toNat : Int)) = false := decide_eq_false (by omega))
            first | (have d2 : decide ((x.toNat : Int) ≤ 122) = true := decide_eq_true (by omega)) | (have d2 : decide ((x.toNat : Int) ≤ 122) = false := decide_eq_false (by omega))
            first | (have d3 : decide ((65 : Int) ≤ (x.toNat : Int)) = true := decide_eq_true (by omega)) | (have d3 : decide ((65 : Int) ≤ (x.toNat : Int)) = false := decide_eq_false (by omega))
            first | (have d4 : decide ((x.toNat : Int) ≤ 90) = true := decide_eq_true (by omega)) | (have d4 : decide ((x.toNat : Int) ≤ 90) = false := decide_eq_false (by omega))
            first | (have d5 : ((x.toNat : Int) == 95) = true := by simp; omega) | (have d5 : ((x.toNat : Int) == 95) = false := by simp; omega)
            first | (have d6 : decide ((x.toNat : Int) < 48) = true := decide_eq_true (by omega)) | (have d6 : decide ((x.toNat : Int) < 48) = false := decide_eq_false (by omega))
            first | (have d7 : decide ((48 : Int) ≤ (x.toNat : Int)) = true := decide_eq_true (by omega)) | (have d7 : decide ((48 : Int) ≤ (x.toNat : Int)) = false := decide_eq_false (by omega))
            first | (have d8 : decide ((57 : Int) < (x.toNat : Int)) = true := decide_eq_true (by omega)) | (have d8 : decide ((57 : Int) < (x.toNat : Int)) = false := decide_eq_false (by omega))
            first | (have d9 : decide ((x.toNat : Int) ≤ 57) = true := decide_eq_true (by omega)) | (have d9 : decide ((x.toNat : Int) ≤ 57) = false := decide_eq_false (by omega))
            go_wp2
            go_roundw
            case rel => exact ⟨_, Nat.succ_le_of_lt hlt, by go_num, HN.out, by trivial⟩
            case measure => simp [intOf]; omega
          · have hc : nmC i x = true := by simp [nmC]; omega
            have HN := hide (nmA_up hno hlt (by rw [hx]; exact hc))
            clear hc hno
            first | (have d1 : decide ((97 : Int) ≤ (x.toNat : Int)) = true := decide_eq_true (by omega)) | (have d1 : decide ((97 : Int) ≤ (x.toNat : Int)) = false := decide_eq_false (by omega))
            first | (have d2 : decide ((x.toNat : Int) ≤ 122) = true := decide_eq_true (by omega)) | (have d2 : decide ((x.toNat : Int) ≤ 122) = false := decide_eq_false (by omega))
            first | (have d3 : decide ((65 : Int) ≤ (x.toNat : Int)) = true := decide_eq_true (by omega)) | (have d3 : decide ((65 : Int) ≤ (x.toNat : Int)) = false := decide_eq_false (by omega))
            first | (have d4 : decide ((x.toNat : Int) ≤ 90) = true := decide_eq_true (by omega)) | (have d4 : decide ((x.toNat : Int) ≤ 90) = false := decide_eq_false (by omega))
            first | (have d5 : ((x.toNat : Int) == 95) = true := by simp; omega) | (have d5 : ((x.toNat : Int) == 95) = false := by simp; omega)
            first | (have d6 : decide ((x.toNat : Int) < 48) = true := decide_eq_true (by omega)) | (have d6 : decide ((x.toNat : Int) < 48) = false := decide_eq_false (by omega))
            first | (have d7 : decide ((48 : Int) ≤ (x.toNat : Int)) = true := decide_eq_true (by omega)) | (have d7 : decide ((48 : Int) ≤ (x.toNat : Int)) = false := decide_eq_false (by omega))
            first | (have d8 : decide ((57 : Int) < (x.toNat : Int)) = true := decide_eq_true (by omega)) | (have d8 : decide ((57 : Int) < (x.toNat : Int)) = false := decide_eq_false (by omega))
            first | (have d9 : decide ((x.toNat : Int) ≤ 57) = true := decide_eq_true (by omega)) | (have d9 : decide ((x.toNat : Int) ≤ 57) = false := decide_eq_false (by omega))
            go_wp2
            go_roundw
            case rel => exact ⟨_, Nat.succ_le_of_lt hlt, by go_num, HN.out, by trivial⟩
            case measure => simp [intOf]; omega
          · have hc : nmC i x = true := by simp [nmC]; omega
            have HN := hide (nmA_up hno hlt (by rw [hx]; exact hc))
            clear hc hno
            first | (have d1 : decide ((97 : Int) ≤ (x.toNat : Int)) = true := decide_eq_true (by omega)) | (have d1 : decide ((97 : Int) ≤ (x.toNat : Int)) = false := decide_eq_false (by omega))
            first | (have d2 : decide ((x.toNat : Int) ≤ 122) = true := decide_eq_true (by omega)) | (have d2 : decide ((x.toNat : Int) ≤ 122) = false := decide_eq_false (by omega))
            first | (have d3 : decide ((65 : Int) ≤ (x.toNat : Int)) = true := decide_eq_true (by omega)) | (have d3 : decide ((65 : Int) ≤ (x.toNat : Int)) = false := decide_eq_false (by omega))
            first | (have d4 : decide ((x.toNat : Int) ≤ 90) = true := decide_eq_true (by omega)) | (have d4 : decide ((x.toNat : Int) ≤ 90) = false := decide_eq_false (by omega))
            first | (have d5 : ((x.toNat : Int) == 95) = true := by simp; omega) | (have d5 : ((x.toNat : Int) == 95) = false := by simp; omega)
            first | (have d6 : decide ((x.toNat : Int) < 48) = true := decide_eq_true (by omega)) | (have d6 : decide ((x.toNat : Int) < 48) = false := decide_eq_false (by omega))
            first | (have d7 : decide ((48 : Int) ≤ (x.toNat : Int)) = true := decide_eq_true (by omega)) | (have d7 : decide ((48 : Int) ≤ (x.toNat : Int)) = false := decide_eq_false (by omega))
            first | (have d8 : decide ((57 : Int) < (x.toNat : Int)) = true := decide_eq_true (by omega)) | (have d8 : decide ((57 : Int) < (x.toNat : Int)) = false := decide_eq_false (by omega))
            first | (have d9 : decide ((x.toNat : Int) ≤ 57) = true := decide_eq_true (by omega)) | (have d9 : decide ((x.toNat : Int) ≤ 57) = false := decide_eq_false (by omega))
            go_wp2
            go_roundw
            case rel => exact ⟨_, Nat.succ_le_of_lt hlt, by go_num, HN.out, by trivial⟩
            case measure => simp [intOf]; omega
      · obtain rfl : i = s.size := by omega
        have HN := hide (show nmA s = true from hno)
        go_wp2
        go_ret
        exact ⟨by rw [HN.out]; rfl, by trivial⟩
  · have h32i : ¬ ((s.size : Int) ≤ 32) := by omega
    have hF := hide (show nmB s = false by simp [nmB, h32])
    go_enter Tryd.func30, Tryd.ntmps30
    go_wp2
    go_ret
    exact ⟨by rw [hF.out]; rfl, rfl⟩
set_option maxRecDepth 100000 in
set_option maxHeartbeats 16000000 in
theorem pvalue_any (s : ByteArray) (hs : s.size ≤ maxLen) (w : World) :
    Calls Tryd.prog 31 #[.string s] w fun e w' => e = .returned (.bool (vlB s)) ∧ w' = w := by
  unfold maxLen at hs
  rcases Nat.eq_zero_or_pos s.size with h0 | h0
  · have he := str_empty h0
    have he' : s.toList.isEmpty = true := by rw [he]; rfl
    have hF := hide (show vlB s = false by simp [vlB, h0])
    go_enter Tryd.func31, Tryd.ntmps31
    go_wp2
    go_ret
    exact ⟨by rw [hF.out]; rfl, rfl⟩
  obtain ⟨he, he'⟩ := str_some h0
  by_cases h64 : s.size ≤ 64
  · have h64i : (s.size : Int) ≤ 64 := by omega
    have ht : vlB s = vlA s := by simp [vlB, h64, show 1 ≤ s.size from h0]
    rw [ht]
    go_enter Tryd.func31, Tryd.ntmps31
    go_wp2
    go_loopw [13] (fun s15 wr => ∃ i : Nat, i ≤ s.size ∧ s15 = .int .i64 (i : Int) ∧ vlT s i = true ∧ wr = w) (fun s15 _ => ((s.size : Int) - intOf s15).toNat)
    case atStart => exact ⟨0, by omega, rfl, rfl, rfl⟩
    case round =>
      obtain ⟨i, hi, rfl, hno, rfl⟩ := hrel
      by_cases hlt : i < s.size
      · obtain ⟨x, hx⟩ : ∃ x : UInt8, s[i] = x := ⟨_, rfl⟩
        have hii : (i : Int) < s.size := by omega
        rcases Nat.lt_or_ge x.toNat 32 with h1 | h1
        · have hF := hide (vlA_no hlt (by rw [hx]; simp [vlC]; omega))
          clear hno
          first | (have d1 : decide ((x.toNat : Int) < 32) = true := decide_eq_true (by omega)) | (have d1 : decide ((x.toNat : Int) < 32) = false := decide_eq_false (by omega))
          first | (have d2 : decide ((126 : Int) < (x.toNat : Int)) = true := decide_eq_true (by omega)) | (have d2 : decide ((126 : Int) < (x.toNat : Int)) = false := decide_eq_false (by omega))
          go_wp2
          go_ret
          exact ⟨by simp [vlB, hF.out], by trivial⟩
        rcases Nat.lt_or_ge 126 x.toNat with h2 | h2
        · have hF := hide (vlA_no hlt (by rw [hx]; simp [vlC]; omega))
          clear hno
          first | (have d1 : decide ((x.toNat : Int) < 32) = true := decide_eq_true (by omega)) | (have d1 : decide ((x.toNat : Int) < 32) = false := decide_eq_false (by omega))
          first | (have d2 : decide ((126 : Int) < (x.toNat : Int)) = true := decide_eq_true (by omega)) | (have d2 : decide ((126 : Int) < (x.toNat : Int)) = false := decide_eq_false (by omega))
          go_wp2
          go_ret
          exact ⟨by simp [vlB, hF.out], by trivial⟩
        · have HN := hide (vlA_up hno hlt (by rw [hx]; simp [vlC]; omega))
          clear hno
          first | (have d1 : decide ((x.toNat : Int) < 32) = true := decide_eq_true (by omega)) | (have d1 : decide ((x.toNat : Int) < 32) = false := decide_eq_false (by omega))
          first | (have d2 : decide ((126 : Int) < (x.toNat : Int)) = true := decide_eq_true (by omega)) | (have d2 : decide ((126 : Int) < (x.toNat : Int)) = false := decide_eq_false (by omega))
          go_wp2
          go_roundw
          case rel => exact ⟨_, Nat.succ_le_of_lt hlt, by go_num, HN.out, by trivial⟩
          case measure => simp [intOf]; omega
      · obtain rfl : i = s.size := by omega
        have HN := hide (show vlA s = true from hno)
        go_wp2
        go_ret
        exact ⟨by rw [HN.out]; rfl, by trivial⟩
  · have h64i : ¬ ((s.size : Int) ≤ 64) := by omega
    have hF := hide (show vlB s = false by simp [vlB, h64])
    go_enter Tryd.func31, Tryd.ntmps31
    go_wp2
    go_ret
    exact ⟨by rw [hF.out]; rfl, rfl⟩
end Go.Proofs.YtamnononemallaaDoor

/-! A strings.Builder: its check of copies, and a byte written. -/
namespace Go.Proofs.YtamnononemallaaDoor
open Go.RowKit
theorem bsize : (Tryd.prog.info? 64).map (·.size) = some 2 := by kernel_rfl
theorem blies : liesAt Tryd.prog Tryd.prog.depth 64 (2 / Tryd.prog.cellsOf 64) 0 64 1 = true := by kernel_rfl
theorem infoB8 : (Tryd.prog.info? 5).map (fun i => (i.zero, i.size, i.bytes)) = some (some (.int .u8 0), 1, 1) := by kernel_rfl
set_option maxHeartbeats 1000000 in
set_option maxRecDepth 100000 in
theorem bcheck_used (b : Nat) (w : World) (h0 : w.cell? ⟨b, 0, none⟩ = some (.pointer (some ⟨b, 0, none⟩))) :
    Calls Tryd.prog 39 #[.pointer (some ⟨b, 0, none⟩)] w fun e w' => e = .returned (.tuple #[]) ∧ w' = w := by
  obtain ⟨j, hj, hjs⟩ := Option.map_eq_some_iff.1 bsize
  go_enter Tryd.func39, Tryd.ntmps39
  go_wp2
  rw [Lib.run_neq_ptr_same w _ Tryd.underlying61 hj]
  go_wp2
  go_end0
  exact ⟨rfl, rfl⟩
set_option maxHeartbeats 1000000 in
set_option maxRecDepth 100000 in
theorem bcheck_new (b : Nat) (w : World) (h0 : w.cell? ⟨b, 0, none⟩ = some (.pointer none)) (hsh : w.shape? b = some (64, 2)) (hfz : w.frozen? ⟨b, 0, none⟩ = false) :
    Calls Tryd.prog 39 #[.pointer (some ⟨b, 0, none⟩)] w fun e w' => e = .returned (.tuple #[]) ∧ w' = w.setCell ⟨b, 0, none⟩ (.pointer (some ⟨b, 0, none⟩)) := by
  obtain ⟨j, hj, hjs⟩ := Option.map_eq_some_iff.1 bsize
  have e1 := Lib.run_to_unsafe (P := Tryd.prog) w ⟨b, 0, none⟩ Tryd.underlying61 Tryd.underlying93 hj (by rw [hjs]; decide) hsh (show (0 : Nat) < 2 by omega)
  have e2 := Lib.run_from_unsafe (P := Tryd.prog) w ⟨b, 0, none⟩ Tryd.underlying93 Tryd.underlying61 hj hsh blies
  go_enter Tryd.func39, Tryd.ntmps39
  go_wp2
  rw [run_callFunc_extern Tryd.func52 (by kernel_rfl) (by kernel_rfl) (by kernel_rfl) (e := Extern.AbiNoEscape.same) (by kernel_rfl), Lib.run_noEscape]
  simp only [Result.andThen]
  rw [Oper.upon_value]
  go_wp2
  go_end0
  exact ⟨rfl, rfl⟩
abbrev Bld (B b : Nat) (l : List UInt8) (w : World) : Prop := Lib.IsBuilder 64 5 B b (Lib.byteCells l) w
abbrev BldU (B b : Nat) (l : List UInt8) (w : World) : Prop := Lib.BuilderAt 64 5 B b (.pointer (some ⟨b, 0, none⟩)) (Lib.byteCells l) w
theorem bcheck_any (B b : Nat) (l : List UInt8) (w : World) (h : Bld B b l w) :
    Calls Tryd.prog 39 #[.pointer (some ⟨b, 0, none⟩)] w fun e w' => e = .returned (.tuple #[]) ∧ BldU B b l w' ∧ Below B w w' := by
  rcases h with h | h
  · refine (bcheck_new b w h.cell0 h.shape h.frozen0).mono ?_
    rintro e w' ⟨rfl, rfl⟩
    exact ⟨rfl, h.used _, (Below.refl B w).setCell (p := ⟨b, 0, none⟩) h.1 _⟩
  · refine (bcheck_used b w h.cell0).mono ?_
    rintro e w' ⟨rfl, rfl⟩
    exact ⟨rfl, h, Below.refl B _⟩
set_option maxHeartbeats 2000000 in
set_option maxRecDepth 100000 in
theorem bbyte_any (B b : Nat) (l : List UInt8) (c : UInt8) (w : World) (h : Bld B b l w) (hlen : l.length + 1 ≤ 140737488355328) (hBw : B ≤ w.heap.size) :
    Calls Tryd.prog 24 #[.pointer (some ⟨b, 0, none⟩), .int .u8 c.toNat] w fun e w' => e = .returned .nilIface ∧ Bld B b (l ++ [c]) w' ∧ Below B w w' := by
  obtain ⟨i0, hi, hz0, hz1, hz2⟩ := info_parts infoB8
  go_enter Tryd.func24, Tryd.ntmps24
  go_wp2_with (go_at_call 39; (with_reducible refine (bcheck_any B b l _ h).mono ?_))
  rintro e w1 ⟨rfl, ⟨hB, v, hbk, hown, hne⟩, hb1⟩
  have hs1 := hb1.size
  have q0 : w1.cell? ⟨b, 0, none⟩ = some (.pointer (some ⟨b, 0, none⟩)) := by rw [Lib.cell_of_heap hbk]; rfl
  have q1 : w1.cell? ⟨b, 1, none⟩ = some v := by rw [Lib.cell_of_heap hbk]; rfl
  have hlt : b < w1.heap.size := by
    rcases Nat.lt_or_ge b w1.heap.size with h' | h'
    · exact h'
    · simp [Array.getElem?_eq_none h'] at hbk
  go_wp2_with (at_builtin; refine wpList_append_own _ rfl _ _ 62 rfl B 5 i0 (.int .u8 0) 1 1 Tryd.underlying62 hi hz0 hz1 hz2 rfl (by decide) _ _ _ rfl (hown.alloc _) ⟨w1.heap.size, 0, none⟩ 1 1 [.int .u8 c.toNat] rfl rfl ?c1 ?c2 ?c3 ?c4 ?c5 ?_)
  case c1 =>
    intro j u hj
    match j, hj with
    | 0, hj => simp at hj; subst hj; simp [Addr.add]
  case c2 => intro u hu; simp at hu; subst hu; rfl
  case c3 => rw [Lib.byteCells_length]; unfold maxLen; omega
  case c4 => rw [Lib.byteCells_length]; omega
  case c5 => simp; omega
  intro v' w2 hown' hgrow _
  have hb2 : w2.heap[b]? = some (.cells #[.pointer (some ⟨b, 0, none⟩), v] 64 (0, 0)) := by
    rw [hgrow.block b (by simp; omega) (fun e => hne e.symm), Lib.alloc_old w1 _ b hlt]
    exact hbk
  have d0 : w2.cell? ⟨b, 0, none⟩ = some (.pointer (some ⟨b, 0, none⟩)) := by rw [Lib.cell_of_heap hb2]; rfl
  have d1 : w2.cell? ⟨b, 1, none⟩ = some v := by rw [Lib.cell_of_heap hb2]; rfl
  have f1 : w2.frozen? ⟨b, 1, none⟩ = false := Lib.frozen_of_heap hb2 1
  obtain ⟨A, m, cap, rfl⟩ : ∃ A m cap, v' = .slice A m cap := by
    rcases hown'.2 with ⟨e, _⟩ | ⟨g, cap, cur, hv, _⟩
    · exact ⟨_, _, _, e⟩
    · exact ⟨_, _, cap, hv⟩
  go_wp2
  go_ret
  have ec : Lib.byteCells l ++ [Value.int .u8 c.toNat] = Lib.byteCells (l ++ [c]) := by simp [Lib.byteCells]
  rw [ec] at hown'
  refine ⟨rfl, Or.inr ?_, ?_⟩
  · exact Lib.BuilderAt.put (T := 64) (e := 5) hB hb2 (bs' := Lib.byteCells (l ++ [c])) (by simpa [Lib.byteCells_length] using hown') (by decide)
  · exact ((hb1.alloc (by omega) _).grown hgrow (by simp; omega) (fun k hk => (hown.lt k hk).1)).setCell (p := ⟨b, 1, none⟩) hB _
/-- A builder that the call has made. -/
theorem bld_new (w : World) : Bld w.heap.size w.heap.size [] (w.alloc (.cells #[.pointer none, .slice none 0 0] 64)) := Lib.fresh_isBuilder _ _ w
theorem bstr_any (B b : Nat) (l : List UInt8) (w : World) (h : Bld B b l w) (hBw : B ≤ w.heap.size) :
    Calls Tryd.prog 27 #[.pointer (some ⟨b, 0, none⟩)] w fun e w' => e = .returned (.string ⟨l.toArray⟩) ∧ Below B w w' := Tryd.Builder_String_any B b l w h hBw
end Go.Proofs.YtamnononemallaaDoor

/-! A value as it is written. -/
namespace Go.Proofs.YtamnononemallaaDoor
open Go.RowKit
def esc (x : UInt8) : List UInt8 := if x = 34 ∨ x = 92 then [92, x] else [x]
def qB (l : List UInt8) : List UInt8 := l.flatMap esc
def qL (l : List UInt8) : List UInt8 := 34 :: (qB l ++ [34])
theorem qB_len (l : List UInt8) : (qB l).length ≤ 2 * l.length := by
  induction l with
  | nil => simp [qB]
  | cons x l ih =>
    simp only [qB, List.flatMap_cons, List.length_append, List.length_cons] at *
    have : (esc x).length ≤ 2 := by unfold esc; split <;> simp
    omega
theorem qB_len1 (l : List UInt8) : l.length ≤ (qB l).length := by
  induction l with
  | nil => simp [qB]
  | cons x l ih =>
    simp only [qB, List.flatMap_cons, List.length_append, List.length_cons] at *
    have : 1 ≤ (esc x).length := by unfold esc; split <;> simp
    omega
theorem qB_take {s : ByteArray} {i : Nat} (h : i < s.size) : qB (s.data.toList.take (i + 1)) = qB (s.data.toList.take i) ++ esc s[i] := by
  have h' : i < s.data.toList.length := by rw [Array.length_toList]; exact h
  rw [List.take_add_one, List.getElem?_eq_getElem h', Option.toList_some]
  simp only [qB, List.flatMap_append, List.flatMap_cons, List.flatMap_nil, List.append_nil]
  rfl
theorem take_all (s : ByteArray) : s.data.toList.take s.size = s.data.toList := List.take_of_length_le (by rw [Array.length_toList]; exact Nat.le_refl _)
theorem qB_take_len (s : ByteArray) (i : Nat) : (qB (s.data.toList.take i)).length ≤ 2 * i := by
  have := qB_len (s.data.toList.take i)
  have h2 := List.length_take_le i s.data.toList
  omega
theorem bbyte_k (B b : Nat) (l : List UInt8) (c : UInt8) (k : Int) (hk : (c.toNat : Int) = k) (w : World) (h : Bld B b l w) (hlen : l.length + 1 ≤ 140737488355328) (hBw : B ≤ w.heap.size) :
    Calls Tryd.prog 24 #[.pointer (some ⟨b, 0, none⟩), .int .u8 k] w fun e w' => e = .returned .nilIface ∧ Bld B b (l ++ [c]) w' ∧ Below B w w' := by
  subst hk
  exact bbyte_any B b l c w h hlen hBw
theorem u8_34 {x : UInt8} : x.toNat = 34 ↔ x = 34 := ⟨fun h => UInt8.toNat_inj.1 h, fun h => by rw [h]; rfl⟩
theorem u8_92 {x : UInt8} : x.toNat = 92 ↔ x = 92 := ⟨fun h => UInt8.toNat_inj.1 h, fun h => by rw [h]; rfl⟩
set_option maxRecDepth 100000 in
set_option maxHeartbeats 4000000 in
theorem pquote_any (s : ByteArray) (hs : 2 * s.size + 2 ≤ 140737488355328) (w : World) :
    Calls Tryd.prog 26 #[.string s] w fun e w' => e = .returned (.string ⟨(qL s.data.toList).toArray⟩) ∧ Below w.heap.size w w' := by
  have h0 := bld_new w
  have hb0 : Below w.heap.size w (w.alloc (.cells #[.pointer none, .slice none 0 0] 64)) := Below.alloc (Below.refl _ _) (Nat.le_refl _) _
  go_enter Tryd.func26, Tryd.ntmps26
  go_wp2_with (go_at_call 24; (with_reducible refine (bbyte_k _ _ [] 34 34 rfl _ h0 (by simp) (by simp)).mono ?_); rintro e w1 ⟨rfl, hB, hb1⟩)
  have hb := hb0.trans hb1
  generalize hq : w.heap.size = q at *
  clear hb0 hb1 h0
  go_loopw [8] (fun s8 wr => ∃ i : Nat, i ≤ s.size ∧ s8 = .int .i64 (i : Int) ∧ Bld q q (34 :: qB (s.data.toList.take i)) wr ∧ Below q w wr) (fun s8 _ => ((s.size : Int) - intOf s8).toNat)
  case atStart => exact ⟨0, by omega, rfl, hB, hb⟩
  case round =>
    clear hB hb
    obtain ⟨i, hi, rfl, hB, hb⟩ := hrel
    have hlen := qB_take_len s i
    have hqw : q ≤ wr.heap.size := by rw [← hq]; exact hb.size
    by_cases hlt : i < s.size
    · have ht := qB_take hlt
      obtain ⟨x, hx⟩ : ∃ x : UInt8, s[i] = x := ⟨_, rfl⟩
      have hii : (i : Int) < s.size := by omega
      rw [hx] at ht
      have ht := hide ht
      by_cases h1 : x.toNat = 34
      · have d1 : ((x.toNat : Int) == 34) = true := by simp; omega
        go_wp2_with (first
          | (go_at_call 24; (with_reducible refine (bbyte_k _ _ _ 92 92 rfl _ hB (by simp; omega) hqw).mono ?_); rintro e v1 ⟨rfl, hB1, hv1⟩)
          | (go_at_call 24; (with_reducible refine (bbyte_k _ _ _ x _ (by omega) _ hB1 (by simp; omega) (Nat.le_trans hqw hv1.size)).mono ?_); rintro e v2 ⟨rfl, hB2, hv2⟩))
        go_roundw
        case rel =>
          refine ⟨i + 1, by omega, by go_num, ?_, (hb.trans hv1).trans hv2⟩
          rw [ht.out, esc, if_pos (Or.inl (u8_34.1 h1))]
          simpa using hB2
        case measure => simp [intOf]; omega
      by_cases h2 : x.toNat = 92
      · have d1 : ((x.toNat : Int) == 34) = false := by simp; omega
        have d2 : ((x.toNat : Int) == 92) = true := by simp; omega
        go_wp2_with (first
          | (go_at_call 24; (with_reducible refine (bbyte_k _ _ _ 92 92 rfl _ hB (by simp; omega) hqw).mono ?_); rintro e v1 ⟨rfl, hB1, hv1⟩)
          | (go_at_call 24; (with_reducible refine (bbyte_k _ _ _ x _ (by omega) _ hB1 (by simp; omega) (Nat.le_trans hqw hv1.size)).mono ?_); rintro e v2 ⟨rfl, hB2, hv2⟩))
        go_roundw
        case rel =>
          refine ⟨i + 1, by omega, by go_num, ?_, (hb.trans hv1).trans hv2⟩
          rw [ht.out, esc, if_pos (Or.inr (u8_92.1 h2))]
          simpa using hB2
        case measure => simp [intOf]; omega
      · have d1 : ((x.toNat : Int) == 34) = false := by simp; omega
        have d2 : ((x.toNat : Int) == 92) = false := by simp; omega
        go_wp2_with (go_at_call 24; (with_reducible refine (bbyte_any _ _ _ _ _ hB (by simp; omega) hqw).mono ?_); rintro e v1 ⟨rfl, hB1, hv1⟩)
        go_roundw
        case rel =>
          refine ⟨i + 1, by omega, by go_num, ?_, hb.trans hv1⟩
          rw [ht.out, esc, if_neg (fun h => h.elim (fun h => h1 (u8_34.2 h)) (fun h => h2 (u8_92.2 h)))]
          simpa using hB1
        case measure => simp [intOf]; omega
    · obtain rfl : i = s.size := by omega
      rw [take_all] at hB hlen
      go_wp2_with (first
        | (go_at_call 24; (with_reducible refine (bbyte_k _ _ _ 34 34 rfl _ hB (by simp; omega) hqw).mono ?_); rintro e v1 ⟨rfl, hB1, hv1⟩)
        | (go_at_call 27; (with_reducible refine (bstr_any _ _ _ _ hB1 (Nat.le_trans hqw hv1.size)).mono ?_); rintro e v2 ⟨rfl, hv2⟩))
      go_ret
      exact ⟨rfl, by rw [hq]; exact (hb.trans hv1).trans hv2⟩
end Go.Proofs.YtamnononemallaaDoor

/-! A builder that is written: what other memory stays. -/
namespace Go.Proofs.YtamnononemallaaDoor
open Go.RowKit
/-- Every old block but b and rows of bytes stays. -/
def KeepT (b : Nat) (w w' : World) : Prop := ∀ k, k < w.heap.size → k ≠ b → (∀ cs fr, w.heap[k]? ≠ some (.cells cs 5 fr)) → w'.heap[k]? = w.heap[k]?
theorem KeepT.blk {b g : Nat} {w w' : World} {t : TypeId} {cs : Array Value} (h : KeepT b w w') (hB : Blk w g t cs) (hg : g ≠ b) (ht : t ≠ 5) : Blk w' g t cs :=
  (h g hB.lt hg (fun cs' fr e => by
    unfold Blk at hB
    rw [hB] at e
    cases e
    exact ht rfl)).trans hB
theorem bcheckT (B b : Nat) (l : List UInt8) (w : World) (h : Bld B b l w) :
    Calls Tryd.prog 39 #[.pointer (some ⟨b, 0, none⟩)] w fun e w' => e = .returned (.tuple #[]) ∧ BldU B b l w' ∧ Below B w w' ∧ ∀ k, k ≠ b → w'.heap[k]? = w.heap[k]? := by
  rcases h with h | h
  · refine (bcheck_new b w h.cell0 h.shape h.frozen0).mono ?_
    rintro e w' ⟨rfl, rfl⟩
    exact ⟨rfl, h.used _, (Below.refl B w).setCell (p := ⟨b, 0, none⟩) h.1 _, fun k hk => Below.heap_setCell _ _ _ _ hk⟩
  · refine (bcheck_used b w h.cell0).mono ?_
    rintro e w' ⟨rfl, rfl⟩
    exact ⟨rfl, h, Below.refl B _, fun k _ => rfl⟩
set_option maxHeartbeats 2000000 in
set_option maxRecDepth 100000 in
theorem bbyteT (B b : Nat) (l : List UInt8) (c : UInt8) (x : Int) (hx : (c.toNat : Int) = x) (w : World) (h : Bld B b l w) (hlen : l.length + 1 ≤ 140737488355328) (hBw : B ≤ w.heap.size) :
    Calls Tryd.prog 24 #[.pointer (some ⟨b, 0, none⟩), .int .u8 x] w fun e w' => e = .returned .nilIface ∧ Bld B b (l ++ [c]) w' ∧ Below B w w' ∧ KeepT b w w' := by
  subst hx
  obtain ⟨i0, hi, hz0, hz1, hz2⟩ := info_parts infoB8
  go_enter Tryd.func24, Tryd.ntmps24
  go_wp2_with (go_at_call 39; (with_reducible refine (bcheckT B b l _ h).mono ?_))
  rintro e w1 ⟨rfl, ⟨hB, v, hbk, hown, hne⟩, hb1, hk1⟩
  have hs1 := hb1.size
  have q0 : w1.cell? ⟨b, 0, none⟩ = some (.pointer (some ⟨b, 0, none⟩)) := by rw [Lib.cell_of_heap hbk]; rfl
  have q1 : w1.cell? ⟨b, 1, none⟩ = some v := by rw [Lib.cell_of_heap hbk]; rfl
  have hlt : b < w1.heap.size := by
    rcases Nat.lt_or_ge b w1.heap.size with h' | h'
    · exact h'
    · simp [Array.getElem?_eq_none h'] at hbk
  go_wp2_with (at_builtin; refine wpList_append_own _ rfl _ _ 62 rfl B 5 i0 (.int .u8 0) 1 1 Tryd.underlying62 hi hz0 hz1 hz2 rfl (by decide) _ _ _ rfl (hown.alloc _) ⟨w1.heap.size, 0, none⟩ 1 1 [.int .u8 c.toNat] rfl rfl ?c1 ?c2 ?c3 ?c4 ?c5 ?_)
  case c1 =>
    intro j u hj
    match j, hj with
    | 0, hj => simp at hj; subst hj; simp [Addr.add]
  case c2 => intro u hu; simp at hu; subst hu; rfl
  case c3 => rw [Lib.byteCells_length]; unfold maxLen; omega
  case c4 => rw [Lib.byteCells_length]; omega
  case c5 => simp; omega
  intro v' w2 hown' hgrow _
  have hb2 : w2.heap[b]? = some (.cells #[.pointer (some ⟨b, 0, none⟩), v] 64 (0, 0)) := by
    rw [hgrow.block b (by simp; omega) (fun e => hne e.symm), Lib.alloc_old w1 _ b hlt]
    exact hbk
  have d0 : w2.cell? ⟨b, 0, none⟩ = some (.pointer (some ⟨b, 0, none⟩)) := by rw [Lib.cell_of_heap hb2]; rfl
  have d1 : w2.cell? ⟨b, 1, none⟩ = some v := by rw [Lib.cell_of_heap hb2]; rfl
  have f1 : w2.frozen? ⟨b, 1, none⟩ = false := Lib.frozen_of_heap hb2 1
  obtain ⟨A, m, cap, rfl⟩ : ∃ A m cap, v' = .slice A m cap := by
    rcases hown'.2 with ⟨e, _⟩ | ⟨g, cap, cur, hv, _⟩
    · exact ⟨_, _, _, e⟩
    · exact ⟨_, _, cap, hv⟩
  go_wp2
  go_ret
  have ec : Lib.byteCells l ++ [Value.int .u8 c.toNat] = Lib.byteCells (l ++ [c]) := by simp [Lib.byteCells]
  rw [ec] at hown'
  refine ⟨rfl, Or.inr ?_, ?_, ?_⟩
  · exact Lib.BuilderAt.put (T := 64) (e := 5) hB hb2 (bs' := Lib.byteCells (l ++ [c])) (by simpa [Lib.byteCells_length] using hown') (by decide)
  · exact ((hb1.alloc (by omega) _).grown hgrow (by simp; omega) (fun k hk => (hown.lt k hk).1)).setCell (p := ⟨b, 1, none⟩) hB _
  · intro k hk hkb hkt
    rw [Below.heap_setCell _ _ _ _ hkb, hgrow.block k (by have := hs1; simp; omega) ?_, Below.heap_alloc _ _ _ (by omega), hk1 k hkb]
    intro e
    rcases hown.2 with ⟨rfl, _⟩ | ⟨g, cap', cur, rfl, _, hg, _⟩
    · cases e
    · cases e
      rw [hk1 _ hkb] at hg
      exact hkt _ _ hg
set_option maxHeartbeats 2000000 in
set_option maxRecDepth 100000 in
theorem bwsT (B b : Nat) (l : List UInt8) (s : ByteArray) (w : World) (h : Bld B b l w) (hlen : l.length + s.size ≤ 140737488355328) (hBw : B ≤ w.heap.size) :
    Calls Tryd.prog 25 #[.pointer (some ⟨b, 0, none⟩), .string s] w fun e w' => e = .returned (.tuple #[.int .i64 s.size, .nilIface]) ∧ Bld B b (l ++ s.data.toList) w' ∧ Below B w w' ∧ KeepT b w w' := by
  obtain ⟨i0, hi, hz0, hz1, hz2⟩ := info_parts infoB8
  go_enter Tryd.func25, Tryd.ntmps25
  go_wp2_with (go_at_call 39; (with_reducible refine (bcheckT B b l _ h).mono ?_))
  rintro e w1 ⟨rfl, ⟨hB, v, hbk, hown, hne⟩, hb1, hk1⟩
  have hs1 := hb1.size
  have q0 : w1.cell? ⟨b, 0, none⟩ = some (.pointer (some ⟨b, 0, none⟩)) := by rw [Lib.cell_of_heap hbk]; rfl
  have q1 : w1.cell? ⟨b, 1, none⟩ = some v := by rw [Lib.cell_of_heap hbk]; rfl
  have hlt : b < w1.heap.size := by
    rcases Nat.lt_or_ge b w1.heap.size with h' | h'
    · exact h'
    · simp [Array.getElem?_eq_none h'] at hbk
  go_wp2_with (at_builtin; refine Lib.wpList_append_own_string _ rfl _ _ 62 9 rfl B 5 i0 Tryd.underlying62 Tryd.underlying9 hi hz0 hz1 hz2 _ _ _ rfl hown s rfl ?c3 ?c4 ?c5 ?_)
  case c3 => rw [Lib.byteCells_length]; unfold maxLen; omega
  case c4 => rw [Lib.byteCells_length]; omega
  case c5 => omega
  intro v' w2 hown' hgrow _
  have hb2 : w2.heap[b]? = some (.cells #[.pointer (some ⟨b, 0, none⟩), v] 64 (0, 0)) := by
    rw [hgrow.block b hlt (fun e => hne e.symm)]
    exact hbk
  have d0 : w2.cell? ⟨b, 0, none⟩ = some (.pointer (some ⟨b, 0, none⟩)) := by rw [Lib.cell_of_heap hb2]; rfl
  have d1 : w2.cell? ⟨b, 1, none⟩ = some v := by rw [Lib.cell_of_heap hb2]; rfl
  have f1 : w2.frozen? ⟨b, 1, none⟩ = false := Lib.frozen_of_heap hb2 1
  obtain ⟨A, m, cap, rfl⟩ : ∃ A m cap, v' = .slice A m cap := by
    rcases hown'.2 with ⟨e, _⟩ | ⟨g, cap, cur, hv, _⟩
    · exact ⟨_, _, _, e⟩
    · exact ⟨_, _, cap, hv⟩
  go_wp2
  refine bodyPost_ret (v := .tuple #[.int .i64 s.size, .nilIface]) (by simp [results, Tryd.results25, go_sem] <;> rfl) rfl ?_
  have ec : Lib.byteCells l ++ Lib.strCells s = Lib.byteCells (l ++ s.data.toList) := by simp [Lib.byteCells, Lib.strCells]
  rw [ec] at hown'
  refine ⟨rfl, Or.inr ?_, ?_, ?_⟩
  · exact Lib.BuilderAt.put (T := 64) (e := 5) hB hb2 (bs' := Lib.byteCells (l ++ s.data.toList)) (by rw [Lib.byteCells_length, List.length_append, ← Lib.size_eq]; rw [Lib.byteCells_length] at hown'; exact hown') (by decide)
  · exact (hb1.grown hgrow (by omega) (fun k hk => (hown.lt k hk).1)).setCell (p := ⟨b, 1, none⟩) hB _
  · intro k hk hkb hkt
    rw [Below.heap_setCell _ _ _ _ hkb, hgrow.block k (by have := hs1; omega) ?_, hk1 k hkb]
    intro e
    rcases hown.2 with ⟨rfl, _⟩ | ⟨g, cap', cur, rfl, _, hg, _⟩
    · cases e
    · cases e
      rw [hk1 _ hkb] at hg
      exact hkt _ _ hg
/-- A builder stays where other memory is made. -/
theorem bld_below {B b : Nat} {l : List UInt8} {w w' : World} (h : Bld B b l w) (hb : Below w.heap.size w w') : Bld B b l w' := by
  have key : ∀ p, Lib.BuilderAt 64 5 B b p (Lib.byteCells l) w → Lib.BuilderAt 64 5 B b p (Lib.byteCells l) w' := by
    rintro p ⟨hB, v, hv, hown, hne⟩
    refine ⟨hB, v, (hb.block b (blk_lt hv)).trans hv, ⟨hown.1, ?_⟩, hne⟩
    rcases hown.2 with h' | ⟨g, cap, cur, e, hbg, hg, r⟩
    · exact .inl h'
    · exact .inr ⟨g, cap, cur, e, hbg, (hb.block g (blk_lt hg)).trans hg, r⟩
  exact h.imp (key _) (key _)
end Go.Proofs.YtamnononemallaaDoor

/-! The document's: a value as it is written. -/
namespace Go.Proofs.YtamnononemallaaDoor
open Go.RowKit
theorem infoU8 : (Tryd.prog.info? 5).map (fun i => (i.zero, i.size, i.bytes)) = some (some (.int .u8 0), 1, 1) := by kernel_rfl
def n8 (l : List UInt8) : List Nat := l.map UInt8.toNat
theorem n8_append (l m : List UInt8) : n8 (l ++ m) = n8 l ++ n8 m := by simp [n8]
theorem n8_length (l : List UInt8) : (n8 l).length = l.length := by simp [n8]
theorem strOf_n8 (l : List UInt8) : strOf (n8 l) = ⟨l.toArray⟩ := by
  have h := strOf_numsOf ⟨l.toArray⟩
  simpa [numsOf, n8] using h
theorem Row.conv {P : Program} {w : World} {base : Nat} {src dst : TypeId} {A : Option Addr} {n c : Nat} {xs : List Nat} (h : Row w base (.slice A n c) xs) (hs : P.underlying src = some (.slice 5)) (he : P.underlying 5 = some (.int .u8)) (hd : P.underlying dst = some .string) :
    (convert src dst (.slice A n c)).run P w = .ok (.string (strOf xs)) w := by
  obtain ⟨A', c', e, _, _, _, hr⟩ := h.slice
  simp only [Value.slice.injEq] at e
  obtain ⟨rfl, rfl, rfl⟩ := e
  exact conv_bytes hr hs he hd c
end Go.Proofs.YtamnononemallaaDoor

/-! The value with which a text begins. -/
namespace Go.Proofs.YtamnononemallaaDoor
open Go.RowKit
/-- The bytes up to the closing quote, and where the text goes on. -/
def uqF : Bool → List UInt8 → List UInt8 → Nat → Option (List UInt8 × Nat)
  | _, [], _, _ => none
  | true, x :: r, acc, k => if x = 34 ∨ x = 92 then uqF false r (acc ++ [x]) (k + 1) else none
  | false, x :: r, acc, k => if x = 34 then some (acc, k + 1) else if x = 92 then uqF true r acc (k + 1) else uqF false r (acc ++ [x]) (k + 1)
def uqS (l acc : List UInt8) (k : Nat) : Option (List UInt8 × Nat) := uqF false l acc k
def uqL : List UInt8 → Option (List UInt8 × Nat)
  | [] => none
  | x :: r => if x = 34 then uqS r [] 1 else none
def uqT (o : Option (List UInt8 × Nat)) : ByteArray := match o with | some p => ⟨p.1.toArray⟩ | none => ⟨#[]⟩
def uqN (o : Option (List UInt8 × Nat)) : Nat := match o with | some p => p.2 | none => 0
theorem drop_at {s : ByteArray} {i : Nat} (h : i < s.size) : s.data.toList.drop i = s[i] :: s.data.toList.drop (i + 1) := by
  have h' : i < s.data.toList.length := by rw [Array.length_toList]; exact h
  rw [List.drop_eq_getElem_cons h']
  rfl
theorem drop_end {s : ByteArray} {i : Nat} (h : s.size ≤ i) : s.data.toList.drop i = [] := List.drop_eq_nil_of_le (by rw [Array.length_toList]; exact h)
theorem uq_quote {s : ByteArray} {i : Nat} {acc : List UInt8} (h : i < s.size) (hx : s[i].toNat = 34) : uqS (s.data.toList.drop i) acc i = some (acc, i + 1) := by
  rw [drop_at h, uqS, uqF, if_pos (u8_34.1 hx)]
theorem uqF_nil (b : Bool) (acc : List UInt8) (k : Nat) : uqF b [] acc k = none := by cases b <;> rfl
theorem uq_end {s : ByteArray} {i : Nat} {acc : List UInt8} (h : s.size ≤ i) : uqS (s.data.toList.drop i) acc i = none := by
  rw [drop_end h, uqS, uqF_nil]
theorem uq_cut {s : ByteArray} {i : Nat} {acc : List UInt8} (h : i < s.size) (hx : s[i].toNat = 92) (he : s.size ≤ i + 1) : uqS (s.data.toList.drop i) acc i = none := by
  rw [drop_at h, drop_end he, uqS, uqF, if_neg (fun e => by rw [e] at hx; cases hx), if_pos (u8_92.1 hx), uqF_nil]
theorem uq_bad {s : ByteArray} {i : Nat} {acc : List UInt8} (h : i < s.size) (hx : s[i].toNat = 92) (he : i + 1 < s.size) (h1 : s[i + 1].toNat ≠ 34) (h2 : s[i + 1].toNat ≠ 92) : uqS (s.data.toList.drop i) acc i = none := by
  rw [drop_at h, drop_at he, uqS, uqF, if_neg (fun e => by rw [e] at hx; cases hx), if_pos (u8_92.1 hx), uqF, if_neg (fun e => e.elim (fun e => h1 (u8_34.2 e)) (fun e => h2 (u8_92.2 e)))]
theorem uq_esc {s : ByteArray} {i : Nat} {acc : List UInt8} (h : i < s.size) (hx : s[i].toNat = 92) (he : i + 1 < s.size) (h1 : s[i + 1].toNat = 34 ∨ s[i + 1].toNat = 92) : uqS (s.data.toList.drop i) acc i = uqS (s.data.toList.drop (i + 2)) (acc ++ [s[i + 1]]) (i + 2) := by
  conv => lhs; rw [drop_at h, drop_at he, uqS, uqF, if_neg (fun e => by rw [e] at hx; cases hx), if_pos (u8_92.1 hx), uqF, if_pos (h1.imp u8_34.1 u8_92.1)]
  rfl
theorem uq_step {s : ByteArray} {i : Nat} {acc : List UInt8} (h : i < s.size) (h1 : s[i].toNat ≠ 34) (h2 : s[i].toNat ≠ 92) : uqS (s.data.toList.drop i) acc i = uqS (s.data.toList.drop (i + 1)) (acc ++ [s[i]]) (i + 1) := by
  conv => lhs; rw [drop_at h, uqS, uqF, if_neg (fun e => h1 (u8_34.2 e)), if_neg (fun e => h2 (u8_92.2 e))]
  rfl
theorem uqL_cons (x : UInt8) (r : List UInt8) : uqL (x :: r) = if x = 34 then uqS r [] 1 else none := rfl
theorem uqL_eq {s : ByteArray} (h : 0 < s.size) (h1 : s[0].toNat = 34) : uqL s.data.toList = uqS (s.data.toList.drop 1) [] 1 := by
  have := drop_at h
  rw [List.drop_zero] at this
  conv => lhs; rw [this, uqL_cons, if_pos (u8_34.1 h1)]
theorem uqL_no {s : ByteArray} (h : 0 < s.size) (h1 : s[0].toNat ≠ 34) : uqL s.data.toList = none := by
  have := drop_at h
  rw [List.drop_zero] at this
  rw [this, uqL_cons, if_neg (fun e => h1 (u8_34.2 e))]
theorem uqL_nil {s : ByteArray} (h : s.size = 0) : uqL s.data.toList = none := by
  have : s.data.toList = [] := List.eq_nil_of_length_eq_zero (by rw [Array.length_toList]; exact h)
  rw [this, uqL]
set_option maxRecDepth 100000 in
set_option maxHeartbeats 16000000 in
theorem punq_any (s : ByteArray) (hs : s.size ≤ 140737488355328) (w : World) :
    Calls Tryd.prog 34 #[.string s] w fun e w' => e = .returned (.tuple #[.string (uqT (uqL s.data.toList)), .int .i64 (uqN (uqL s.data.toList))]) ∧ Below w.heap.size w w' := by
  rcases Nat.eq_zero_or_pos s.size with h0 | h0
  · have he := str_empty h0
    have he' : s.toList.isEmpty = true := by rw [he]; rfl
    rw [uqL_nil h0]
    go_enter Tryd.func34, Tryd.ntmps34
    go_wp2
    refine bodyPost_ret (v := .tuple #[.string ⟨#[]⟩, .int .i64 0]) (by simp [results, Tryd.results34, go_sem] <;> rfl) rfl ⟨rfl, Below.refl _ _⟩
  obtain ⟨he, he'⟩ := str_some h0
  have h0i : (0 : Int) < s.size := by omega
  by_cases h34 : s[0].toNat = 34
  · rw [uqL_eq h0 h34]
    have d0 : ((s[0].toNat : Int) == 34) = true := by simp; omega
    have d0' : ((s[0].toNat : Int) != 34) = false := by simp; omega
    generalize hR : uqS (s.data.toList.drop 1) [] 1 = R
    have hb0 := bld_new w
    have hbel0 : Below w.heap.size w (w.alloc (.cells #[.pointer none, .slice none 0 0] 64)) := Below.alloc (Below.refl _ _) (Nat.le_refl _) _
    go_enter Tryd.func34, Tryd.ntmps34
    go_wp2
    generalize hq : w.heap.size = q at *
    go_loopw [5] (fun s5 wr => ∃ (i : Nat) (acc : List UInt8), 1 ≤ i ∧ i ≤ s.size ∧ acc.length < i ∧ uqS (s.data.toList.drop i) acc i = R ∧ s5 = .int .i64 (i : Int) ∧ Bld q q acc wr ∧ Below q w wr) (fun s5 _ => ((s.size : Int) - intOf s5).toNat)
    case atStart => exact ⟨1, [], by omega, by omega, by simp, hR, rfl, hb0, hbel0⟩
    case round =>
      clear hb0 hbel0 hR
      obtain ⟨i, acc, hi1, hi, hacc, hR, rfl, hB, hb⟩ := hrel
      have hqw : q ≤ wr.heap.size := by rw [← hq]; exact hb.size
      by_cases hlt : i < s.size
      · have hii : (i : Int) < s.size := by omega
        by_cases h1 : s[i].toNat = 34
        · rw [uq_quote hlt h1] at hR
          subst hR
          have d1 : ((s[i].toNat : Int) == 34) = true := by simp; omega
          go_wp2_with (go_at_call 27; (with_reducible refine (bstr_any _ _ _ _ hB hqw).mono ?_); rintro e v2 ⟨rfl, hv2⟩)
          refine bodyPost_ret (v := .tuple #[.string ⟨acc.toArray⟩, .int .i64 ((i : Int) + 1)]) (by simp [results, Tryd.results34, go_sem] <;> rfl) rfl ⟨rfl, by first | exact hb.trans hv2 | (rw [hq]; exact hb.trans hv2)⟩
        have d1 : ((s[i].toNat : Int) == 34) = false := by simp; omega
        by_cases h2 : s[i].toNat = 92
        · have d2 : ((s[i].toNat : Int) == 92) = true := by simp; omega
          by_cases hend : i + 1 < s.size
          · have hei : (i : Int) + 1 < s.size := by omega
            have hni : ((i : Int) + 1 == s.size) = false := by simp; omega
            have hni' : ¬ ((i : Int) + 1 = s.size) := by omega
            have hni2 : ¬ (i + 1 = s.size) := by omega
            by_cases h3 : s[i + 1].toNat = 34 ∨ s[i + 1].toNat = 92
            · rw [uq_esc hlt h2 hend h3] at hR
              obtain ⟨y, hy⟩ : ∃ y, s[i + 1] = y := ⟨_, rfl⟩
              rw [hy] at h3 hR
              have hR := hide hR
              have d3 : ((y.toNat : Int) == 34) = true ∨ ((y.toNat : Int) == 34) = false ∧ ((y.toNat : Int) == 92) = true := by simp; omega
              have d3' : ((y.toNat : Int) != 34) = false ∧ ((y.toNat : Int) == 34) = true ∨ ((y.toNat : Int) != 34) = true ∧ ((y.toNat : Int) == 34) = false ∧ ((y.toNat : Int) != 92) = false ∧ ((y.toNat : Int) == 92) = true := by simp; omega
              clear d3
              rcases d3' with ⟨d3, d4⟩ | ⟨d3, d4, d5, d6⟩
              all_goals
                go_wp2_with (go_at_call 24; (with_reducible refine (bbyte_k _ _ _ y _ (by first | rfl | (simp at d4; omega) | (simp at d6; omega)) _ hB (by omega) hqw).mono ?_); rintro e v1 ⟨rfl, hB1, hv1⟩)
                go_roundw
                case rel => exact ⟨i + 2, acc ++ [y], by omega, by omega, by simp; omega, hR.out, by go_num, hB1, hb.trans hv1⟩
                case measure => simp [intOf]; omega
            · have e1 : s[i + 1].toNat ≠ 34 := fun e => h3 (.inl e)
              have e2 : s[i + 1].toNat ≠ 92 := fun e => h3 (.inr e)
              rw [uq_bad hlt h2 hend e1 e2] at hR
              subst hR
              obtain ⟨y, hy⟩ : ∃ y, s[i + 1] = y := ⟨_, rfl⟩
              rw [hy] at e1 e2
              have d3 : ((y.toNat : Int) == 34) = false := by simp; omega
              have d4 : ((y.toNat : Int) == 92) = false := by simp; omega
              have d5 : ((y.toNat : Int) != 34) = true := by simp; omega
              have d6 : ((y.toNat : Int) != 92) = true := by simp; omega
              clear h3
              go_wp2
              refine bodyPost_ret (v := .tuple #[.string ⟨#[]⟩, .int .i64 0]) (by simp [results, Tryd.results34, go_sem] <;> rfl) rfl ⟨rfl, by first | exact hb | (rw [hq]; exact hb)⟩
          · rw [uq_cut hlt h2 (by omega)] at hR
            subst hR
            have hni : ((i : Int) + 1 == s.size) = true := by simp; omega
            have hni' : (i : Int) + 1 = s.size := by omega
            have hni2 : i + 1 = s.size := by omega
            go_wp2
            refine bodyPost_ret (v := .tuple #[.string ⟨#[]⟩, .int .i64 0]) (by simp [results, Tryd.results34, go_sem] <;> rfl) rfl ⟨rfl, by first | exact hb | (rw [hq]; exact hb)⟩
        · rw [uq_step hlt h1 h2] at hR
          obtain ⟨x, hx⟩ : ∃ x, s[i] = x := ⟨_, rfl⟩
          rw [hx] at hR d1 h1 h2
          have d2 : ((x.toNat : Int) == 92) = false := by simp; omega
          have hR := hide hR
          go_wp2_with (go_at_call 24; (with_reducible refine (bbyte_any _ _ _ _ _ hB (by omega) hqw).mono ?_); rintro e v1 ⟨rfl, hB1, hv1⟩)
          go_roundw
          case rel => exact ⟨i + 1, acc ++ [x], by omega, by omega, by simp; omega, hR.out, by go_num, hB1, hb.trans hv1⟩
          case measure => simp [intOf]; omega
      · rw [uq_end (by omega)] at hR
        subst hR
        obtain rfl : i = s.size := by omega
        go_wp2
        refine bodyPost_ret (v := .tuple #[.string ⟨#[]⟩, .int .i64 0]) (by simp [results, Tryd.results34, go_sem] <;> rfl) rfl ⟨rfl, by first | exact hb | (rw [hq]; exact hb)⟩
  · rw [uqL_no h0 h34]
    have d1 : ((s[0].toNat : Int) == 34) = false := by simp; omega
    have d2 : ((s[0].toNat : Int) != 34) = true := by simp; omega
    go_enter Tryd.func34, Tryd.ntmps34
    go_wp2
    refine bodyPost_ret (v := .tuple #[.string ⟨#[]⟩, .int .i64 0]) (by simp [results, Tryd.results34, go_sem] <;> rfl) rfl ⟨rfl, Below.refl _ _⟩
end Go.Proofs.YtamnononemallaaDoor

