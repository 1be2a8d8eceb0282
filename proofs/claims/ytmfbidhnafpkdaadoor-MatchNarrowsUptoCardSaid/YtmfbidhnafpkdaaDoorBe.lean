import Derived.Test.YtmfbidhnafpkdaaDoorStr
import Derived.Test.YtmfbidhnafpkdaaDoorFirst
import Derived.Maps.AppendAt
import Derived.OneCell
/-! Numbers as bytes, rows of bytes, and a writer: a block of one cell that holds a row. -/
namespace Go.Proofs.YtmfbidhnafpkdaaDoor
open Go.RowKit
set_option linter.unusedVariables false
set_option linter.unusedSimpArgs false

theorem grown_alloc (w : World) (o : Obj) : First.Grown w (w.alloc o) := World.ext_of_below (Below.alloc (Below.refl _ _) (Nat.le_refl _) o)
/-- A number's k lowest digits to the base 256, the highest first. -/
def be : Nat → Nat → List Nat
  | 0, _ => []
  | k + 1, n => be k (n / 256) ++ [n % 256]
theorem be_length : ∀ k n, (be k n).length = k
  | 0, _ => rfl
  | k + 1, n => by simp [be, be_length k]
theorem be_get : ∀ k n j, j < k → (be k n)[j]? = some (n / 256 ^ (k - 1 - j) % 256)
  | 0, _, _, h => by omega
  | k + 1, n, j, h => by
    simp only [be]
    by_cases hj : j < k
    · rw [List.getElem?_append_left (by rw [be_length]; exact hj), be_get k _ j hj, Nat.div_div_eq_div_mul, show k + 1 - 1 - j = (k - 1 - j) + 1 by omega, Nat.pow_succ']
    · have : j = k := by omega
      subst this
      rw [List.getElem?_append_right (by rw [be_length]; exact Nat.le_refl _), be_length]
      simp
theorem be_take_succ (k n j : Nat) (h : j < k) : (be k n).take (j + 1) = (be k n).take j ++ [n / 256 ^ (k - 1 - j) % 256] := by
  rw [List.take_add_one, be_get k n j h]; rfl
theorem be_lt : ∀ k n, ∀ x ∈ be k n, x < 256
  | 0, _, x, h => by simp [be] at h
  | k + 1, n, x, h => by
    simp only [be, List.mem_append, List.mem_singleton] at h
    rcases h with h | rfl
    · exact be_lt k _ x h
    · omega
/-- How many digits a number needs. -/
def longN (n : Nat) : Nat := if h : n = 0 then 0 else longN (n / 256) + 1
termination_by n
decreasing_by omega
theorem longN_zero : longN 0 = 0 := by rw [longN]; rfl
theorem longN_pos {n : Nat} (h : 0 < n) : longN n = longN (n / 256) + 1 := by rw [longN, dif_neg (by omega)]
theorem longN_le : ∀ (k n : Nat), n < 256 ^ k → longN n ≤ k
  | 0, n, h => by
    have : n = 0 := by simpa using h
    subst this
    rw [longN_zero]
    exact Nat.le_refl _
  | k + 1, n, h => by
    by_cases h0 : n = 0
    · subst h0
      rw [longN_zero]
      omega
    · rw [longN_pos (by omega)]
      have := longN_le k (n / 256) (by rw [Nat.pow_succ] at h; omega)
      omega
theorem lt_longN (n : Nat) : n < 256 ^ longN n := by
  induction n using Nat.strongRecOn with
  | ind n ih =>
    by_cases h0 : n = 0
    · subst h0
      rw [longN_zero]
      exact Nat.one_pos
    · rw [longN_pos (by omega), Nat.pow_succ]
      have := ih (n / 256) (by omega)
      omega
/-- A number's bytes. -/
def numB (n : Nat) : List Nat := if n < 248 then [n] else (247 + longN n) :: be (longN n) n
theorem numB_length (n : Nat) : (numB n).length = if n < 248 then 1 else longN n + 1 := by
  unfold numB
  split
  · rfl
  · simp [be_length]
theorem numB_le (n : Nat) (h : n < 18446744073709551616) : (numB n).length ≤ 9 := by
  rw [numB_length]
  split
  · omega
  · have := longN_le 8 n (by omega)
    omega
theorem numB_lt (n : Nat) (h : n < 18446744073709551616) : ∀ x ∈ numB n, x < 256 := by
  intro x hx
  unfold numB at hx
  split at hx
  · simp at hx
    omega
  · have := longN_le 8 n (by omega)
    rcases List.mem_cons.1 hx with rfl | hx
    · omega
    · exact be_lt _ _ x hx
/-- A number with a sign as one without. -/
def zig (a : Int) : Nat := if 0 ≤ a then (2 * a).toNat else (-2 * a - 1).toNat
theorem zig_lt (a : Int) (h : -9223372036854775808 ≤ a ∧ a ≤ 9223372036854775807) : zig a < 18446744073709551616 := by
  unfold zig
  split <;> omega

/-- A row of bytes that the call owns. -/
def Row (w : World) (base : Nat) (v : Value) (xs : List Nat) : Prop := w.ownsRow base 5 1 v xs.length (u8s xs)
theorem Row.nil (w : World) (base : Nat) : Row w base (.slice none 0 0) [] := ⟨rfl, .inl ⟨rfl, rfl⟩⟩
theorem Row.keep {w w' : World} {base : Nat} {v : Value} {xs : List Nat} (h : Row w base v xs) (hk : ∀ k, k < w.heap.size → v.ownBlock = some k → w'.heap[k]? = w.heap[k]?) : Row w' base v xs := by
  refine ⟨h.1, ?_⟩
  rcases h.2 with h1 | ⟨g, cap, cur, rfl, h2, h3, h4⟩
  · exact .inl h1
  · exact .inr ⟨g, cap, cur, rfl, h2, (hk g (blk_lt h3) rfl).trans h3, h4⟩
theorem Row.below {w w' : World} {base : Nat} {v : Value} {xs : List Nat} (h : Row w base v xs) (hb : Below w.heap.size w w') : Row w' base v xs := h.keep fun k hk _ => hb.block k hk
theorem Row.ge {w : World} {base : Nat} {v : Value} {xs : List Nat} (h : Row w base v xs) {k : Nat} (hk : v.ownBlock = some k) : base ≤ k ∧ k < w.heap.size := by
  rcases h.2 with ⟨rfl, _⟩ | ⟨g, cap, cur, rfl, h2, h3, h4⟩
  · cases hk
  · cases hk
    exact ⟨h2, blk_lt h3⟩
theorem Row.base {w : World} {base base' : Nat} {v : Value} {xs : List Nat} (h : Row w base v xs) (hb : base' ≤ base) : Row w base' v xs := own_base h hb
theorem Row.slice {w : World} {base : Nat} {v : Value} {xs : List Nat} (h : Row w base v xs) : ∃ A cap, v = .slice A xs.length cap ∧ xs.length ≤ cap ∧ cap ≤ maxLen ∧ (A = none → cap = 0) ∧ Reads w w.heap.size 1 A xs.length (u8s xs) := by
  rcases h.2 with ⟨rfl, h0⟩ | ⟨g, cap, cur, rfl, h2, h3, h4, h5, _⟩
  · refine ⟨none, 0, by rw [h0], by omega, by unfold maxLen; omega, fun _ => rfl, ?_⟩
    rw [h0]
    have : xs = [] := List.eq_nil_of_length_eq_zero h0
    subst this
    exact Reads.none_
  · exact ⟨some ⟨g, 0, none⟩, cap, rfl, h4, h5, (fun e => by cases e), Reads.of_own h⟩

theorem Row.shape {w : World} {base : Nat} {v : Value} {xs : List Nat} (h : Row w base v xs) : ∃ A n c, v = .slice A n c := by
  obtain ⟨A, c, e, -⟩ := h.slice
  exact ⟨A, _, c, e⟩
/-- The change of one row. -/
structure Chg (w w' : World) (v v' : Value) : Prop where
  os : w'.os = w.os
  tape : w'.tape = w.tape
  output : w'.output = w.output
  size : w.heap.size ≤ w'.heap.size
  block : ∀ k, k < w.heap.size → v.ownBlock ≠ some k → w'.heap[k]? = w.heap[k]?
  lies : v'.ownBlock = v.ownBlock ∨ ∃ b, v'.ownBlock = some b ∧ w.heap.size ≤ b
theorem Chg.refl (w : World) (v : Value) : Chg w w v v := ⟨rfl, rfl, rfl, Nat.le_refl _, fun _ _ _ => rfl, .inl rfl⟩
theorem Chg.trans {w w' w'' : World} {v v' v'' : Value} (h : Chg w w' v v') (k : Chg w' w'' v' v'') : Chg w w'' v v'' := by
  refine ⟨k.os.trans h.os, k.tape.trans h.tape, k.output.trans h.output, Nat.le_trans h.size k.size, fun i hi hv => ?_, ?_⟩
  · refine (k.block i (Nat.lt_of_lt_of_le hi h.size) ?_).trans (h.block i hi hv)
    rcases h.lies with e | ⟨b, e, hb⟩
    · rw [e]; exact hv
    · rw [e]
      intro e'
      cases e'
      omega
  · rcases k.lies with e | ⟨b, e, hb⟩
    · rw [e]; exact h.lies
    · exact .inr ⟨b, e, Nat.le_trans h.size hb⟩
theorem Chg.of_below {w w' : World} {v : Value} (h : Below w.heap.size w w') : Chg w w' v v := ⟨h.os, h.tape, h.output, h.size, fun k hk _ => h.block k hk, .inl rfl⟩
theorem Chg.below {w w' : World} {base : Nat} {v v' : Value} {xs : List Nat} (h : Chg w w' v v') (hr : Row w base v xs) (hb : base ≤ w.heap.size) : Below base w w' :=
  ⟨h.os, h.tape, h.output, h.size, fun k hk => h.block k (by omega) fun e => by have := (hr.ge e).1; omega⟩

theorem Row.chg {w w' : World} {b : Nat} {u v v' : Value} {ys : List Nat} (hu : Row w b u ys) (hc : Chg w w' v v') (hne : ∀ k, u.ownBlock = some k → v.ownBlock ≠ some k) : Row w' b u ys :=
  hu.keep fun k hk e => hc.block k hk (hne k e)
/-- The lowest digits, the lowest first. -/
def les (j n : Nat) : List Nat := (List.range j).map fun i => n / 256 ^ i % 256
theorem les_length (j n : Nat) : (les j n).length = j := by simp [les]
theorem les_succ (j n : Nat) : les (j + 1) n = les j n ++ [n / 256 ^ j % 256] := by simp [les, List.range_succ]
theorem les_get {j n i : Nat} (h : i < j) : (les j n)[i]? = some (n / 256 ^ i % 256) := by simp [les, h]
theorem Row.at_ {w : World} {base : Nat} {v : Value} {xs : List Nat} (h : Row w base v xs) (h0 : 0 < xs.length) : ∃ g cap, v = .slice (some ⟨g, 0, none⟩) xs.length cap ∧ g < w.heap.size ∧ base ≤ g ∧ xs.length ≤ cap ∧ cap ≤ maxLen ∧ ∀ (i x : Nat), xs[i]? = some x → w.cell? ⟨g, i, none⟩ = some (.int .u8 (x : Int)) := by
  rcases h.2 with ⟨rfl, e⟩ | ⟨g, cap, cur, rfl, h2, h3, h4, h5, h6, h7⟩
  · omega
  · refine ⟨g, cap, rfl, blk_lt h3, h2, h4, h5, fun i x hi => ?_⟩
    have := Row.slice h
    have hc : w.cell? ⟨g, i, none⟩ = cur[i]? := blk_cell h3 i
    rw [hc]
    have hi2 : (u8s xs)[i]? = some (.int .u8 (x : Int)) := by rw [u8s_get, hi]; rfl
    rw [← h7, List.getElem?_take] at hi2
    split at hi2
    · simpa using hi2
    · cases hi2
theorem Row.cell {w : World} {base L n c : Nat} {xs : List Nat} (h : Row w base (.slice (some ⟨L, 0, none⟩) n c) xs) {i x : Nat} (hi : xs[i]? = some x) : w.cell? ⟨L, i, none⟩ = some (.int .u8 (x : Int)) := by
  obtain ⟨g, cap, e, _, _, _, _, hc⟩ := h.at_ (by have := (List.getElem?_eq_some_iff.1 hi).1; omega)
  simp only [Value.slice.injEq, Option.some.injEq, Addr.mk.injEq] at e
  rw [e.1.1]
  exact hc i x hi
/-- A writer: a block of one cell that holds a row. -/
structure Wrt (w : World) (base g : Nat) (t : TypeId) (v : Value) (xs : List Nat) : Prop where
  blk : Blk w g t #[v]
  row : Row w base v xs
  ne : v.ownBlock ≠ some g
  ge : base ≤ g
structure Chw (w w' : World) (g : Nat) (v v' : Value) : Prop where
  os : w'.os = w.os
  tape : w'.tape = w.tape
  output : w'.output = w.output
  size : w.heap.size ≤ w'.heap.size
  block : ∀ k, k < w.heap.size → k ≠ g → v.ownBlock ≠ some k → w'.heap[k]? = w.heap[k]?
  lies : v'.ownBlock = v.ownBlock ∨ ∃ b, v'.ownBlock = some b ∧ w.heap.size ≤ b
theorem Chw.refl (w : World) (g : Nat) (v : Value) : Chw w w g v v := ⟨rfl, rfl, rfl, Nat.le_refl _, fun _ _ _ _ => rfl, .inl rfl⟩
theorem Chw.trans {w w' w'' : World} {g : Nat} {v v' v'' : Value} (h : Chw w w' g v v') (k : Chw w' w'' g v' v'') : Chw w w'' g v v'' := by
  refine ⟨k.os.trans h.os, k.tape.trans h.tape, k.output.trans h.output, Nat.le_trans h.size k.size, fun i hi hg hv => ?_, ?_⟩
  · refine (k.block i (Nat.lt_of_lt_of_le hi h.size) hg ?_).trans (h.block i hi hg hv)
    rcases h.lies with e | ⟨b, e, hb⟩
    · rw [e]; exact hv
    · rw [e]
      intro e'
      cases e'
      omega
  · rcases k.lies with e | ⟨b, e, hb⟩
    · rw [e]; exact h.lies
    · exact .inr ⟨b, e, Nat.le_trans h.size hb⟩
theorem Chw.of_below {w w' : World} {g : Nat} {v : Value} (h : Below w.heap.size w w') : Chw w w' g v v := ⟨h.os, h.tape, h.output, h.size, fun k hk _ _ => h.block k hk, .inl rfl⟩
theorem Chw.below {w w' : World} {base g : Nat} {t : TypeId} {v v' : Value} {xs : List Nat} (h : Chw w w' g v v') (hr : Wrt w base g t v xs) : Below base w w' :=
  ⟨h.os, h.tape, h.output, h.size, fun k hk => h.block k (by have := hr.ge; have := hr.blk.lt; omega) (by have := hr.ge; omega) fun e => by have := (hr.row.ge e).1; omega⟩
theorem Wrt.below {w w' : World} {base g : Nat} {t : TypeId} {v : Value} {xs : List Nat} (h : Wrt w base g t v xs) (hb : Below w.heap.size w w') : Wrt w' base g t v xs :=
  ⟨h.blk.below hb h.blk.lt, h.row.below hb, h.ne, h.ge⟩
theorem Blk.chw {w w' : World} {k g : Nat} {t : TypeId} {cs : Array Value} {v v' : Value} (h : Blk w k t cs) (hc : Chw w w' g v v') (h1 : k ≠ g) (h2 : v.ownBlock ≠ some k) : Blk w' k t cs := (hc.block k h.lt h1 h2).trans h
theorem Chw.old {w w' : World} {g : Nat} {v v' : Value} (hc : Chw w w' g v v') {k : Nat} (hk : k < w.heap.size) (h2 : v.ownBlock ≠ some k) : v'.ownBlock ≠ some k := by
  rcases hc.lies with e | ⟨b, e, hb⟩
  · rw [e]; exact h2
  · rw [e]
    intro e'
    cases e'
    omega
theorem Row.far {w : World} {base : Nat} {v : Value} {xs : List Nat} (h : Row w base v xs) {k : Nat} (hk : w.heap.size ≤ k) : v.ownBlock ≠ some k := fun e => by
  have := (h.ge e).2
  omega
theorem Wrt.chg {w w1 : World} {base g : Nat} {t : TypeId} {v v' : Value} {xs : List Nat} (h : Wrt w base g t v xs) (hc : Chg w w1 v v') : Blk w1 g t #[v] := (hc.block g h.blk.lt h.ne).trans h.blk
theorem Chg.ne {w w1 : World} {base g : Nat} {t : TypeId} {v v' : Value} {xs : List Nat} (h : Wrt w base g t v xs) (hc : Chg w w1 v v') : v'.ownBlock ≠ some g := by
  rcases hc.lies with e | ⟨b, e, hb⟩
  · rw [e]; exact h.ne
  · rw [e]
    intro e'
    cases e'
    have := h.blk.lt
    omega
theorem Wrt.set_ {w w1 : World} {base g : Nat} {t : TypeId} {v v' : Value} {xs ys : List Nat} (h : Wrt w base g t v xs) (hc : Chg w w1 v v') (hr : Row w1 base v' ys) :
    Wrt (w1.setCell ⟨g, 0, none⟩ v') base g t v' ys ∧ Chw w (w1.setCell ⟨g, 0, none⟩ v') g v v' := by
  refine ⟨⟨(h.chg hc).set_to rfl, ownsRow_setCell_other hr (hc.ne h) v', hc.ne h, h.ge⟩, ?_⟩
  refine ⟨hc.os, hc.tape, hc.output, ?_, fun k hk hg hv => ?_, hc.lies⟩
  · simpa using hc.size
  · exact (Below.heap_setCell w1 _ _ k hg).trans (hc.block k hk hv)

theorem app_byte {P : Program} {w : World} {ops : Array Oper} {rest : List Oper} {o : Oper} {a : Act} {Q : Exit → Act → World → Prop} (hgd : o.guard = none) (s x : Operand) (t : TypeId)
    (ho : o.op = .call { callee := .builtin .append, args := #[s, x], argTypes := #[t, t] }) (ht : P.underlying t = some (.slice 5)) (hinfo : (P.info? 5).map (fun i => (i.zero, i.size, i.bytes)) = some (some (.int .u8 0), 1, 1))
    (base : Nat) (v : Value) (xs : List Nat) (y : Nat) (b : Int) (hy : b = (y : Int)) (hs : a.eval s = v) (hown : Row w base v xs) (B : Nat) (hB : B = w.heap.size) (hx : a.eval x = .slice (some ⟨B, 0, none⟩) 1 1) (hlen : xs.length + 1 ≤ 140737488355328) (hbase : base ≤ w.heap.size)
    (h : ∀ v' w', Row w' base v' (xs ++ [y]) → Chg w w' v v' → wpList P ops Q rest (a.put o.dst v') w') :
    wpList P ops Q (o :: rest) a (w.alloc (.cells #[.int .u8 b] 5)) := by
  subst hy hB
  obtain ⟨i0, hi, hz0, hz1, hz2⟩ := info_parts hinfo
  refine wpList_append_own_at (w.alloc (.cells #[.int .u8 (y : Int)] 5)) hgd s x t ho base 5 i0 (.int .u8 0) 1 1 ht hi hz0 hz1 hz2 rfl (by decide) v xs.length (u8s xs) hs (Row.keep hown fun k hk _ => Below.heap_alloc w _ k hk) ⟨w.heap.size, 0, none⟩ 1 1 [.int .u8 (y : Int)] hx rfl (cell_one_new _ _ _) (fun u hu => by simp at hu; subst hu; rfl) (by unfold maxLen; omega) (by omega) (by simp; omega) fun v' w' h1 h2 h3 h4 => h v' w' ?_ ?_
  · unfold Row
    rw [List.length_append, u8s_append]
    exact h1
  · refine ⟨h2.os, h2.tape, h2.output, ?_, fun k hk hv => ?_, ?_⟩
    · have := h2.size
      simp at this
      omega
    · exact (h2.block k (by simp; omega) (Ne.symm hv)).trans (Below.heap_alloc w _ k hk)
    · rcases h4 with e | e
      · exact .inl e
      · exact .inr ⟨_, e, by simp⟩
theorem app_row {P : Program} {w : World} {ops : Array Oper} {rest : List Oper} {o : Oper} {a : Act} {Q : Exit → Act → World → Prop} (hgd : o.guard = none) (s x : Operand) (t : TypeId)
    (ho : o.op = .call { callee := .builtin .append, args := #[s, x], argTypes := #[t, t] }) (ht : P.underlying t = some (.slice 5)) (hinfo : (P.info? 5).map (fun i => (i.zero, i.size, i.bytes)) = some (some (.int .u8 0), 1, 1))
    (base : Nat) (v : Value) (xs ys : List Nat) (A : Option Addr) (m c : Nat) (hs : a.eval s = v) (hown : Row w base v xs) (hx : a.eval x = .slice A m c) (hm : m = ys.length) (hr : Reads w w.heap.size 1 A m (u8s ys)) (hnil : A = none → c = 0) (hlen : xs.length + m ≤ 140737488355328) (hbase : base ≤ w.heap.size)
    (h : ∀ v' w', Row w' base v' (xs ++ ys) → Chg w w' v v' → wpList P ops Q rest (a.put o.dst v') w') :
    wpList P ops Q (o :: rest) a w := by
  subst hm
  obtain ⟨i0, hi, hz0, hz1, hz2⟩ := info_parts hinfo
  cases A with
  | none =>
    have h0 : ys.length = 0 := by
      rcases Nat.eq_zero_or_pos ys.length with e | e
      · exact e
      · obtain ⟨_, e', _⟩ := hr.2 e
        cases e'
    have hy : ys = [] := List.eq_nil_of_length_eq_zero h0
    subst hy
    obtain rfl := hnil rfl
    refine wpList_plain hgd fun K hK' => ?_
    have hrun := run_append_owned_none (P := P) w base t o.type 5 i0 1 ht hi v xs.length (u8s xs) hown
    unfold Oper.wp
    simp [execOp, ho, resolve, invoke, builtin, hs, hx, hrun, Result.andThen]
    exact hK' _ _ (h v w (by simpa using hown) (Chg.refl _ _))
  | some ad =>
    refine wpList_append_own_at w hgd s x t ho base 5 i0 (.int .u8 0) 1 1 ht hi hz0 hz1 hz2 rfl (by decide) v xs.length (u8s xs) hs hown ad ys.length c (u8s ys) hx (by rw [u8s_length, Nat.mul_one]) (fun j u hu => ?_) (fun u hu => ?_) (by unfold maxLen; omega) (by omega) hbase fun v' w' h1 h2 h3 h4 => h v' w' ?_ ?_
    · obtain ⟨ad', e, _, hc⟩ := hr.2 (by have := (List.getElem?_eq_some_iff.1 hu).1; rw [u8s_length] at this; omega)
      cases e
      exact hc j u hu
    · obtain ⟨y, _, rfl⟩ := List.mem_map.1 hu
      rfl
    · unfold Row
      rw [List.length_append, u8s_append]
      exact h1
    · refine ⟨h2.os, h2.tape, h2.output, h2.size, fun k hk hv => h2.block k hk (Ne.symm hv), ?_⟩
      rcases h4 with e | e
      · exact .inl e
      · exact .inr ⟨_, e, Nat.le_refl _⟩
end Go.Proofs.YtmfbidhnafpkdaaDoor
