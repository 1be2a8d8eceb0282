import Derived.Below
import Derived.BigQuiet
import Derived.Deep.QuietTactic
import Derived.WalkKit
import Derived.ProofKit
import Derived.OpenShut
import Derived.ChangeSame
import Derived.Lib.SmallJoins
import Derived.SizedLaws
import Derived.Deep.CondSized
import Derived.JoinedCond
import Derived.StillTail
import Derived.Laws.BytesArg
import Derived.Lib.Bytes
import Derived.Laws.IdiomStrings
import Derived.Lib.ConvBytes
import Derived.Lib.BufferRead
import Derived.Test.YtamnononemallaaDoorRows
/-! Several texts in one. -/
set_option linter.unusedVariables false
set_option linter.unusedSimpArgs false
/-! Worlds that have grown: 'w.ext X' is w with more blocks and more draws. Regions that draw their order, whose calls make new memory alone. -/
namespace Go
open Go.RowKit
structure Ext where
  blocks : Array Obj
  draws : Nat
  deriving Inhabited
def World.ext (w : World) (X : Ext) : World := { w with heap := w.heap ++ X.blocks, drawn := X.draws }

theorem World.ext_of_below {w w' : World} (h : Below w.heap.size w w') : ∃ X, w' = w.ext X := by
  refine ⟨⟨w'.heap.extract w.heap.size w'.heap.size, w'.drawn⟩, ?_⟩
  obtain ⟨h1, h2, h3, h4, h5⟩ := h
  cases w'
  simp only [World.ext] at *
  subst h1 h2 h3
  congr 1
  apply Array.ext_getElem?
  intro i
  by_cases hi : i < w.heap.size
  · rw [Array.getElem?_append_left hi]; exact h5 i hi
  · rw [Array.getElem?_append_right (by omega), Array.getElem?_extract]
    by_cases hj : i < Array.size ‹Array Obj›
    · rw [if_pos (by omega)]; congr 1; omega
    · rw [if_neg (by omega), Array.getElem?_eq_none (by omega)]

theorem World.below_ext (w : World) (X : Ext) : Below w.heap.size w (w.ext X) :=
  ⟨rfl, rfl, rfl, by simp [World.ext], fun k hk => by simp only [World.ext]; rw [Array.getElem?_append_left hk]⟩

theorem World.heap_ext {w : World} {X : Ext} {k : Nat} (hk : k < w.heap.size) : (w.ext X).heap[k]? = w.heap[k]? := by
  simp only [World.ext]; rw [Array.getElem?_append_left hk]
@[go_sem] theorem World.cell?_ext {w : World} {X : Ext} {a : Addr} (h : a.block < w.heap.size) : (w.ext X).cell? a = w.cell? a := (World.below_ext w X).cell h
@[go_sem] theorem World.frozen?_ext {w : World} {X : Ext} {a : Addr} (h : a.block < w.heap.size) : (w.ext X).frozen? a = w.frozen? a := (World.below_ext w X).frozen h
@[go_sem] theorem World.size_ext (w : World) (X : Ext) : (w.ext X).heap.size = w.heap.size + X.blocks.size := by simp [World.ext]

/-! Facts on block numbers that the walk's simp cannot see by itself (its discharger goes two steps deep). -/
section
variable (n a b c d e f g h : Nat)
@[go_sem] theorem Ext.lt_1_1 : (n < n + 1 + a) = True := eq_true (by omega)
@[go_sem] theorem Ext.lt_1_2 : (n < n + 1 + a + b) = True := eq_true (by omega)
@[go_sem] theorem Ext.lt_1_3 : (n < n + 1 + a + b + c) = True := eq_true (by omega)
@[go_sem] theorem Ext.lt_1_4 : (n < n + 1 + a + b + c + d) = True := eq_true (by omega)
@[go_sem] theorem Ext.lt_1_5 : (n < n + 1 + a + b + c + d + e) = True := eq_true (by omega)
@[go_sem] theorem Ext.lt_1_6 : (n < n + 1 + a + b + c + d + e + f) = True := eq_true (by omega)
@[go_sem] theorem Ext.lt_1_7 : (n < n + 1 + a + b + c + d + e + f + g) = True := eq_true (by omega)
@[go_sem] theorem Ext.lt_1_8 : (n < n + 1 + a + b + c + d + e + f + g + h) = True := eq_true (by omega)
@[go_sem] theorem Ext.lt_2_1 : (n < n + 2 + a) = True := eq_true (by omega)
@[go_sem] theorem Ext.lt_1_2_1 : (n + 1 < n + 2 + a) = True := eq_true (by omega)
@[go_sem] theorem Ext.lt_2_2 : (n < n + 2 + a + b) = True := eq_true (by omega)
@[go_sem] theorem Ext.lt_1_2_2 : (n + 1 < n + 2 + a + b) = True := eq_true (by omega)
@[go_sem] theorem Ext.lt_2_3 : (n < n + 2 + a + b + c) = True := eq_true (by omega)
@[go_sem] theorem Ext.lt_1_2_3 : (n + 1 < n + 2 + a + b + c) = True := eq_true (by omega)
@[go_sem] theorem Ext.lt_2_4 : (n < n + 2 + a + b + c + d) = True := eq_true (by omega)
@[go_sem] theorem Ext.lt_1_2_4 : (n + 1 < n + 2 + a + b + c + d) = True := eq_true (by omega)
@[go_sem] theorem Ext.lt_2_5 : (n < n + 2 + a + b + c + d + e) = True := eq_true (by omega)
@[go_sem] theorem Ext.lt_1_2_5 : (n + 1 < n + 2 + a + b + c + d + e) = True := eq_true (by omega)
@[go_sem] theorem Ext.lt_2_6 : (n < n + 2 + a + b + c + d + e + f) = True := eq_true (by omega)
@[go_sem] theorem Ext.lt_2_7 : (n < n + 2 + a + b + c + d + e + f + g) = True := eq_true (by omega)
@[go_sem] theorem Ext.lt_2_8 : (n < n + 2 + a + b + c + d + e + f + g + h) = True := eq_true (by omega)
@[go_sem] theorem Ext.lt_3_1 : (n < n + 3 + a) = True := eq_true (by omega)
@[go_sem] theorem Ext.lt_1_3_1 : (n + 1 < n + 3 + a) = True := eq_true (by omega)
@[go_sem] theorem Ext.lt_2_3_1 : (n + 2 < n + 3 + a) = True := eq_true (by omega)
@[go_sem] theorem Ext.lt_3_2 : (n < n + 3 + a + b) = True := eq_true (by omega)
@[go_sem] theorem Ext.lt_1_3_2 : (n + 1 < n + 3 + a + b) = True := eq_true (by omega)
@[go_sem] theorem Ext.lt_2_3_2 : (n + 2 < n + 3 + a + b) = True := eq_true (by omega)
@[go_sem] theorem Ext.lt_3_3 : (n < n + 3 + a + b + c) = True := eq_true (by omega)
@[go_sem] theorem Ext.lt_1_3_3 : (n + 1 < n + 3 + a + b + c) = True := eq_true (by omega)
@[go_sem] theorem Ext.lt_2_3_3 : (n + 2 < n + 3 + a + b + c) = True := eq_true (by omega)
@[go_sem] theorem Ext.lt_3_4 : (n < n + 3 + a + b + c + d) = True := eq_true (by omega)
@[go_sem] theorem Ext.lt_1_3_4 : (n + 1 < n + 3 + a + b + c + d) = True := eq_true (by omega)
@[go_sem] theorem Ext.lt_2_3_4 : (n + 2 < n + 3 + a + b + c + d) = True := eq_true (by omega)
@[go_sem] theorem Ext.lt_3_5 : (n < n + 3 + a + b + c + d + e) = True := eq_true (by omega)
@[go_sem] theorem Ext.lt_1_3_5 : (n + 1 < n + 3 + a + b + c + d + e) = True := eq_true (by omega)
@[go_sem] theorem Ext.lt_2_3_5 : (n + 2 < n + 3 + a + b + c + d + e) = True := eq_true (by omega)
@[go_sem] theorem Ext.lt_3_6 : (n < n + 3 + a + b + c + d + e + f) = True := eq_true (by omega)
@[go_sem] theorem Ext.lt_3_7 : (n < n + 3 + a + b + c + d + e + f + g) = True := eq_true (by omega)
@[go_sem] theorem Ext.lt_3_8 : (n < n + 3 + a + b + c + d + e + f + g + h) = True := eq_true (by omega)
@[go_sem] theorem Ext.lt_4_1 : (n < n + 4 + a) = True := eq_true (by omega)
@[go_sem] theorem Ext.lt_1_4_1 : (n + 1 < n + 4 + a) = True := eq_true (by omega)
@[go_sem] theorem Ext.lt_2_4_1 : (n + 2 < n + 4 + a) = True := eq_true (by omega)
@[go_sem] theorem Ext.lt_3_4_1 : (n + 3 < n + 4 + a) = True := eq_true (by omega)
@[go_sem] theorem Ext.lt_4_2 : (n < n + 4 + a + b) = True := eq_true (by omega)
@[go_sem] theorem Ext.lt_1_4_2 : (n + 1 < n + 4 + a + b) = True := eq_true (by omega)
@[go_sem] theorem Ext.lt_2_4_2 : (n + 2 < n + 4 + a + b) = True := eq_true (by omega)
@[go_sem] theorem Ext.lt_3_4_2 : (n + 3 < n + 4 + a + b) = True := eq_true (by omega)
@[go_sem] theorem Ext.lt_4_3 : (n < n + 4 + a + b + c) = True := eq_true (by omega)
@[go_sem] theorem Ext.lt_1_4_3 : (n + 1 < n + 4 + a + b + c) = True := eq_true (by omega)
@[go_sem] theorem Ext.lt_2_4_3 : (n + 2 < n + 4 + a + b + c) = True := eq_true (by omega)
@[go_sem] theorem Ext.lt_3_4_3 : (n + 3 < n + 4 + a + b + c) = True := eq_true (by omega)
@[go_sem] theorem Ext.lt_4_4 : (n < n + 4 + a + b + c + d) = True := eq_true (by omega)
@[go_sem] theorem Ext.lt_1_4_4 : (n + 1 < n + 4 + a + b + c + d) = True := eq_true (by omega)
@[go_sem] theorem Ext.lt_2_4_4 : (n + 2 < n + 4 + a + b + c + d) = True := eq_true (by omega)
@[go_sem] theorem Ext.lt_3_4_4 : (n + 3 < n + 4 + a + b + c + d) = True := eq_true (by omega)
@[go_sem] theorem Ext.lt_4_5 : (n < n + 4 + a + b + c + d + e) = True := eq_true (by omega)
@[go_sem] theorem Ext.lt_1_4_5 : (n + 1 < n + 4 + a + b + c + d + e) = True := eq_true (by omega)
@[go_sem] theorem Ext.lt_2_4_5 : (n + 2 < n + 4 + a + b + c + d + e) = True := eq_true (by omega)
@[go_sem] theorem Ext.lt_3_4_5 : (n + 3 < n + 4 + a + b + c + d + e) = True := eq_true (by omega)
@[go_sem] theorem Ext.lt_4_6 : (n < n + 4 + a + b + c + d + e + f) = True := eq_true (by omega)
@[go_sem] theorem Ext.lt_4_7 : (n < n + 4 + a + b + c + d + e + f + g) = True := eq_true (by omega)
@[go_sem] theorem Ext.lt_4_8 : (n < n + 4 + a + b + c + d + e + f + g + h) = True := eq_true (by omega)
@[go_sem] theorem Ext.lt_5_1 : (n < n + 5 + a) = True := eq_true (by omega)
@[go_sem] theorem Ext.lt_1_5_1 : (n + 1 < n + 5 + a) = True := eq_true (by omega)
@[go_sem] theorem Ext.lt_2_5_1 : (n + 2 < n + 5 + a) = True := eq_true (by omega)
@[go_sem] theorem Ext.lt_3_5_1 : (n + 3 < n + 5 + a) = True := eq_true (by omega)
@[go_sem] theorem Ext.lt_4_5_1 : (n + 4 < n + 5 + a) = True := eq_true (by omega)
@[go_sem] theorem Ext.lt_5_2 : (n < n + 5 + a + b) = True := eq_true (by omega)
@[go_sem] theorem Ext.lt_1_5_2 : (n + 1 < n + 5 + a + b) = True := eq_true (by omega)
@[go_sem] theorem Ext.lt_2_5_2 : (n + 2 < n + 5 + a + b) = True := eq_true (by omega)
@[go_sem] theorem Ext.lt_3_5_2 : (n + 3 < n + 5 + a + b) = True := eq_true (by omega)
@[go_sem] theorem Ext.lt_4_5_2 : (n + 4 < n + 5 + a + b) = True := eq_true (by omega)
@[go_sem] theorem Ext.lt_5_3 : (n < n + 5 + a + b + c) = True := eq_true (by omega)
@[go_sem] theorem Ext.lt_1_5_3 : (n + 1 < n + 5 + a + b + c) = True := eq_true (by omega)
@[go_sem] theorem Ext.lt_2_5_3 : (n + 2 < n + 5 + a + b + c) = True := eq_true (by omega)
@[go_sem] theorem Ext.lt_3_5_3 : (n + 3 < n + 5 + a + b + c) = True := eq_true (by omega)
@[go_sem] theorem Ext.lt_4_5_3 : (n + 4 < n + 5 + a + b + c) = True := eq_true (by omega)
@[go_sem] theorem Ext.lt_5_4 : (n < n + 5 + a + b + c + d) = True := eq_true (by omega)
@[go_sem] theorem Ext.lt_1_5_4 : (n + 1 < n + 5 + a + b + c + d) = True := eq_true (by omega)
@[go_sem] theorem Ext.lt_2_5_4 : (n + 2 < n + 5 + a + b + c + d) = True := eq_true (by omega)
@[go_sem] theorem Ext.lt_3_5_4 : (n + 3 < n + 5 + a + b + c + d) = True := eq_true (by omega)
@[go_sem] theorem Ext.lt_4_5_4 : (n + 4 < n + 5 + a + b + c + d) = True := eq_true (by omega)
@[go_sem] theorem Ext.lt_5_5 : (n < n + 5 + a + b + c + d + e) = True := eq_true (by omega)
@[go_sem] theorem Ext.lt_1_5_5 : (n + 1 < n + 5 + a + b + c + d + e) = True := eq_true (by omega)
@[go_sem] theorem Ext.lt_2_5_5 : (n + 2 < n + 5 + a + b + c + d + e) = True := eq_true (by omega)
@[go_sem] theorem Ext.lt_3_5_5 : (n + 3 < n + 5 + a + b + c + d + e) = True := eq_true (by omega)
@[go_sem] theorem Ext.lt_4_5_5 : (n + 4 < n + 5 + a + b + c + d + e) = True := eq_true (by omega)
@[go_sem] theorem Ext.lt_5_6 : (n < n + 5 + a + b + c + d + e + f) = True := eq_true (by omega)
@[go_sem] theorem Ext.lt_5_7 : (n < n + 5 + a + b + c + d + e + f + g) = True := eq_true (by omega)
@[go_sem] theorem Ext.lt_5_8 : (n < n + 5 + a + b + c + d + e + f + g + h) = True := eq_true (by omega)
@[go_sem] theorem Ext.lt_6_1 : (n < n + 6 + a) = True := eq_true (by omega)
@[go_sem] theorem Ext.lt_1_6_1 : (n + 1 < n + 6 + a) = True := eq_true (by omega)
@[go_sem] theorem Ext.lt_2_6_1 : (n + 2 < n + 6 + a) = True := eq_true (by omega)
@[go_sem] theorem Ext.lt_3_6_1 : (n + 3 < n + 6 + a) = True := eq_true (by omega)
@[go_sem] theorem Ext.lt_4_6_1 : (n + 4 < n + 6 + a) = True := eq_true (by omega)
@[go_sem] theorem Ext.lt_5_6_1 : (n + 5 < n + 6 + a) = True := eq_true (by omega)
@[go_sem] theorem Ext.lt_6_2 : (n < n + 6 + a + b) = True := eq_true (by omega)
@[go_sem] theorem Ext.lt_1_6_2 : (n + 1 < n + 6 + a + b) = True := eq_true (by omega)
@[go_sem] theorem Ext.lt_2_6_2 : (n + 2 < n + 6 + a + b) = True := eq_true (by omega)
@[go_sem] theorem Ext.lt_3_6_2 : (n + 3 < n + 6 + a + b) = True := eq_true (by omega)
@[go_sem] theorem Ext.lt_4_6_2 : (n + 4 < n + 6 + a + b) = True := eq_true (by omega)
@[go_sem] theorem Ext.lt_5_6_2 : (n + 5 < n + 6 + a + b) = True := eq_true (by omega)
@[go_sem] theorem Ext.lt_6_3 : (n < n + 6 + a + b + c) = True := eq_true (by omega)
@[go_sem] theorem Ext.lt_1_6_3 : (n + 1 < n + 6 + a + b + c) = True := eq_true (by omega)
@[go_sem] theorem Ext.lt_2_6_3 : (n + 2 < n + 6 + a + b + c) = True := eq_true (by omega)
@[go_sem] theorem Ext.lt_3_6_3 : (n + 3 < n + 6 + a + b + c) = True := eq_true (by omega)
@[go_sem] theorem Ext.lt_4_6_3 : (n + 4 < n + 6 + a + b + c) = True := eq_true (by omega)
@[go_sem] theorem Ext.lt_5_6_3 : (n + 5 < n + 6 + a + b + c) = True := eq_true (by omega)
@[go_sem] theorem Ext.lt_6_4 : (n < n + 6 + a + b + c + d) = True := eq_true (by omega)
@[go_sem] theorem Ext.lt_1_6_4 : (n + 1 < n + 6 + a + b + c + d) = True := eq_true (by omega)
@[go_sem] theorem Ext.lt_2_6_4 : (n + 2 < n + 6 + a + b + c + d) = True := eq_true (by omega)
@[go_sem] theorem Ext.lt_3_6_4 : (n + 3 < n + 6 + a + b + c + d) = True := eq_true (by omega)
@[go_sem] theorem Ext.lt_4_6_4 : (n + 4 < n + 6 + a + b + c + d) = True := eq_true (by omega)
@[go_sem] theorem Ext.lt_5_6_4 : (n + 5 < n + 6 + a + b + c + d) = True := eq_true (by omega)
@[go_sem] theorem Ext.lt_6_5 : (n < n + 6 + a + b + c + d + e) = True := eq_true (by omega)
@[go_sem] theorem Ext.lt_1_6_5 : (n + 1 < n + 6 + a + b + c + d + e) = True := eq_true (by omega)
@[go_sem] theorem Ext.lt_2_6_5 : (n + 2 < n + 6 + a + b + c + d + e) = True := eq_true (by omega)
@[go_sem] theorem Ext.lt_3_6_5 : (n + 3 < n + 6 + a + b + c + d + e) = True := eq_true (by omega)
@[go_sem] theorem Ext.lt_4_6_5 : (n + 4 < n + 6 + a + b + c + d + e) = True := eq_true (by omega)
@[go_sem] theorem Ext.lt_5_6_5 : (n + 5 < n + 6 + a + b + c + d + e) = True := eq_true (by omega)
@[go_sem] theorem Ext.lt_6_6 : (n < n + 6 + a + b + c + d + e + f) = True := eq_true (by omega)
@[go_sem] theorem Ext.lt_6_7 : (n < n + 6 + a + b + c + d + e + f + g) = True := eq_true (by omega)
@[go_sem] theorem Ext.lt_6_8 : (n < n + 6 + a + b + c + d + e + f + g + h) = True := eq_true (by omega)
@[go_sem] theorem Ext.le_1 : (n ≤ n + a) = True := eq_true (by omega)
@[go_sem] theorem Ext.le_2 : (n ≤ n + a + b) = True := eq_true (by omega)
@[go_sem] theorem Ext.le_3 : (n ≤ n + a + b + c) = True := eq_true (by omega)
@[go_sem] theorem Ext.le_4 : (n ≤ n + a + b + c + d) = True := eq_true (by omega)
@[go_sem] theorem Ext.le_5 : (n ≤ n + a + b + c + d + e) = True := eq_true (by omega)
@[go_sem] theorem Ext.le_6 : (n ≤ n + a + b + c + d + e + f) = True := eq_true (by omega)
@[go_sem] theorem Ext.le_7 : (n ≤ n + a + b + c + d + e + f + g) = True := eq_true (by omega)
@[go_sem] theorem Ext.le_8 : (n ≤ n + a + b + c + d + e + f + g + h) = True := eq_true (by omega)
end

@[go_sem] theorem Ext.lt_far {a n : Nat} (h : a < n) (k : Nat) : (a < n + k) = True := eq_true (by omega)
@[go_sem] theorem Ext.ne_far {a n : Nat} (h : a < n) (k : Nat) : (a = n + k) = False := eq_false (by omega)
@[go_sem] theorem Ext.ne_far' {a n : Nat} (h : a < n) (k : Nat) : (n + k = a) = False := eq_false (by omega)
@[go_sem] theorem Ext.lt_far_2 {a n : Nat} (h : a < n) (k m : Nat) : (a < n + k + m) = True := eq_true (by omega)
@[go_sem] theorem Ext.ne_far_2 {a n : Nat} (h : a < n) (k m : Nat) : (a = n + k + m) = False := eq_false (by omega)
@[go_sem] theorem Ext.ne_far_2' {a n : Nat} (h : a < n) (k m : Nat) : (n + k + m = a) = False := eq_false (by omega)
@[go_sem] theorem Ext.lt_far_3 {a n : Nat} (h : a < n) (k m p : Nat) : (a < n + k + m + p) = True := eq_true (by omega)
@[go_sem] theorem Ext.ne_far_3 {a n : Nat} (h : a < n) (k m p : Nat) : (a = n + k + m + p) = False := eq_false (by omega)
@[go_sem] theorem Ext.ne_far_3' {a n : Nat} (h : a < n) (k m p : Nat) : (n + k + m + p = a) = False := eq_false (by omega)
@[go_sem] theorem Ext.lt_far_4 {a n : Nat} (h : a < n) (k m p q : Nat) : (a < n + k + m + p + q) = True := eq_true (by omega)
@[go_sem] theorem Ext.ne_far_4 {a n : Nat} (h : a < n) (k m p q : Nat) : (a = n + k + m + p + q) = False := eq_false (by omega)
@[go_sem] theorem Ext.ne_far_4' {a n : Nat} (h : a < n) (k m p q : Nat) : (n + k + m + p + q = a) = False := eq_false (by omega)
@[go_sem] theorem Ext.lt_far_5 {a n : Nat} (h : a < n) (k m p q r : Nat) : (a < n + k + m + p + q + r) = True := eq_true (by omega)
@[go_sem] theorem Ext.ne_far_5 {a n : Nat} (h : a < n) (k m p q r : Nat) : (a = n + k + m + p + q + r) = False := eq_false (by omega)
@[go_sem] theorem Ext.ne_far_5' {a n : Nat} (h : a < n) (k m p q r : Nat) : (n + k + m + p + q + r = a) = False := eq_false (by omega)
@[go_sem] theorem Ext.lt_far_6 {a n : Nat} (h : a < n) (k m p q r t : Nat) : (a < n + k + m + p + q + r + t) = True := eq_true (by omega)
@[go_sem] theorem Ext.ne_far_6 {a n : Nat} (h : a < n) (k m p q r t : Nat) : (a = n + k + m + p + q + r + t) = False := eq_false (by omega)
@[go_sem] theorem Ext.ne_far_6' {a n : Nat} (h : a < n) (k m p q r t : Nat) : (n + k + m + p + q + r + t = a) = False := eq_false (by omega)
@[go_sem] theorem Ext.ne_far0 {a n : Nat} (h : a < n) : (a = n) = False := eq_false (by omega)
@[go_sem] theorem Ext.ne_far0' {a n : Nat} (h : a < n) : (n = a) = False := eq_false (by omega)
def Ext.cat (X Y : Ext) : Ext := ⟨X.blocks ++ Y.blocks, Y.draws⟩
@[simp] theorem Ext.size_cat (X Y : Ext) : (X.cat Y).blocks.size = X.blocks.size + Y.blocks.size := by simp [Ext.cat]
@[go_sem] theorem World.ext_ext (w : World) (X Y : Ext) : (w.ext X).ext Y = w.ext (X.cat Y) := by simp [World.ext, Ext.cat]

section
variable {P : Program}
theorem Calls.ext_of {f : FuncId} {args : Array Value} {w : World} {X : Ext} {v : Value}
    (h : Calls P f args (w.ext X) fun e w' => e = .returned v ∧ Below (w.ext X).heap.size (w.ext X) w') : Calls P f args (w.ext X) fun e w'' => e = .returned v ∧ ∃ Y, w'' = w.ext Y :=
  h.mono fun _ _ ⟨he, hb⟩ => ⟨he, World.ext_of_below ((World.below_ext w X).trans (hb.mono (by simp [World.size_ext])))⟩
theorem Calls.ext_same {f : FuncId} {args : Array Value} {w : World} {X : Ext} {v : Value}
    (h : Calls P f args (w.ext X) fun e w' => e = .returned v ∧ w.ext X = w') : Calls P f args (w.ext X) fun e w'' => e = .returned v ∧ ∃ Y, w'' = w.ext Y :=
  h.mono fun _ _ ⟨he, hb⟩ => ⟨he, X, hb.symm⟩

theorem Calls.cat_of {f : FuncId} {args : Array Value} {w : World} {X : Ext} {v : Value}
    (h : Calls P f args (w.ext X) fun e w' => e = .returned v ∧ Below (w.ext X).heap.size (w.ext X) w') : Calls P f args (w.ext X) fun e w'' => e = .returned v ∧ ∃ Y, w'' = w.ext (X.cat Y) :=
  h.mono fun _ _ ⟨he, hb⟩ => ⟨he, by obtain ⟨Y, rfl⟩ := World.ext_of_below hb; exact ⟨Y, World.ext_ext _ _ _⟩⟩
theorem Calls.cat_same {f : FuncId} {args : Array Value} {w : World} {X : Ext} {v : Value}
    (h : Calls P f args (w.ext X) fun e w' => e = .returned v ∧ w.ext X = w') : Calls P f args (w.ext X) fun e w'' => e = .returned v ∧ ∃ Y, w'' = w.ext (X.cat Y) :=
  h.mono fun _ _ ⟨he, hb⟩ => ⟨he, ⟨#[], X.draws⟩, by rw [← hb]; simp [World.ext, Ext.cat]⟩

/-- A region that draws its order, each of whose operations reads old memory alone, its calls making new memory at most. -/
theorem wp_region_ext_lit {id : Nat} {Q : Exit → Act → World → Prop} {a : Act} {w : World} {l : List Oper} (hm : P.follows .mixedOrders = true) (hB : Region.lexB .any l.toArray = true)
    (h : wpQuiet P l.toArray (fun w' => ∃ X, w' = w.ext X) (fun a' => ∀ w', (∃ X, w' = w.ext X) → Q .normal a' w') l a) : (Code.region id l.toArray true).wp P Q a w :=
  wp_region_quiet (C := fun w' => ∃ X, w' = w.ext X) hm hB ⟨⟨#[], w.drawn + 1⟩, by simp [World.ext]⟩ (by simpa using h)
end

/-- An append onto a row of the call's own keeps all that lies below. -/
theorem own_below {B base e size n : Nat} {w₀ w w' : World} {v : Value} {xs : List Value} (hb : Below B w₀ w) (hown : w.ownsRow base e size v n xs) (hg : w.grownBy w' v.ownBlock) (hB : B ≤ base) (hs : B ≤ w.heap.size) : Below B w₀ w' :=
  hb.grown hg hs (fun k hk => by
    rcases hown.2 with ⟨rfl, _⟩ | ⟨g, cap, cur, rfl, hbg, _⟩
    · simp [Value.ownBlock] at hk
    · have : g = k := by simpa [Value.ownBlock] using hk
      omega)
theorem cells_new (w : World) (cs : Array Value) (t : TypeId) : ∀ j u, cs.toList[j]? = some u → (w.alloc (.cells cs t)).cell? ((⟨w.heap.size, 0, none⟩ : Addr).add j) = some u := by
  intro j u h
  have : (⟨w.heap.size, 0, none⟩ : Addr).add j = ⟨w.heap.size, j, none⟩ := by
    unfold Addr.add
    split
    · rename_i h0; rw [h0]
    · simp
  rw [this, World.cell?_alloc_new]
  simpa using h
theorem cells_new_at (w : World) (cs : Array Value) (t : TypeId) {g : Nat} (hg : g = w.heap.size) : ∀ j u, cs.toList[j]? = some u → (w.alloc (.cells cs t)).cell? ((⟨g, 0, none⟩ : Addr).add j) = some u := hg ▸ cells_new w cs t
theorem cells_new4 (w : World) (a b c d : Value) (t : TypeId) : ∀ j u, [a, b, c, d][j]? = some u → (w.alloc (.cells #[a, b, c, d] t)).cell? ((⟨w.heap.size, 0, none⟩ : Addr).add j) = some u := cells_new w #[a, b, c, d] t
theorem own_base {base base' : Nat} {e : TypeId} {size n : Nat} {w : World} {v : Value} {xs : List Value} (h : w.ownsRow base e size v n xs) (hb : base' ≤ base) : w.ownsRow base' e size v n xs := by
  refine ⟨h.1, ?_⟩
  rcases h.2 with h2 | ⟨g, cap, cur, hv, hg, r⟩
  · exact .inl h2
  · exact .inr ⟨g, cap, cur, hv, Nat.le_trans hb hg, r⟩
theorem hide {p : Prop} (h : p) : Hid p := h
theorem blk_cell {w : World} {n : Nat} {cs : Array Value} {t : TypeId} {fr : Nat × Nat} (h : w.heap[n]? = some (.cells cs t fr)) : ∀ o, w.cell? ⟨n, o, none⟩ = cs[o]? := fun o => by simp [World.cell?, h]
theorem blk_frozen {w : World} {n : Nat} {cs : Array Value} {t : TypeId} (h : w.heap[n]? = some (.cells cs t (0, 0))) : ∀ o, w.frozen? ⟨n, o, none⟩ = false := fun o => by simp [World.frozen?, h]
theorem blk_lt {w : World} {n : Nat} {o : Obj} (h : w.heap[n]? = some o) : n < w.heap.size := by
  rcases Nat.lt_or_ge n w.heap.size with h' | h'
  · exact h'
  · rw [Array.getElem?_eq_none h'] at h; cases h
theorem Below.ext {B : Nat} {a w : World} (h : Below B a w) (hB : B ≤ w.heap.size) (X : Ext) : Below B a (w.ext X) := h.trans ((World.below_ext w X).mono hB)

/-- The world, with what is known of it alone. -/
theorem abstr {α : Type} {F : α → World → Prop} {a : α} {W : World} (p : World → Prop) (hp : p W) (h : ∀ W', p W' → F a W') : F a W := h W hp

/-! A law: its walk lifted to the given statement's form. -/
section
open Go.ChangeShapes Go.WideShapes Go.ChangeAt
variable {H : Type} {enc : TypeId × Value → H}

theorem trodAll_stays {P : Program} (hl : laidOutB P = true) {W W' : World} {sp : Nat → Bool} :
    ∀ {ts : List TypeId} {vs : List Value} {ds : List (DataW H)} {ps : List MemPlace}, (∀ t ∈ ts, P.readableRec t = true ∧ t < P.types.size) → DataW.TrodAll enc P W 0 (fun _ => true) true ts vs ds ps →
      (∀ p ∈ ps, W.sameAt W' p) → (∀ p ∈ ps, sp p.block = true) → DataW.TrodAll enc P W' 0 sp true ts vs ds ps
  | [], _, _, _, _, h, _, _ => by obtain ⟨rfl, rfl, rfl⟩ := trodAll_nil h; exact trodAll_mk0
  | t :: ts, _, _, _, hr, h, hs, hp => by
    obtain ⟨v, vs', d, ds', p, q, rfl, rfl, rfl, h1, h2⟩ := trodAll_cons h
    exact trodAll_cons_mk (WideElems.Trod_stays hl (hr t (by simp)).1 (hr t (by simp)).2 h1 (fun x hx => hs x (by simp [hx])) (fun x hx => hp x (by simp [hx])))
      (trodAll_stays hl (fun t' ht' => hr t' (by simp [ht'])) h2 (fun x hx => hs x (by simp [hx])) (fun x hx => hp x (by simp [hx])))

theorem trodAll_length {P : Program} {w : World} {base : Nat} {sp : Nat → Bool} {held : Bool} :
    ∀ {ts : List TypeId} {vs : List Value} {ds : List (DataW H)} {ps : List MemPlace}, DataW.TrodAll enc P w base sp held ts vs ds ps → vs.length = ts.length ∧ ds.length = ts.length
  | [], _, _, _, h => by obtain ⟨rfl, rfl, rfl⟩ := trodAll_nil h; exact ⟨rfl, rfl⟩
  | t :: ts, _, _, _, h => by
    obtain ⟨v, vs', d, ds', p, q, rfl, rfl, rfl, h1, h2⟩ := trodAll_cons h
    have := trodAll_length h2
    simp [this.1, this.2]

theorem post_of_below {P : Program} {f : Func} {s : ChangeSpec} {apart fresh handsOn again : Bool} {W W' : World} {args : Array Value} {v : Value} {ds gs : List (DataW H)} {before pa pv : List MemPlace}
    (hW : DataW.Whole enc P f.params.toList s.vars apart W args.toList ds gs before)
    (hres : ∀ (b : Nat) (sp : Nat → Bool) (hd : Bool), DataW.TrodAll enc P W' b sp hd f.resultTypes.toList (v.resultList f.resultTypes.size) (s.fn H (ds ++ gs)).results [])
    (hargs : ∀ sp : Nat → Bool, (∀ p ∈ before, sp p.block = true) → DataW.TrodAll enc P W' 0 sp true f.params.toList args.toList (s.fn H (ds ++ gs)).args pa)
    (hvars : ∀ sp : Nat → Bool, (∀ p ∈ before, sp p.block = true) → DataW.TrodVars enc P W' sp s.vars (s.fn H (ds ++ gs)).vars pv)
    (hps : before = pa ++ pv) (hb : Below W.heap.size W W')
    (hok : ∀ (j : Nat) (t : TypeId) (r : Value), f.resultTypes[j]? = some t → (v.resultList f.resultTypes.size)[j]? = some r → Value.okWide P W' .any 0 t r) :
    s.post enc P f apart fresh handsOn again W args v W' := by
  have hlt : ∀ p ∈ before, p.block < W.heap.size := fun p hp => hW.lt p hp
  have hold : ∀ p ∈ before, (fun b => decide (b < W.heap.size)) p.block = true := fun p hp => by simpa using hlt p hp
  refine ⟨ds, gs, before, [], pa, pv, hW, hres _ _ _, hargs _ hold, hvars _ hold, World.keptBut_mono (fun p hp => ⟨hp, ?_⟩) (hb.frame (· ∈ before)), fun _ => ?_⟩
  · rw [hps, List.mem_append] at hp
    exact Or.inr hp
  · obtain ⟨_, _, _, _, _, hz, hn⟩ := hW
    refine ⟨hok, _, _, ([] ++ pa) ++ pv, ⟨[] ++ pa, pv, trodAll_append (hargs _ (fun _ _ => rfl)) (hres _ _ _), hvars _ (fun _ _ => rfl), rfl, ?_, ?_⟩, ?_⟩
    · intro b off hp
      have hin : MemPlace.cell b off ∈ before := by rw [hps]; simpa using hp
      rw [hb.frozen (hlt _ hin)]
      exact hz b off hin
    · intro ha
      have := hn ha
      rw [hps] at this
      simpa using this
    · intro p hp _
      rw [hps]
      simpa using hp

theorem list1 {α : Type} {l : List α} (h : l.length = 1) : ∃ a, l = [a] := by
  match l, h with | [a], _ => exact ⟨a, rfl⟩
theorem list2 {α : Type} {l : List α} (h : l.length = 2) : ∃ a b, l = [a, b] := by
  match l, h with | [a, b], _ => exact ⟨a, b, rfl⟩
theorem list3 {α : Type} {l : List α} (h : l.length = 3) : ∃ a b c, l = [a, b, c] := by
  match l, h with | [a, b, c], _ => exact ⟨a, b, c, rfl⟩
theorem list4 {α : Type} {l : List α} (h : l.length = 4) : ∃ a b c d, l = [a, b, c, d] := by
  match l, h with | [a, b, c, d], _ => exact ⟨a, b, c, d, rfl⟩
theorem list5 {α : Type} {l : List α} (h : l.length = 5) : ∃ a b c d e, l = [a, b, c, d, e] := by
  match l, h with | [a, b, c, d, e], _ => exact ⟨a, b, c, d, e, rfl⟩
theorem list6 {α : Type} {l : List α} (h : l.length = 6) : ∃ a b c d e f, l = [a, b, c, d, e, f] := by
  match l, h with | [a, b, c, d, e, f], _ => exact ⟨a, b, c, d, e, f, rfl⟩

/-- What a law's walk must show: called with arguments that read, it returns true, and what was there stays. -/
def LawWalk (enc : TypeId × Value → H) (P : Program) (f : FuncId) (fn : Func) : Prop :=
  ∀ (W : World) (base : Nat) (args : Array Value) (ds : List (DataW H)) (ps : List MemPlace),
    (∀ (j : Nat) t v, fn.params[j]? = some t → args[j]? = some v → Value.okWide P W .any base t v) →
    DataW.TrodAll enc P W 0 (fun _ => true) true fn.params.toList args.toList ds ps → (∀ p ∈ ps, p.block < W.heap.size) → W.noneFrozen ps →
    Calls P f args W fun e W' => e = .returned (.bool true) ∧ Below W.heap.size W W'

theorem law_lifted {C : Checked} {os : Os} {f : FuncId} {fn : Func} {s : ChangeSpec} {tb : TypeId}
    (own : ownKnob C.prog.godebug = none) (started : os.Started) (noInit : C.prog.inits.idxOf? f = none) (hfn : C.prog.funcs[f]? = some fn)
    (hl : laidOutB C.prog = true) (hr : (fn.params.toList.all fun t => C.prog.readableRec t && decide (t < C.prog.types.size)) = true)
    (hres : fn.resultTypes = #[tb]) (hb : C.prog.underlying tb = some .bool) (hv : s.vars = [])
    (hs : ∀ ds : List (DataW H), ds.length = fn.params.size → s.fn H ds = { results := [.lit (.bool true)], args := ds })
    (witness : ∃ (w : World) (tape : Tape) (i : Input), w.os = os ∧ (w.forCall tape i).Shaped C.prog ∧ i.vars = [] ∧ Input.okWide C.prog (w.forCall tape i) .any w.heap.size f i ∧
      s.pre6 enc C.prog fn [] false (w.forCall tape i).memory i.args ∧ Assume.holds {} C.prog (lone (Frame.enter C.prog f i.args .normal) [] (w.forCall tape i)))
    (walk : LawWalk enc C.prog f fn) :
    ReturnsInHanded {} C os f .any (s.pre6 enc C.prog fn [] false) (s.post enc C.prog fn false true false false) := by
  refine returnsInHanded_of_change own started noInit hfn witness ?_
  intro W base args ds gs before hval hW _ _
  have hW' := hW
  have hlt : ∀ p ∈ before, p.block < W.heap.size := fun p hp => hW'.lt p hp
  obtain ⟨p, q, hA, hV, hpq, hfz, hnd⟩ := hW
  rw [hv] at hV
  obtain ⟨rfl, rfl⟩ := trodVars_none hV
  simp only [List.append_nil] at hpq
  subst hpq
  have hlen := trodAll_length hA
  have hfn' := hs ds (by rw [hlen.2]; simp)
  refine (walk W base args ds before hval hA hlt hfz).mono fun e W' ⟨he, hg⟩ => ?_
  subst he
  refine ⟨_, rfl, post_of_below (pa := before) (pv := []) hW' ?_ ?_ ?_ (by simp) hg ?_⟩
  · intro b sp hd
    rw [List.append_nil, hfn', hres]
    exact trodAll_mk1 (shut_bool hb true)
  · intro sp hsp
    rw [List.append_nil, hfn']
    have hr' : ∀ t ∈ fn.params.toList, C.prog.readableRec t = true ∧ t < C.prog.types.size := fun t ht => by
      have := List.all_eq_true.1 hr t ht
      simpa using this
    exact trodAll_stays hl hr' hA (fun x hx => hg.same (hlt x hx)) hsp
  · intro sp _
    rw [hv, List.append_nil, hfn']
    rfl
  · exact ok_one hres rfl (okWide_bool_mk hb true)
/-- .. where each argument's memory is within the form's reach. -/
def LawWalkS (enc : TypeId × Value → H) (P : Program) (f : FuncId) (fn : Func) : Prop :=
  ∀ (W : World) (base : Nat) (args : Array Value) (ds : List (DataW H)) (ps : List MemPlace),
    (∀ (j : Nat) t v, fn.params[j]? = some t → args[j]? = some v → Value.okWide P W .any base t v) →
    DataW.TrodAll enc P W 0 (fun _ => true) true fn.params.toList args.toList ds ps → (∀ p ∈ ps, p.block < W.heap.size) → W.noneFrozen ps →
    (DataW.weightsEach P fn.params.toList ds).all (· ≤ reachBytes) = true →
    Calls P f args W fun e W' => e = .returned (.bool true) ∧ Below W.heap.size W W'
/-- .. where the arguments are within a bound too. -/
def LawWalkU (enc : TypeId × Value → H) (P : Program) (f : FuncId) (fn : Func) (k : (H : Type) → List (DataW H) → Bool) : Prop :=
  ∀ (W : World) (base : Nat) (args : Array Value) (ds : List (DataW H)) (ps : List MemPlace),
    (∀ (j : Nat) t v, fn.params[j]? = some t → args[j]? = some v → Value.okWide P W .any base t v) →
    DataW.TrodAll enc P W 0 (fun _ => true) true fn.params.toList args.toList ds ps → (∀ p ∈ ps, p.block < W.heap.size) → W.noneFrozen ps →
    k H ds = true → (DataW.weightsEach P fn.params.toList ds).all (· ≤ reachBytes) = true →
    Calls P f args W fun e W' => e = .returned (.bool true) ∧ Below W.heap.size W W'

theorem law_post {C : Checked} {fn : Func} {s : ChangeSpec} {tb : TypeId} {W W' : World} {args : Array Value} {ds gs : List (DataW H)} {before : List MemPlace}
    (hl : laidOutB C.prog = true) (hr : (fn.params.toList.all fun t => C.prog.readableRec t && decide (t < C.prog.types.size)) = true)
    (hres : fn.resultTypes = #[tb]) (hb : C.prog.underlying tb = some .bool) (hv : s.vars = [])
    (hs : ∀ ds : List (DataW H), ds.length = fn.params.size → s.fn H ds = { results := [.lit (.bool true)], args := ds })
    (hW : DataW.Whole enc C.prog fn.params.toList s.vars false W args.toList ds gs before) (hg : Below W.heap.size W W') :
    s.post enc C.prog fn false true false false W args (.bool true) W' := by
  have hW' := hW
  have hlt : ∀ p ∈ before, p.block < W.heap.size := fun p hp => hW'.lt p hp
  obtain ⟨p, q, hA, hV, hpq, hfz, hnd⟩ := hW
  rw [hv] at hV
  obtain ⟨rfl, rfl⟩ := trodVars_none hV
  simp only [List.append_nil] at hpq
  subst hpq
  have hlen := trodAll_length hA
  have hfn' := hs ds (by rw [hlen.2]; simp)
  refine post_of_below (pa := before) (pv := []) hW' ?_ ?_ ?_ (by simp) hg ?_
  · intro b sp hd
    rw [List.append_nil, hfn', hres]
    exact trodAll_mk1 (shut_bool hb true)
  · intro sp hsp
    rw [List.append_nil, hfn']
    have hr' : ∀ t ∈ fn.params.toList, C.prog.readableRec t = true ∧ t < C.prog.types.size := fun t ht => by
      have := List.all_eq_true.1 hr t ht
      simpa using this
    exact trodAll_stays hl hr' hA (fun x hx => hg.same (hlt x hx)) hsp
  · intro sp _
    rw [hv, List.append_nil, hfn']
    rfl
  · exact ok_one hres rfl (okWide_bool_mk hb true)

theorem law_lifted_sized {C : Checked} {os : Os} {f : FuncId} {fn : Func} {s : ChangeSpec} {tb : TypeId}
    (own : ownKnob C.prog.godebug = none) (started : os.Started) (noInit : C.prog.inits.idxOf? f = none) (hfn : C.prog.funcs[f]? = some fn)
    (hl : laidOutB C.prog = true) (hr : (fn.params.toList.all fun t => C.prog.readableRec t && decide (t < C.prog.types.size)) = true)
    (hres : fn.resultTypes = #[tb]) (hb : C.prog.underlying tb = some .bool) (hv : s.vars = []) (hvt : s.plain.varTypes C.prog = [])
    (hs : ∀ ds : List (DataW H), ds.length = fn.params.size → s.fn H ds = { results := [.lit (.bool true)], args := ds })
    (witness : ∃ (w : World) (tape : Tape) (i : Input), w.os = os ∧ (w.forCall tape i).Shaped C.prog ∧ i.vars = [] ∧ Input.okWide C.prog (w.forCall tape i) .any w.heap.size f i ∧
      s.pre6 enc C.prog fn [] false (w.forCall tape i).memory i.args ∧ Assume.holds {} C.prog (lone (Frame.enter C.prog f i.args .normal) [] (w.forCall tape i)))
    (walk : LawWalkS enc C.prog f fn) :
    ReturnsInHanded {} C os f .any (s.pre6 enc C.prog fn [] false) (s.post enc C.prog fn false true false false) := by
  refine returnsInHanded_of_change_sized own started noInit hfn witness ?_
  intro W base args ds gs before hval hW _ hsz _
  have hW' := hW
  have hlt : ∀ p ∈ before, p.block < W.heap.size := fun p hp => hW'.lt p hp
  obtain ⟨p, q, hA, hV, hpq, hfz, hnd⟩ := hW
  rw [hv] at hV
  obtain ⟨rfl, rfl⟩ := trodVars_none hV
  simp only [List.append_nil] at hpq
  subst hpq
  rw [hvt, List.append_nil, List.append_nil] at hsz
  refine (walk W base args ds before hval hA hlt hfz hsz).mono fun e W' ⟨he, hg⟩ => ?_
  exact ⟨_, he, law_post hl hr hres hb hv hs hW' hg⟩

theorem law_lifted_upto {C : Checked} {os : Os} {f : FuncId} {fn : Func} {s : OpenSpec} {s0 : ChangeSpec} {tb : TypeId} {k : (H : Type) → List (DataW H) → Bool} (hk : s.cond = some k) {F : Stop.Interp} (hsF : s.at F = s0)
    (own : ownKnob C.prog.godebug = none) (started : os.Started) (noInit : C.prog.inits.idxOf? f = none) (hfn : C.prog.funcs[f]? = some fn)
    (hl : laidOutB C.prog = true) (hr : (fn.params.toList.all fun t => C.prog.readableRec t && decide (t < C.prog.types.size)) = true)
    (hres : fn.resultTypes = #[tb]) (hb : C.prog.underlying tb = some .bool) (hv : s0.vars = []) (hsv : s.vars = s0.vars) (hvt : s.bare.plain.varTypes C.prog = [])
    (hs : ∀ ds : List (DataW H), ds.length = fn.params.size → s0.fn H ds = { results := [.lit (.bool true)], args := ds })
    (witness : ∃ (w : World) (tape : Tape) (i : Input), w.os = os ∧ (w.forCall tape i).Shaped C.prog ∧ i.vars = [] ∧ Input.okWide C.prog (w.forCall tape i) .any w.heap.size f i ∧
      s.pre6 enc C.prog fn [] false (w.forCall tape i).memory i.args ∧ Assume.holds {} C.prog (lone (Frame.enter C.prog f i.args .normal) [] (w.forCall tape i)))
    (walk : LawWalkU enc C.prog f fn k) :
    ReturnsInHanded {} C os f .any (s.pre6 enc C.prog fn [] false) ((s.at F).post enc C.prog fn false true false false) := by
  refine returnsInHanded_of_cond_sized hk own started noInit hfn witness ?_
  intro W base args ds gs before hval hW _ hkk hsz _
  rw [hsv] at hW
  have hW' := hW
  have hlt : ∀ p ∈ before, p.block < W.heap.size := fun p hp => hW'.lt p hp
  obtain ⟨p, q, hA, hV, hpq, hfz, hnd⟩ := hW
  rw [hv] at hV
  obtain ⟨rfl, rfl⟩ := trodVars_none hV
  simp only [List.append_nil] at hpq hkk
  subst hpq
  rw [hvt, List.append_nil, List.append_nil] at hsz
  refine (walk W base args ds before hval hA hlt hfz hkk hsz).mono fun e W' ⟨he, hg⟩ => ?_
  rw [hsF]
  exact ⟨_, he, law_post hl hr hres hb hv hs hW' hg⟩
end

/-! Words for memory: a block that is known whole; a slice that reads as a list. -/
section
open Go.RowKit
theorem block_of_add (a : Addr) (n : Nat) : (a.add n).block = a.block := by unfold Addr.add; split <;> rfl
theorem add_of_add (a : Addr) (i j : Nat) : (a.add i).add j = a.add (i + j) := by
  unfold Addr.add
  by_cases hi : i = 0 <;> by_cases hj : j = 0 <;> simp [hi, hj, Nat.add_assoc]
theorem add_plain (b o i : Nat) : (⟨b, o, none⟩ : Addr).add i = ⟨b, o + i, none⟩ := by
  unfold Addr.add
  split
  · rename_i h0; rw [h0]; rfl
  · rfl

def Reads (w : World) (B size : Nat) (A : Option Addr) (n : Nat) (xs : List Value) : Prop :=
  xs.length = n * size ∧ (0 < n → ∃ ad, A = some ad ∧ ad.block < B ∧ ∀ j u, xs[j]? = some u → w.cell? (ad.add j) = some u)

section
variable {w w' : World} {B B' size n : Nat} {A : Option Addr} {xs : List Value}
theorem Reads.none_ : Reads w B size A 0 [] := ⟨by simp, fun h => absurd h (by omega)⟩
theorem Reads.keep (h : Reads w B size A n xs) (hk : ∀ p : Addr, p.block < B → w'.cell? p = w.cell? p) : Reads w' B size A n xs :=
  ⟨h.1, fun hn => by
    obtain ⟨ad, e, hb, hc⟩ := h.2 hn
    exact ⟨ad, e, hb, fun j u hu => (hk _ (by rw [block_of_add]; exact hb)).trans (hc j u hu)⟩⟩
theorem Reads.more (h : Reads w B size A n xs) (hB : B ≤ B') : Reads w B' size A n xs :=
  ⟨h.1, fun hn => by
    obtain ⟨ad, e, hb, hc⟩ := h.2 hn
    exact ⟨ad, e, by omega, hc⟩⟩
theorem Reads.below (h : Reads w B size A n xs) (hb : Below B w w') : Reads w' B size A n xs := h.keep fun _ hp => hb.cell hp
theorem Reads.ext (h : Reads w B size A n xs) (hB : B ≤ w.heap.size) (X : Ext) : Reads (w.ext X) B size A n xs := h.keep fun _ hp => World.cell?_ext (Nat.lt_of_lt_of_le hp hB)
theorem Reads.cat_ {X : Ext} (h : Reads (w.ext X) B size A n xs) (hB : B ≤ (w.ext X).heap.size) (Y : Ext) : Reads (w.ext (X.cat Y)) B size A n xs := by rw [← World.ext_ext]; exact h.ext hB Y
theorem Reads.grown (h : Reads w w.heap.size size A n xs) (X : Ext) : Reads (w.ext X) (w.ext X).heap.size size A n xs := (h.ext (Nat.le_refl _) X).more (by simp [World.size_ext])
theorem Reads.alloc (h : Reads w B size A n xs) (hB : B ≤ w.heap.size) (o : Obj) : Reads (w.alloc o) B size A n xs := h.keep fun p hp => World.cell?_alloc_lt w o p (by omega)
theorem Reads.setCell (h : Reads w B size A n xs) {p : Addr} (hB : B ≤ p.block) (u : Value) : Reads (w.setCell p u) B size A n xs :=
  h.keep fun q hq => World.cell?_setCell_other w p q u (fun e => by subst e; omega)
theorem Reads.plain (h : Reads w B size A n xs) (hn : 0 < n) (hs : 0 < size) : ∃ b o, A = some ⟨b, o, none⟩ ∧ b < B ∧ ∀ j u, xs[j]? = some u → w.cell? ⟨b, o + j, none⟩ = some u := by
  obtain ⟨⟨b, o, s⟩, rfl, hb, hc⟩ := h.2 hn
  have hl : 0 < xs.length := by rw [h.1]; exact Nat.mul_pos hn hs
  have h0 := hc 0 xs[0] (List.getElem?_eq_getElem hl)
  have : s = none := by
    cases s with
    | none => rfl
    | some k => simp [Addr.add, World.cell?] at h0; split at h0 <;> cases h0
  subst this
  exact ⟨b, o, rfl, hb, fun j u hu => by rw [← add_plain]; exact hc j u hu⟩
theorem Reads.of_own {base : Nat} {e : TypeId} {c : Nat} (h : w.ownsRow base e size (.slice A n c) n xs) : Reads w w.heap.size size A n xs := by
  refine ⟨h.1, fun hn => ?_⟩
  rcases h.2 with ⟨_, h0⟩ | ⟨g, cap, cur, hv, _, hh, hnc, _, hsz, htk⟩
  · omega
  · have hA : A = some ⟨g, 0, none⟩ := by injection hv
    subst hA
    refine ⟨_, rfl, blk_lt hh, fun j u hu => ?_⟩
    rw [add_plain, Nat.zero_add, blk_cell hh]
    subst htk
    rw [List.getElem?_take] at hu
    split at hu
    · simpa using hu
    · cases hu
end

def Blk (w : World) (g : Nat) (t : TypeId) (cs : Array Value) : Prop := w.heap[g]? = some (.cells cs t (0, 0))
section
variable {w w' : World} {g : Nat} {t : TypeId} {cs : Array Value}
theorem Blk.lt (h : Blk w g t cs) : g < w.heap.size := blk_lt h
theorem Blk.cell (h : Blk w g t cs) (i : Nat) : w.cell? ⟨g, i, none⟩ = cs[i]? := blk_cell h i
theorem Blk.frozen (h : Blk w g t cs) (i : Nat) : w.frozen? ⟨g, i, none⟩ = false := blk_frozen h i
theorem Blk.new (w : World) (t : TypeId) (cs : Array Value) : Blk (w.alloc (.cells cs t)) w.heap.size t cs := heap_alloc_new w _
theorem Blk.drew (h : Blk w g t cs) : Blk w.drew g t cs := h
theorem Blk.alloc (h : Blk w g t cs) (o : Obj) : Blk (w.alloc o) g t cs := (Below.heap_alloc w o g h.lt).trans h
theorem Blk.ext (h : Blk w g t cs) (X : Ext) : Blk (w.ext X) g t cs := (World.heap_ext h.lt).trans h
theorem Blk.set_ (h : Blk w g t cs) (i : Nat) (u : Value) : Blk (w.setCell ⟨g, i, none⟩ u) g t (cs.setIfInBounds i u) := by
  unfold Blk at h ⊢
  simp [World.setCell, Array.getElem?_modify, h]
theorem Blk.set_to {cs' : Array Value} {i : Nat} {u : Value} (h : Blk w g t cs) (e : cs' = cs.setIfInBounds i u) : Blk (w.setCell ⟨g, i, none⟩ u) g t cs' := e ▸ h.set_ i u
theorem Blk.two {a b u v : Value} (h : Blk w g t #[a, b]) : Blk ((w.setCell ⟨g, 0, none⟩ u).setCell ⟨g, 1, none⟩ v) g t #[u, v] := (h.set_ 0 u).set_ 1 v
theorem Blk.three {a b c u v x : Value} (h : Blk w g t #[a, b, c]) : Blk (((w.setCell ⟨g, 0, none⟩ u).setCell ⟨g, 1, none⟩ v).setCell ⟨g, 2, none⟩ x) g t #[u, v, x] := ((h.set_ 0 u).set_ 1 v).set_ 2 x
theorem Blk.far (h : Blk w g t cs) {p : Addr} (hp : g ≠ p.block) (u : Value) : Blk (w.setCell p u) g t cs := (Below.heap_setCell w p u g hp).trans h
theorem Blk.below {B : Nat} (h : Blk w g t cs) (hb : Below B w w') (hg : g < B) : Blk w' g t cs := (hb.block g hg).trans h
theorem Blk.own (h : Blk w g t cs) {b size n cap : Nat} {xs : List Value} (hb : b ≤ g) (hn : n ≤ cap) (hm : cap ≤ maxLen) (hs : cs.size = cap * size) (hx : cs.toList.take (n * size) = xs) (hl : xs.length = n * size) :
    w.ownsRow b t size (.slice (some ⟨g, 0, none⟩) n cap) n xs := ⟨hl, .inr ⟨g, cap, cs, rfl, hb, h, hn, hm, hs, hx⟩⟩
end
end

/-- A function's end whose first result is a struct in memory. -/
theorem bodyPost_cell_tmp {P : Program} {fn : Func} {R : Ending → World → Prop} {a : Act} {w : World} {p u g : Nat} {t ty : TypeId} {cs : Array Value} {d : TypeDesc} (h : fn.results = #[.cell p ty, .tmp u])
    (hp : a.tmps.getD p undef = .pointer (some ⟨g, 0, none⟩)) (hB : Blk w g t cs) (hu : P.underlying ty = some d) (hd : (match d with | .struct _ | .array _ _ => true | _ => false) = true) (hi : (P.info? ty).map (·.size) = some cs.size)
    (hdf : a.defers = []) (hR : R (.returned (.tuple #[.agg cs, a.tmps.getD u undef])) w) : bodyPost P fn R .ret a w :=
  bodyPost_ret (by rw [results_cell_tmp h, hp]; simp only [asAddr, Sem.run_pure, Result.andThen_ok, run_loadVar_row w g t ty cs (0, 0) d hB hu hd hi]) hdf hR
/-- .. whose only result is one. -/
theorem bodyPost_cell {P : Program} {fn : Func} {R : Ending → World → Prop} {a : Act} {w : World} {p g : Nat} {t ty : TypeId} {cs : Array Value} {d : TypeDesc} (h : fn.results = #[.cell p ty])
    (hp : a.tmps.getD p undef = .pointer (some ⟨g, 0, none⟩)) (hB : Blk w g t cs) (hu : P.underlying ty = some d) (hd : (match d with | .struct _ | .array _ _ => true | _ => false) = true) (hi : (P.info? ty).map (·.size) = some cs.size)
    (hdf : a.defers = []) (hR : R (.returned (.agg cs)) w) : bodyPost P fn R .ret a w :=
  bodyPost_ret (by
    have hp' := hp
    rw [Array.getD_eq_getD_getElem?] at hp'
    simp only [results, h]
    simp [hp', asAddr, run_loadVar_row w g t ty cs (0, 0) d hB hu hd hi]) hdf hR
end Go

/-! A REGION THAT DRAWS ITS ORDER: first operations that yield one value in whatever world has grown from the region's (their calls making new memory at most), and allocations beside them; then a tail in one order. -/
namespace Go.Grow
open Go.RowKit
section
variable {P : Program} {ops : Array Oper} {md : Region.Mode} {w₀ : World}

def upon (P : Program) (w : World) (v : Value) : Result Next → Prop
  | .ok (.value u) w' => w' = w ∧ u = v
  | .ok .skip w' => w' = w ∧ v = undef
  | .ok (.enter f args) w' => w' = w ∧ Calls P f args w (fun e w'' => e = .returned v ∧ ∃ Y, w'' = w.ext Y)
  | _ => False
def at_ (P : Program) (o : Oper) (a : Act) (w : World) (v : Value) : Prop := upon P w v ((execOp a.eval o).run P w)
def grow (P : Program) (o : Oper) (a : Act) (w₀ : World) (next : Act → Prop) : Prop := ∃ v, (∀ X, at_ P o a (w₀.ext X) v) ∧ next (a.put o.dst v)
attribute [go_sem] upon at_ grow

/-- The walk of the operations that yield, in the order of the text. -/
def wpG (P : Program) (ops : Array Oper) (w₀ : World) (Q : Act → Prop) : List Oper → Act → Prop
  | [], a => Q a
  | o :: rest, a => if Region.wanted o (yielded ops a.tmps) then grow P o a w₀ (wpG P ops w₀ Q rest) else wpG P ops w₀ Q rest (a.put o.dst undef)
theorem wpG_nil {Q : Act → Prop} {a : Act} (h : Q a) : wpG P ops w₀ Q [] a := h
theorem wpG_step {Q : Act → Prop} {a : Act} {o : Oper} {rest : List Oper}
    (h : ∀ K : Act → Prop, (∀ a, wpG P ops w₀ Q rest a → K a) → if Region.wanted o (yielded ops a.tmps) then grow P o a w₀ K else K (a.put o.dst undef)) : wpG P ops w₀ Q (o :: rest) a :=
  h _ (fun _ h => h)

def gOp (P : Program) (ops : Array Oper) (w₀ : World) (i : Nat) (K : Act → Prop) (a : Act) : Prop :=
  match ops[i]? with
  | none => K a
  | some o => if Region.wanted o (yielded ops a.tmps) then grow P o a w₀ K else K (a.put o.dst undef)
theorem gOp_mono {i : Nat} {a : Act} {K K' : Act → Prop} (h : ∀ a, K a → K' a) (hh : gOp P ops w₀ i K a) : gOp P ops w₀ i K' a := by
  unfold gOp at *
  split
  · exact h _ (by simpa [*] using hh)
  · rename_i o ho
    simp only [ho] at hh
    split
    · rename_i hw; simp only [hw, if_true] at hh; obtain ⟨v, h1, h2⟩ := hh; exact ⟨v, h1, h _ h2⟩
    · rename_i hw; simp only [hw] at hh; exact h _ hh

def vAny (P : Program) (md : Region.Mode) (ops : Array Oper) (w₀ : World) (n : Nat) (L : Array Bool → Act → Prop) : Nat → Array Bool → Act → Prop
  | 0, listed, a => L listed a
  | f + 1, listed, a => (∃ i ∈ Region.ready md ops listed, i < n) ∧ ∀ i ∈ Region.ready md ops listed, i < n → gOp P ops w₀ i (vAny P md ops w₀ n L f (listed.setIfInBounds i true)) a

def YieldsG (P : Program) (ops : Array Oper) (w₀ : World) (o : Oper) (v : Value) (a : Act) : Prop :=
  (Region.wanted o (yielded ops a.tmps) = true ∧ ∀ X, at_ P o a (w₀.ext X) v) ∨ (Region.wanted o (yielded ops a.tmps) = false ∧ v = undef)
theorem YieldsG.gOp {i : Nat} {o : Oper} {v : Value} {a : Act} (hi : ops[i]? = some o) (hy : YieldsG P ops w₀ o v a) {K : Act → Prop} (h : K (a.put o.dst v)) : gOp P ops w₀ i K a := by
  unfold Go.Grow.gOp
  simp only [hi]
  rcases hy with ⟨hw, hv⟩ | ⟨hw, rfl⟩
  · simp only [hw, if_true]; exact ⟨v, hv, h⟩
  · simp only [hw, Bool.false_eq_true, if_false]; exact h
theorem YieldsG.of_same {o : Oper} {v : Value} {a a' : Act} (hy : YieldsG P ops w₀ o v a) (he : execOp a'.eval o = execOp a.eval o)
    (hw : Region.wanted o (yielded ops a'.tmps) = Region.wanted o (yielded ops a.tmps)) : YieldsG P ops w₀ o v a' := by
  unfold YieldsG at_ at *
  rw [he, hw]
  exact hy
theorem yieldsG_of_gOp {i : Nat} {o : Oper} {a : Act} {K : Act → Prop} (hi : ops[i]? = some o) (h : gOp P ops w₀ i K a) : ∃ v, YieldsG P ops w₀ o v a ∧ K (a.put o.dst v) := by
  unfold gOp at h
  simp only [hi] at h
  by_cases hw : Region.wanted o (yielded ops a.tmps) = true
  · simp only [hw, if_true] at h
    obtain ⟨v, h1, h2⟩ := h
    exact ⟨v, .inl ⟨hw, h1⟩, h2⟩
  · simp only [hw] at h
    exact ⟨undef, .inr ⟨by simpa using hw, rfl⟩, h⟩
theorem gOp_put {j : Nat} {oi oj : Oper} {v : Value} (hj : ops[j]? = some oj) (hap : oi.apart ops oj = true)
    (hsi : ∀ cs b, oi.op ≠ .select cs b) (hsj : ∀ cs b, oj.op ≠ .select cs b) {K : Act → Prop} {a : Act}
    (hy : YieldsG P ops w₀ oi v a) (h : gOp P ops w₀ j K (a.put oi.dst v)) :
    gOp P ops w₀ j (fun a' => YieldsG P ops w₀ oi v a' ∧ K (a'.put oi.dst v)) a := by
  obtain ⟨h1, h2, h3⟩ := Oper.apart_spec hap
  have keep : ∀ (a : Act), YieldsG P ops w₀ oi v a → ∀ u, YieldsG P ops w₀ oi v (a.put oj.dst u) := fun a hy u =>
    hy.of_same (execOp_put oi hsi a oj.dst u h3) (wanted_put oi a oj.dst u h3)
  unfold gOp at *
  simp only [hj] at *
  rw [wanted_put oj a oi.dst v h1] at h
  split
  · rename_i hw
    simp only [hw, if_true] at h
    obtain ⟨u, hu, hn⟩ := h
    refine ⟨u, fun X => ?_, keep a hy u, by rw [← Act.put_comm a v u h2]; exact hn⟩
    have := hu X
    unfold at_ at *
    rwa [execOp_put oj hsj a oi.dst v h1] at this
  · rename_i hw
    simp only [hw] at h
    exact ⟨keep a hy _, by rw [← Act.put_comm a v undef h2]; exact h⟩
theorem vAny_first {n i : Nat} {oi : Oper} {v : Value} {L : Array Bool → Act → Prop} (hi : ops[i]? = some oi) (hsel : ∀ (j : Nat) (o : Oper) cs b, ops[j]? = some o → o.op ≠ .select cs b) (hin : i < n)
    (hdone : ∀ listed a, L listed a → ∀ j ∈ Region.ready md ops listed, n ≤ j) :
    ∀ (f : Nat) (listed : Array Bool) (a : Act),
      (∀ j oj, ops[j]? = some oj → j ≠ i → listed.getD j true = false → (∀ e ∈ oj.after, Region.binds md e = true → e.on ≠ i) → oi.apart ops oj = true) →
      i ∈ Region.ready md ops listed → YieldsG P ops w₀ oi v a →
      vAny P md ops w₀ n L f (listed.setIfInBounds i true) (a.put oi.dst v) → vAny P md ops w₀ n L (f + 1) listed a := by
  intro f
  induction f with
  | zero =>
    intro listed a _ hr hy H
    refine ⟨⟨i, hr, hin⟩, fun j hj hjn => ?_⟩
    by_cases hji : j = i
    · subst hji; exact hy.gOp hi H
    · have := hdone _ _ H j (ready_mono hj hji)
      omega
  | succ f ih =>
    intro listed a hfree hr hy H
    refine ⟨⟨i, hr, hin⟩, fun j hj hjn => ?_⟩
    by_cases hji : j = i
    · subst hji; exact hy.gOp hi H
    · have h1 := H.2 j (ready_mono hj hji) hjn
      obtain ⟨hjun, oj, hoj, hall⟩ := mem_ready.1 hj
      have hun := (mem_ready.1 hr).1
      have hnot : ∀ e ∈ oj.after, Region.binds md e = true → e.on ≠ i := fun e he hb heq => by
        have h1 := hall e he hb
        rw [heq, getD_both hun] at h1
        cases h1
      have h2 := gOp_put hoj (hfree j oj hoj hji hjun hnot) (fun cs b => hsel i oi cs b hi) (fun cs b => hsel j oj cs b hoj) hy h1
      have hfree' : ∀ k ok, ops[k]? = some ok → k ≠ i → (listed.setIfInBounds j true).getD k true = false →
          (∀ e ∈ ok.after, Region.binds md e = true → e.on ≠ i) → oi.apart ops ok = true := fun k ok hk hki hun hno => by
        refine hfree k ok hk hki ?_ hno
        by_cases hjk : j = k
        · subst hjk; exact hjun
        · rw [getD_set_ne true hjk] at hun; exact hun
      refine gOp_mono (fun a' h3 => ih (listed.setIfInBounds j true) a' hfree' (ready_mono hr (Ne.symm hji)) h3.1 ?_) h2
      rw [Array.setIfInBounds_comm _ _ hji]
      exact h3.2

/-- The order of the text may be taken: computed. -/
def lexV (md : Region.Mode) (ops : Array Oper) (n : Nat) : List Nat → Array Bool → Bool
  | [], _ => true
  | k :: ks, listed => (Region.ready md ops listed).contains k && decide (k < n) && Region.free md ops listed k && lexV md ops n ks (listed.setIfInBounds k true)
def setAll (listed : Array Bool) (ks : List Nat) : Array Bool := ks.foldl (fun l k => l.setIfInBounds k true) listed
theorem vAny_lex {n : Nat} {Lq : Act → Prop} {Lf : Array Bool} (hsel : Region.noSelect ops = true) (hdone : ∀ j ∈ Region.ready md ops Lf, n ≤ j) :
    ∀ (ks : List Nat) (listed : Array Bool) (a : Act), setAll listed ks = Lf → lexV md ops n ks listed = true → wpG P ops w₀ Lq (ks.map fun k => ops.getD k default) a →
      vAny P md ops w₀ n (fun l a => l = Lf ∧ Lq a) ks.length listed a
  | [], listed, a, hL, _, h => ⟨hL, h⟩
  | k :: ks, listed, a, hL, hB, h => by
    simp only [lexV, Bool.and_eq_true, decide_eq_true_eq] at hB
    obtain ⟨⟨⟨hr, hkn⟩, hf⟩, hB'⟩ := hB
    have hr' : k ∈ Region.ready md ops listed := by simpa using hr
    obtain ⟨_, o, ho, _⟩ := mem_ready.1 hr'
    have hog : ops.getD k default = o := by simp [Array.getD_eq_getD_getElem?, ho]
    have hst : gOp P ops w₀ k (wpG P ops w₀ Lq (ks.map fun k => ops.getD k default)) a := by
      unfold gOp; simp only [ho]
      simp only [List.map_cons, hog] at h
      exact h
    obtain ⟨v, hy, hK⟩ := yieldsG_of_gOp ho hst
    exact vAny_first ho (Region.noSelect_spec hsel) hkn (fun l a hl => by rw [hl.1]; exact hdone) ks.length listed a (Region.free_spec ho hf) hr' hy
      (vAny_lex hsel hdone ks _ _ hL hB' hK)

/-! ### The allocations -/
def putL (d : Nat → Option Tmp) (c : Nat → Bool) (p : Nat → Nat) : List Nat → Act → Act
  | [], a => a
  | i :: is, a => putL d c p is (if c i then a.put (d i) (.pointer (some ⟨p i, 0, none⟩)) else a)
theorem putL_put {d : Nat → Option Tmp} {c : Nat → Bool} {p : Nat → Nat} {x : Option Tmp} {v : Value} : ∀ (is : List Nat) (a : Act), (∀ i ∈ is, ∀ e, d i = some e → x ≠ some e) →
    (putL d c p is a).put x v = putL d c p is (a.put x v)
  | [], _, _ => rfl
  | i :: is, a, h => by
    simp only [putL]
    rw [putL_put is _ (fun j hj => h j (by simp [hj]))]
    congr 1
    split
    · exact Act.put_comm a _ _ (h i (by simp))
    · rfl
theorem putL_congr {d : Nat → Option Tmp} {c c' : Nat → Bool} {p p' : Nat → Nat} : ∀ (is : List Nat) (a : Act), (∀ i ∈ is, c i = c' i ∧ (c i = true → p i = p' i)) → putL d c p is a = putL d c' p' is a
  | [], _, _ => rfl
  | i :: is, a, h => by
    simp only [putL]
    obtain ⟨h1, h2⟩ := h i (by simp)
    rw [putL_congr is _ (fun j hj => h j (by simp [hj])), ← h1]
    congr 1
    split
    · rename_i hc; rw [h2 hc]
    · rfl
theorem putL_set {d : Nat → Option Tmp} {c c' : Nat → Bool} {p p' : Nat → Nat} {i n : Nat} (hc : c i = false) (hc' : c' i = true) (hp : p' i = n) : ∀ (is : List Nat) (a : Act), i ∈ is → is.Nodup →
    (∀ j ∈ is, j ≠ i → c' j = c j ∧ p' j = p j) → (∀ j ∈ is, j ≠ i → ∀ e, d j = some e → d i ≠ some e) →
    (putL d c p is a).put (d i) (.pointer (some ⟨n, 0, none⟩)) = putL d c' p' is a
  | [], _, h, _, _, _ => by cases h
  | j :: is, a, h, hn, hs, hd => by
    simp only [putL]
    have hn' := List.nodup_cons.1 hn
    by_cases hj : j = i
    · subst hj
      rw [hc, hc', hp]
      simp only [if_true, Bool.false_eq_true, if_false]
      rw [putL_put is a (fun k hk => hd k (by simp [hk]) (fun e => hn'.1 (e ▸ hk)))]
      exact putL_congr is _ (fun k hk => by
        have hki : k ≠ j := fun e => hn'.1 (e ▸ hk)
        obtain ⟨h1, h2⟩ := hs k (by simp [hk]) hki
        exact ⟨h1.symm, fun _ => h2.symm⟩)
    · have hi : i ∈ is := by
        rcases List.mem_cons.1 h with h | h
        · exact absurd h.symm hj
        · exact h
      obtain ⟨h1, h2⟩ := hs j (by simp) hj
      rw [putL_set hc hc' hp is _ hi hn'.2 (fun k hk hki => hs k (by simp [hk]) hki) (fun k hk hki => hd k (by simp [hk]) hki), h1, h2]
theorem putL_exec {d : Nat → Option Tmp} {c : Nat → Bool} {p : Nat → Nat} {o : Oper} (hs : ∀ cs b, o.op ≠ .select cs b) : ∀ (is : List Nat) (a : Act), (∀ i ∈ is, ∀ e, d i = some e → e ∉ o.looksAt ops) →
    execOp (putL d c p is a).eval o = execOp a.eval o ∧ Region.wanted o (yielded ops (putL d c p is a).tmps) = Region.wanted o (yielded ops a.tmps)
  | [], _, _ => ⟨rfl, rfl⟩
  | i :: is, a, h => by
    simp only [putL]
    obtain ⟨h1, h2⟩ := putL_exec hs is (if c i then a.put (d i) (.pointer (some ⟨p i, 0, none⟩)) else a) (fun j hj => h j (by simp [hj]))
    rw [h1, h2]
    split
    · exact ⟨execOp_put o hs a _ _ (h i (by simp)), wanted_put o a _ _ (h i (by simp))⟩
    · exact ⟨rfl, rfl⟩

/-- What is asked of the region's shape: computed. -/
def shapeB (md : Region.Mode) (ops : Array Oper) (n : Nat) (Vs As : List Nat) : Bool :=
  Region.noSelect ops && decide (n < ops.size) && Region.sinkB md ops n && Region.chainB md ops n &&
  Region.seqB md ops (ops.size - n) n (setAll (setAll (Array.replicate ops.size false) As) Vs) &&
  lexV md ops n Vs (setAll (Array.replicate ops.size false) As) &&
  As.all (fun i => decide (i < n) && ((ops.getD i default).after.isEmpty && (ops.getD i default).guard.isNone && As.all fun j => i == j || ((ops.getD i default).dst != (ops.getD j default).dst))) &&
  decide As.Nodup && decide (Vs.length + As.length = n) &&
  (List.range n).all (fun j => As.contains j || As.all fun i => (ops.getD i default).apart ops (ops.getD j default))

structure St (P : Program) (md : Region.Mode) (ops : Array Oper) (w₀ : World) (n : Nat) (As : List Nat) (zs : Nat → Array Value) (ts : Nat → TypeId) (listed LA : Array Bool) (p : Nat → Nat) (w : World) : Prop where
  inv : HeadInv md ops n listed
  sizeA : LA.size = ops.size
  rel : ∀ j, LA.getD j false = (listed.getD j false || (As.contains j && decide (j < ops.size)))
  world : ∃ X, w = w₀.ext X
  facts : ∀ i ∈ As, listed.getD i false = true → w.heap[p i]? = some (.cells (zs i) (ts i) (0, 0)) ∧ w₀.heap.size ≤ p i
  apart : ∀ i ∈ As, ∀ j ∈ As, i ≠ j → listed.getD i false = true → listed.getD j false = true → p i ≠ p j

end

def left (c : Nat → Bool) (As : List Nat) : Nat := (As.filter fun i => !c i).length
theorem left_le {c c' : Nat → Bool} (hle : ∀ j, c j = true → c' j = true) : ∀ As : List Nat, left c' As ≤ left c As
  | [] => Nat.le_refl _
  | j :: As => by
    have ih := left_le hle As
    unfold left at *
    cases hj : c j <;> cases hj' : c' j <;> simp only [List.filter_cons, hj, hj', Bool.not_true, Bool.not_false, if_true, Bool.false_eq_true, if_false, List.length_cons] <;>
      first | omega | (have := hle j hj; rw [hj'] at this; cases this)
theorem left_lt {c c' : Nat → Bool} {i : Nat} (hle : ∀ j, c j = true → c' j = true) (h0 : c i = false) (h1 : c' i = true) : ∀ As : List Nat, i ∈ As → left c' As < left c As
  | [], h => by cases h
  | j :: As, h => by
    have hle' := left_le hle As
    rcases List.mem_cons.1 h with h | h
    · subst h
      unfold left at *
      simp only [List.filter_cons, h0, h1, Bool.not_true, Bool.not_false, if_true, Bool.false_eq_true, if_false, List.length_cons]
      omega
    · have ih := left_lt hle h0 h1 As h
      unfold left at *
      cases hj : c j <;> cases hj' : c' j <;> simp only [List.filter_cons, hj, hj', Bool.not_true, Bool.not_false, if_true, Bool.false_eq_true, if_false, List.length_cons] <;>
        first | omega | (have := hle j hj; rw [hj'] at this; cases this)
theorem left_one {c c' : Nat → Bool} {i : Nat} (h0 : c i = false) (h1 : c' i = true) (h : ∀ j, j ≠ i → c' j = c j) : ∀ As : List Nat, i ∈ As → As.Nodup → left c' As + 1 = left c As
  | [], hi, _ => by cases hi
  | j :: As, hi, hn => by
    obtain ⟨hj, hn'⟩ := List.nodup_cons.1 hn
    by_cases hji : j = i
    · have hsame : As.filter (fun k => !c' k) = As.filter fun k => !c k := List.filter_congr fun k hk => by rw [h k (fun e => hj (hji ▸ e ▸ hk))]
      unfold left
      subst hji
      simp only [List.filter_cons, h0, h1, hsame, Bool.not_true, Bool.not_false, if_true, Bool.false_eq_true, if_false, List.length_cons]
    · have hi' : i ∈ As := by
        rcases List.mem_cons.1 hi with e | e
        · exact absurd e.symm hji
        · exact e
      have ih := left_one h0 h1 h As hi' hn'
      unfold left at *
      simp only [List.filter_cons, h j hji]
      cases c j <;> simp <;> omega
theorem left_zero {c : Nat → Bool} {As : List Nat} (h : left c As = 0) : ∀ i ∈ As, c i = true := by
  intro i hi
  cases hc : c i with
  | true => rfl
  | false =>
    have : i ∈ As.filter fun i => !c i := List.mem_filter.2 ⟨hi, by simp [hc]⟩
    unfold left at h
    rw [List.length_eq_zero_iff.1 h] at this
    cases this
theorem left_pos {c : Nat → Bool} {As : List Nat} (h : 0 < left c As) : ∃ i ∈ As, c i = false := by
  unfold left at h
  obtain ⟨i, hi⟩ := List.exists_mem_of_length_pos h
  obtain ⟨h1, h2⟩ := List.mem_filter.1 hi
  exact ⟨i, h1, by simpa using h2⟩

theorem getD_set_iff {l : Array Bool} {i j : Nat} (hi : i < l.size) : (l.setIfInBounds i true).getD j false = (l.getD j false || decide (i = j)) := by
  by_cases h : i = j
  · subst h; simp [hi]
  · rw [getD_set_ne false h]; simp [h]

section
variable {P : Program} {ops : Array Oper} {md : Region.Mode} {w₀ : World}
/-- What an allocation does, whatever the frame. -/
def AllocRuns (P : Program) (ops : Array Oper) (As : List Nat) (zs : Nat → Array Value) (ts : Nat → TypeId) : Prop :=
  ∀ i ∈ As, ∀ (ρ : Operand → Value) (w : World), (execOp ρ (ops.getD i default)).run P w = .ok (.value (.pointer (some ⟨w.heap.size, 0, none⟩))) (w.alloc (.cells (zs i) (ts i)))

theorem wpAny_of_vAny {n g : Nat} {Vs As : List Nat} {zs : Nat → Array Value} {ts : Nat → TypeId} {Lf : Array Bool} {Lq : Act → Prop} {Q : Exit → Act → World → Prop}
    (hsel : Region.noSelect ops = true) (hn : n < ops.size) (hsink : Region.sinkB md ops n = true) (hchain : Region.chainB md ops n = true)
    (hseq : Region.seqB md ops g n Lf = true) (hg : g = ops.size - n)
    (hA : ∀ i ∈ As, i < n ∧ (∀ e ∈ (ops.getD i default).after, False) ∧ (ops.getD i default).guard = none ∧ ∀ j ∈ As, i ≠ j → (ops.getD i default).dst ≠ (ops.getD j default).dst)
    (hnd : As.Nodup)
    (hap : ∀ j, j < n → j ∉ As → ∀ i ∈ As, (ops.getD i default).apart ops (ops.getD j default) = true)
    (hruns : AllocRuns P ops As zs ts)
    (hQ : ∀ (p : Nat → Nat) (aV : Act) (w : World), Lq aV → (∃ X, w = w₀.ext X) → (∀ i ∈ As, w.heap[p i]? = some (.cells (zs i) (ts i) (0, 0)) ∧ w₀.heap.size ≤ p i) → (∀ i ∈ As, ∀ j ∈ As, i ≠ j → p i ≠ p j) →
      wpList P ops Q (ops.toList.drop n) (putL (fun i => (ops.getD i default).dst) (fun _ => true) p As aV) w) :
    ∀ (t f : Nat) (listed LA : Array Bool) (p : Nat → Nat) (aV : Act) (w : World), St P md ops w₀ n As zs ts listed LA p w → f + left (fun i => listed.getD i false) As = t →
      vAny P md ops w₀ n (fun l a => l = Lf ∧ Lq a) f LA aV →
      wpAny P md ops Q (t + g) listed (putL (fun i => (ops.getD i default).dst) (fun i => listed.getD i false) p As aV) w := by
  intro t
  induction t with
  | zero =>
    intro f listed LA p aV w hS ht hv
    have hf : f = 0 := by omega
    subst hf
    have hall := left_zero (c := fun i => listed.getD i false) (As := As) (by omega)
    have hLA : LA = listed := by
      apply Array.ext_getElem?
      intro j
      have h1 := hS.rel j
      have h2 : (listed.getD j false || (As.contains j && decide (j < ops.size))) = listed.getD j false := by
        by_cases hj : j ∈ As
        · rw [hall j hj]; rfl
        · have : As.contains j = false := by simpa using hj
          rw [this]; simp
      rw [h2] at h1
      have hs := hS.sizeA
      have hs' := hS.inv.size
      by_cases hjs : j < ops.size
      · rw [Array.getElem?_eq_getElem (by omega), Array.getElem?_eq_getElem (by omega)]
        simpa [Array.getD_eq_getD_getElem?, Array.getElem?_eq_getElem (show j < LA.size by omega), Array.getElem?_eq_getElem (show j < listed.size by omega)] using h1
      · rw [Array.getElem?_eq_none (by omega), Array.getElem?_eq_none (by omega)]
    obtain ⟨hl, hq⟩ := hv
    subst hLA
    rw [Nat.zero_add]
    have hlist := hQ p aV w hq hS.world (fun i hi => hS.facts i hi (hall i hi)) (fun i hi j hj hij => hS.apart i hi j hj hij (hall i hi) (hall j hj))
    rw [putL_congr As aV (c' := fun i => LA.getD i false) (p' := p) (fun i hi => ⟨(hall i hi).symm, fun _ => rfl⟩)] at hlist
    have := wpAny_of_seq (md := md) (Q' := Q) (ops.toList.drop n) n LA (putL (fun i => (ops.getD i default).dst) (fun i => LA.getD i false) p As aV) w (fun j => by simp [List.getElem?_drop])
      (by rw [show (ops.toList.drop n).length = g by simp [hg]]; rw [hl]; exact hseq) hlist
    rwa [show (ops.toList.drop n).length = g by simp [hg]] at this
  | succ t ih =>
    intro f listed LA p aV w hS ht hv
    rw [show t + 1 + g = (t + g) + 1 by omega]
    have hsz := hS.inv.size
    -- an operation of the head that has not come up yet
    have hhead : ∃ i, i < n ∧ listed.getD i true = false ∧ (i ∈ As → i ∈ Region.ready md ops listed) ∧ (i ∉ As → f ≠ 0 ∧ (left (fun i => listed.getD i false) As = 0 → i ∈ Region.ready md ops listed)) := by
      by_cases hl : 0 < left (fun i => listed.getD i false) As
      · obtain ⟨i, hi, hu⟩ := left_pos hl
        obtain ⟨hin, hafter, _, _⟩ := hA i hi
        have hlt : i < ops.size := by omega
        have hu' := getD_in (by omega) hu
        refine ⟨i, hin, hu', fun _ => mem_ready.2 ⟨hu', ops[i], Array.getElem?_eq_getElem hlt, fun e he => ?_⟩, fun h => absurd hi h⟩
        have : ops.getD i default = ops[i] := by simp [Array.getD_eq_getD_getElem?, Array.getElem?_eq_getElem hlt]
        rw [this] at hafter
        exact (hafter e he).elim
      · have hf : f ≠ 0 := by omega
        obtain ⟨f', rfl⟩ := Nat.exists_eq_succ_of_ne_zero hf
        obtain ⟨i, hi, hin⟩ := hv.1
        have hall := left_zero (c := fun i => listed.getD i false) (As := As) (by omega)
        obtain ⟨h1, o, ho, h3⟩ := mem_ready.1 hi
        have hLA : ∀ j, LA.getD j false = listed.getD j false := fun j => by
          rw [hS.rel j]
          by_cases hj : j ∈ As
          · rw [hall j hj]; rfl
          · have : As.contains j = false := by simpa using hj
            rw [this]; simp
        have hlt : i < ops.size := by omega
        have hu : listed.getD i false = false := by rw [← hLA]; exact getD_both h1
        have hu' := getD_in (by omega) hu
        have hr : i ∈ Region.ready md ops listed := mem_ready.2 ⟨hu', o, ho, fun e he hb => by rw [← hLA]; exact h3 e he hb⟩
        exact ⟨i, hin, hu', fun _ => hr, fun _ => ⟨by omega, fun _ => hr⟩⟩
    obtain ⟨i₀, hi₀n, hi₀u, hi₀A, hi₀V⟩ := hhead
    have htail : ∀ i ∈ Region.ready md ops listed, i < n := fun i hi => by
      rcases Nat.lt_or_ge i n with h | h
      · exact h
      · exact absurd hi (tail_waits hsink hchain hn hS.inv _ i₀ rfl hi₀n hi₀u i h)
    have hne : Region.ready md ops listed ≠ [] := by
      by_cases h : i₀ ∈ As
      · exact List.ne_nil_of_mem (hi₀A h)
      · by_cases hl : 0 < left (fun i => listed.getD i false) As
        · obtain ⟨i, hi, hu⟩ := left_pos hl
          obtain ⟨hin, hafter, _, _⟩ := hA i hi
          have hlt : i < ops.size := by omega
          have hu' := getD_in (by omega) hu
          refine List.ne_nil_of_mem (a := i) (mem_ready.2 ⟨hu', ops[i], Array.getElem?_eq_getElem hlt, fun e he => ?_⟩)
          have : ops.getD i default = ops[i] := by simp [Array.getD_eq_getD_getElem?, Array.getElem?_eq_getElem hlt]
          rw [this] at hafter
          exact (hafter e he).elim
        · exact List.ne_nil_of_mem ((hi₀V h).2 (by omega))
    refine ⟨fun h => absurd h hne, fun i hi => ?_⟩
    have hin := htail i hi
    obtain ⟨hun, o, ho, hdeps⟩ := mem_ready.1 hi
    have hlt : i < ops.size := by omega
    have hunf := getD_both hun
    have hog : ops.getD i default = o := by simp [Array.getD_eq_getD_getElem?, ho]
    by_cases hiA : i ∈ As
    · -- an allocation
      obtain ⟨_, _, hguard, hdst⟩ := hA i hiA
      rw [hog] at hguard
      unfold wpOp
      simp only [ho]
      rw [if_pos (by simp [Region.wanted, hguard])]
      refine .inl ?_
      have hrun := hruns i hiA (putL (fun i => (ops.getD i default).dst) (fun i => listed.getD i false) p As aV).eval w
      rw [hog] at hrun
      unfold Oper.wp
      rw [hrun]
      simp only [Oper.upon]
      have hset : (putL (fun i => (ops.getD i default).dst) (fun i => listed.getD i false) p As aV).put o.dst (.pointer (some ⟨w.heap.size, 0, none⟩)) =
          putL (fun i => (ops.getD i default).dst) (fun j => (listed.setIfInBounds i true).getD j false) (fun j => if j = i then w.heap.size else p j) As aV := by
        rw [← hog]
        refine putL_set (d := fun i => (ops.getD i default).dst) (i := i) hunf (by rw [getD_set_iff (by omega)]; simp) (by simp) As aV hiA hnd (fun j _ hji => ⟨by rw [getD_set_ne false (Ne.symm hji)], by simp [hji]⟩) (fun j hj hji e he => ?_)
        intro h'
        exact hdst j hj (Ne.symm hji) (h'.trans he.symm)
      rw [hset]
      have hmono : ∀ j, listed.getD j false = true → (listed.setIfInBounds i true).getD j false = true := fun j hj => getD_set_true hj
      refine ih f (listed.setIfInBounds i true) LA (fun j => if j = i then w.heap.size else p j) aV (w.alloc (.cells (zs i) (ts i))) ⟨hS.inv.set hi hin, hS.sizeA, fun j => ?_, ?_, fun j hj hlj => ?_, fun j hj k hk hjk hlj hlk => ?_⟩ ?_ hv
      · rw [hS.rel j, getD_set_iff (by omega)]
        by_cases hij : i = j
        · subst hij
          have : As.contains i = true := by simpa using hiA
          rw [this]; simp [hlt]
        · simp [hij]
      · obtain ⟨X, rfl⟩ := hS.world
        refine World.ext_of_below ?_
        exact (World.below_ext w₀ X).alloc (by simp [World.size_ext]) _
      · by_cases hij : j = i
        · subst hij
          simp only [if_true]
          obtain ⟨X, rfl⟩ := hS.world
          refine ⟨?_, by simp [World.size_ext]⟩
          show ((w₀.ext X).heap.push _)[(w₀.ext X).heap.size]? = _
          simp
        · simp only [hij, if_false]
          rw [getD_set_ne false (Ne.symm hij)] at hlj
          obtain ⟨h1, h2⟩ := hS.facts j hj hlj
          refine ⟨?_, h2⟩
          have hlt' : p j < w.heap.size := by
            rcases Nat.lt_or_ge (p j) w.heap.size with h | h
            · exact h
            · rw [Array.getElem?_eq_none h] at h1; cases h1
          rw [Below.heap_alloc _ _ _ hlt']
          exact h1
      · have hlt' : ∀ j ∈ As, j ≠ i → (listed.setIfInBounds i true).getD j false = true → p j < w.heap.size := fun j hj hji hlj => by
          rw [getD_set_ne false (Ne.symm hji)] at hlj
          obtain ⟨h1, _⟩ := hS.facts j hj hlj
          rcases Nat.lt_or_ge (p j) w.heap.size with h | h
          · exact h
          · rw [Array.getElem?_eq_none h] at h1; cases h1
        by_cases hji : j = i
        · have hki : k ≠ i := fun e => hjk (hji.trans e.symm)
          have := hlt' k hk hki hlk
          simp only [hji, hki, if_true, if_false]
          omega
        · by_cases hki : k = i
          · have := hlt' j hj hji hlj
            simp only [hji, hki, if_true, if_false]
            omega
          · simp only [hji, hki, if_false]
            rw [getD_set_ne false (Ne.symm hji)] at hlj
            rw [getD_set_ne false (Ne.symm hki)] at hlk
            exact hS.apart j hj k hk hjk hlj hlk
      · have hone := left_one (c := fun j => listed.getD j false) (c' := fun j => (listed.setIfInBounds i true).getD j false) hunf (by show (listed.setIfInBounds i true).getD i false = true; rw [getD_set_iff (by omega)]; simp)
          (fun j hji => getD_set_ne false (Ne.symm hji)) As hiA hnd
        omega
    · -- an operation that yields
      have hiLA : LA.getD i false = false := by
        rw [hS.rel i, hunf]
        have : As.contains i = false := by simpa using hiA
        rw [this]; rfl
      have hrLA : i ∈ Region.ready md ops LA := mem_ready.2 ⟨getD_in (by rw [hS.sizeA]; omega) hiLA, o, ho, fun e he hb => by rw [hS.rel, hdeps e he hb]; rfl⟩
      have hf : f ≠ 0 := by
        rintro rfl
        obtain ⟨hl, _⟩ := hv
        have := seqB_ready (md := md) (ops := ops) hseq i (hl ▸ hrLA)
        omega
      obtain ⟨f', rfl⟩ := Nat.exists_eq_succ_of_ne_zero hf
      have hgop := hv.2 i hrLA hin
      have hs := fun cs b => Region.noSelect_spec hsel i o cs b ho
      have hapart : ∀ k ∈ As, ∀ e, (ops.getD k default).dst = some e → e ∉ o.looksAt ops ∧ o.dst ≠ some e := fun k hk e he => by
        have := hap i hin hiA k hk
        rw [hog] at this
        obtain ⟨h1, h2, _⟩ := Oper.apart_spec this
        exact ⟨h1 e he, h2 e he⟩
      obtain ⟨hex, hwa⟩ := putL_exec (d := fun i => (ops.getD i default).dst) (c := fun i => listed.getD i false) (p := p) hs As aV (fun k hk e he => (hapart k hk e he).1)
      have hcongr : putL (fun i => (ops.getD i default).dst) (fun i => listed.getD i false) p As = putL (fun i => (ops.getD i default).dst) (fun j => (listed.setIfInBounds i true).getD j false) p As := by
        funext a
        exact putL_congr As a (fun k hk => ⟨by rw [getD_set_ne false (by rintro rfl; exact hiA hk)], fun _ => rfl⟩)
      have hput : ∀ v, (putL (fun i => (ops.getD i default).dst) (fun i => listed.getD i false) p As aV).put o.dst v = putL (fun i => (ops.getD i default).dst) (fun j => (listed.setIfInBounds i true).getD j false) p As (aV.put o.dst v) := fun v => by
        rw [putL_put As aV (fun k hk e he => (hapart k hk e he).2), hcongr]
      have hleft : left (fun j => (listed.setIfInBounds i true).getD j false) As = left (fun j => listed.getD j false) As := by
        unfold left
        congr 1
        refine List.filter_congr fun k hk => ?_
        have := getD_set_ne (listed := listed) (i := i) (j := k) false (by rintro rfl; exact hiA hk)
        show (!(listed.setIfInBounds i true).getD k false) = !listed.getD k false
        rw [this]
      have hnext : ∀ (v : Value) (Y : Ext), vAny P md ops w₀ n (fun l a => l = Lf ∧ Lq a) f' (LA.setIfInBounds i true) (aV.put o.dst v) →
          wpAny P md ops Q (t + g) (listed.setIfInBounds i true) ((putL (fun i => (ops.getD i default).dst) (fun i => listed.getD i false) p As aV).put o.dst v) (w.ext Y) := fun v Y hv' => by
        rw [hput]
        refine ih f' (listed.setIfInBounds i true) (LA.setIfInBounds i true) p (aV.put o.dst v) (w.ext Y) ⟨hS.inv.set hi hin, by simp [hS.sizeA], fun j => ?_, ?_, fun j hj hlj => ?_, fun j hj k hk hjk hlj hlk => ?_⟩ (by omega) hv'
        · have hLs := hS.sizeA
          have hLi : i < LA.size := by omega
          rw [getD_set_iff hLi, getD_set_iff (by omega), hS.rel j]
          cases listed.getD j false <;> simp [Bool.or_comm]
        · obtain ⟨X, rfl⟩ := hS.world
          exact ⟨X.cat Y, by rw [World.ext_ext]⟩
        · rw [getD_set_ne false (by rintro rfl; exact hiA hj)] at hlj
          obtain ⟨h1, h2⟩ := hS.facts j hj hlj
          have hlt' : p j < w.heap.size := by
            rcases Nat.lt_or_ge (p j) w.heap.size with h | h
            · exact h
            · rw [Array.getElem?_eq_none h] at h1; cases h1
          exact ⟨(World.heap_ext hlt').trans h1, h2⟩
        · rw [getD_set_ne false (by rintro rfl; exact hiA hj)] at hlj
          rw [getD_set_ne false (by rintro rfl; exact hiA hk)] at hlk
          exact hS.apart j hj k hk hjk hlj hlk
      have hself : w = w.ext ⟨#[], w.drawn⟩ := by simp [World.ext]
      unfold gOp at hgop
      simp only [ho] at hgop
      unfold wpOp
      simp only [ho]
      rw [hwa]
      by_cases hw : Region.wanted o (yielded ops aV.tmps) = true
      · rw [if_pos hw] at hgop ⊢
        refine .inl ?_
        obtain ⟨v, hat, hv'⟩ := hgop
        obtain ⟨X, hX⟩ := hS.world
        have hat' := hat X
        rw [← hX] at hat'
        unfold at_ at hat'
        rw [← hex] at hat'
        unfold Oper.wp
        generalize (execOp (putL (fun i => (ops.getD i default).dst) (fun i => listed.getD i false) p As aV).eval o).run P w = r at hat'
        cases r with
        | ok nx w' =>
          cases nx <;> simp only [upon] at hat' <;> simp only [Oper.upon]
          case value u =>
            obtain ⟨e1, e2⟩ := hat'
            rw [e1, e2, hself]
            rw [← hself]
            have := hnext v ⟨#[], w.drawn⟩ hv'
            rwa [← hself] at this
          case skip =>
            obtain ⟨e1, e2⟩ := hat'
            rw [e1, ← e2]
            have := hnext v ⟨#[], w.drawn⟩ hv'
            rwa [← hself] at this
          case enter fn args =>
            obtain ⟨e1, hc⟩ := hat'
            rw [e1]
            exact hc.mono fun e w'' ⟨he, Y, hY⟩ => by subst he; rw [hY]; exact hnext v Y hv'
        | halt x w' => simp only [upon] at hat'
      · rw [if_neg hw] at hgop ⊢
        have := hnext undef ⟨#[], w.drawn⟩ hgop
        rwa [← hself] at this

/-- **THE RULE.** n: where the tail begins; Vs, As: the head's operations that yield, its allocations. -/
theorem wp_region_grow {id : Nat} {Q : Exit → Act → World → Prop} {a : Act} {w : World} {l : List Oper} (n : Nat) (Vs As : List Nat) (zs : Nat → Array Value) (ts : Nat → TypeId) (hm : P.follows .mixedOrders = true)
    (hB : shapeB .any l.toArray n Vs As = true) (hruns : AllocRuns P l.toArray As zs ts)
    (h : wpG P l.toArray w (fun a' => ∀ (p : Nat → Nat) (X : Ext), (∀ i ∈ As, (w.ext X).heap[p i]? = some (.cells (zs i) (ts i) (0, 0)) ∧ w.heap.size ≤ p i) → (∀ i ∈ As, ∀ j ∈ As, i ≠ j → p i ≠ p j) →
      wpList P l.toArray Q (l.drop n) (putL (fun i => (l.getD i default).dst) (fun _ => true) p As a') (w.ext X)) (Vs.map fun k => l.getD k default) a) : (Code.region id l.toArray true).wp P Q a w := by
  simp only [shapeB, Bool.and_eq_true, decide_eq_true_eq] at hB
  obtain ⟨⟨⟨⟨⟨⟨⟨⟨⟨hsel, hn⟩, hsink⟩, hchain⟩, hseq⟩, hlex⟩, hA⟩, hnd⟩, hcount⟩, hap⟩ := hB
  have hgd : ∀ k, l.toArray.getD k default = l.getD k default := fun k => by simp [Array.getD_eq_getD_getElem?, List.getD_eq_getElem?_getD]
  have hw₁ : ({ w with drawn := w.drawn + 1 } : World) = w.ext ⟨#[], w.drawn + 1⟩ := by simp [World.ext]
  have hA' : ∀ i ∈ As, i < n ∧ (∀ e ∈ (l.toArray.getD i default).after, False) ∧ (l.toArray.getD i default).guard = none ∧ ∀ j ∈ As, i ≠ j → (l.toArray.getD i default).dst ≠ (l.toArray.getD j default).dst := fun i hi => by
    have := List.all_eq_true.1 hA i hi
    simp only [Bool.and_eq_true, decide_eq_true_eq, Array.isEmpty_iff, Option.isNone_iff_eq_none, List.all_eq_true, Bool.or_eq_true, beq_iff_eq, bne_iff_ne] at this
    obtain ⟨h1, ⟨h2, h3⟩, h4⟩ := this
    refine ⟨h1, fun e he => ?_, h3, fun j hj hij => (h4 j hj).resolve_left hij⟩
    rw [h2] at he
    simp at he
  have hap' : ∀ j, j < n → j ∉ As → ∀ i ∈ As, (l.toArray.getD i default).apart l.toArray (l.toArray.getD j default) = true := fun j hj hjA i hi => by
    have := List.all_eq_true.1 hap j (List.mem_range.2 hj)
    simp only [Bool.or_eq_true, List.all_eq_true] at this
    rcases this with h1 | h1
    · exact absurd (by simpa using h1) hjA
    · exact h1 i hi
  have hdone := seqB_ready (md := .any) (ops := l.toArray) hseq
  have hv := vAny_lex (P := P) (w₀ := w) (md := .any) (Lq := fun a' => ∀ (p : Nat → Nat) (X : Ext), (∀ i ∈ As, (w.ext X).heap[p i]? = some (.cells (zs i) (ts i) (0, 0)) ∧ w.heap.size ≤ p i) → (∀ i ∈ As, ∀ j ∈ As, i ≠ j → p i ≠ p j) →
      wpList P l.toArray Q (l.drop n) (putL (fun i => (l.getD i default).dst) (fun _ => true) p As a') (w.ext X)) hsel hdone Vs (setAll (Array.replicate l.toArray.size false) As) a rfl hlex (by simpa only [hgd] using h)
  refine wp_region_any hm ?_
  have hrep : ∀ j, (Array.replicate l.toArray.size false).getD j false = false := fun j => getD_replicate_false _ _
  have hset : ∀ (ks : List Nat) (A : Array Bool), (setAll A ks).size = A.size ∧ ∀ j, (setAll A ks).getD j false = (A.getD j false || (ks.contains j && decide (j < A.size))) := by
    intro ks
    induction ks with
    | nil => intro A; simp [setAll]
    | cons k ks ih =>
      intro A
      obtain ⟨h1, h2⟩ := ih (A.setIfInBounds k true)
      have hsa : setAll A (k :: ks) = setAll (A.setIfInBounds k true) ks := rfl
      rw [hsa]
      refine ⟨by rw [h1]; simp, fun j => ?_⟩
      rw [h2]
      by_cases hkj : k = j
      · subst hkj
        by_cases hlt : k < A.size
        · rw [getD_set_iff hlt]; simp [hlt]
        · have : A.setIfInBounds k true = A := by simp [Array.setIfInBounds, hlt]
          rw [this]; simp [hlt]
      · rw [getD_set_ne false hkj]
        have : (k :: ks).contains j = ks.contains j := by simp [Ne.symm hkj]
        rw [this]; simp
  have inv0 : HeadInv .any l.toArray n (Array.replicate l.toArray.size false) :=
    ⟨by simp, fun j oj _ hl => (by rw [hrep] at hl; cases hl), fun t _ ht => getD_in (by simpa using ht) (hrep _)⟩
  have hleft : left (fun i => (Array.replicate l.toArray.size false).getD i false) As = As.length := by
    unfold left
    rw [List.filter_eq_self.2 (fun i _ => by simp only [hrep]; rfl)]
  have main := wpAny_of_vAny (P := P) (md := .any) (ops := l.toArray) (w₀ := w) (n := n) (g := l.toArray.size - n) (Vs := Vs) (As := As) (zs := zs) (ts := ts) (Q := Q) (Lf := setAll (setAll (Array.replicate l.toArray.size false) As) Vs)
    (Lq := fun a' => ∀ (p : Nat → Nat) (X : Ext), (∀ i ∈ As, (w.ext X).heap[p i]? = some (.cells (zs i) (ts i) (0, 0)) ∧ w.heap.size ≤ p i) → (∀ i ∈ As, ∀ j ∈ As, i ≠ j → p i ≠ p j) →
      wpList P l.toArray Q (l.drop n) (putL (fun i => (l.getD i default).dst) (fun _ => true) p As a') (w.ext X))
    hsel hn hsink hchain hseq rfl hA' hnd hap' hruns
    (fun p aV w' hq hw hf hd => by
      obtain ⟨X, rfl⟩ := hw
      have := hq p X hf hd
      simpa only [hgd] using this)
    (Vs.length + As.length) Vs.length (Array.replicate l.toArray.size false) (setAll (Array.replicate l.toArray.size false) As) (fun _ => 0) a { w with drawn := w.drawn + 1 }
    ⟨inv0, by rw [(hset _ _).1]; simp, fun j => by rw [(hset _ _).2]; simp, ⟨_, hw₁⟩, fun i _ hl => (by rw [hrep] at hl; cases hl), fun i _ j _ _ hl => (by rw [hrep] at hl; cases hl)⟩
    (by rw [hleft]) hv
  have hputL : putL (fun i => (l.toArray.getD i default).dst) (fun i => (Array.replicate l.toArray.size false).getD i false) (fun _ => 0) As a = a := by
    have : ∀ is : List Nat, putL (fun i => (l.toArray.getD i default).dst) (fun i => (Array.replicate l.toArray.size false).getD i false) (fun _ => 0) is a = a := by
      intro is
      induction is with
      | nil => rfl
      | cons i is ih =>
        show putL _ _ _ is (if (Array.replicate l.toArray.size false).getD i false = true then _ else a) = a
        rw [hrep, if_neg Bool.false_ne_true]
        exact ih
    exact this As
  rw [hputL, show Vs.length + As.length + (l.toArray.size - n) = l.toArray.size by omega] at main
  exact main
end
end Go.Grow

/-! A REGION THAT DRAWS ITS ORDER: operations that yield one value in whatever world of a class are taken first; what is left comes in one order, the world staying in the class. -/
namespace Go.First
open Go.RowKit
section
variable {P : Program} {ops : Array Oper} {md : Region.Mode} {C : World → Prop} {Q : Exit → Act → World → Prop}

def upon (w : World) (v : Value) : Result Next → Prop
  | .ok (.value u) w' => w' = w ∧ u = v
  | .ok .skip w' => w' = w ∧ v = undef
  | _ => False
def at_ (P : Program) (o : Oper) (a : Act) (w : World) (v : Value) : Prop := upon w v ((execOp a.eval o).run P w)
attribute [go_sem] upon at_

def YieldsC (P : Program) (ops : Array Oper) (C : World → Prop) (o : Oper) (v : Value) (a : Act) : Prop :=
  (Region.wanted o (yielded ops a.tmps) = true ∧ ∀ w, C w → at_ P o a w v) ∨ (Region.wanted o (yielded ops a.tmps) = false ∧ v = undef)
theorem YieldsC.wpOp {i : Nat} {o : Oper} {v : Value} {a : Act} (hi : ops[i]? = some o) (hy : YieldsC P ops C o v a) {K : Act → World → Prop} {w : World} (hC : C w) (h : K (a.put o.dst v) w) : wpOp P ops Q i K a w := by
  unfold Go.wpOp
  simp only [hi]
  rcases hy with ⟨hw, hv⟩ | ⟨hw, rfl⟩
  · simp only [hw, if_true]
    refine .inl ?_
    have h3 := hv w hC
    unfold at_ at h3
    unfold Oper.wp
    generalize (execOp a.eval o).run P w = r at h3
    cases r with
    | ok n w' =>
      cases n <;> simp only [upon] at h3 <;> simp only [Oper.upon]
      case value u => obtain ⟨rfl, rfl⟩ := h3; exact h
      case skip => obtain ⟨rfl, rfl⟩ := h3; exact h
    | halt x w' => simp only [upon] at h3
  · simp only [hw, Bool.false_eq_true, if_false]; exact h
theorem YieldsC.of_same {o : Oper} {v : Value} {a a' : Act} (hy : YieldsC P ops C o v a) (he : execOp a'.eval o = execOp a.eval o)
    (hw : Region.wanted o (yielded ops a'.tmps) = Region.wanted o (yielded ops a.tmps)) : YieldsC P ops C o v a' := by
  unfold YieldsC at_ at *
  rw [he, hw]
  exact hy
theorem wpOp_put {j : Nat} {oi oj : Oper} {v : Value} (hj : ops[j]? = some oj) (hap : oi.apart ops oj = true)
    (hsi : ∀ cs b, oi.op ≠ .select cs b) (hsj : ∀ cs b, oj.op ≠ .select cs b)
    (hQ : ∀ c a w, Q (.panic c) (a.put oi.dst v) w → Q (.panic c) a w) {K : Act → World → Prop} {a : Act} {w : World}
    (hy : YieldsC P ops C oi v a) (h : Go.wpOp P ops Q j K (a.put oi.dst v) w) :
    Go.wpOp P ops Q j (fun a' w' => YieldsC P ops C oi v a' ∧ K (a'.put oi.dst v) w') a w := by
  obtain ⟨h1, h2, h3⟩ := Oper.apart_spec hap
  have keep : ∀ (a : Act), YieldsC P ops C oi v a → ∀ u, YieldsC P ops C oi v (a.put oj.dst u) := fun a hy u =>
    hy.of_same (execOp_put oi hsi a oj.dst u h3) (wanted_put oi a oj.dst u h3)
  have keepD : ∀ d, YieldsC P ops C oi v { a with defers := d :: a.defers } := fun d => hy.of_same rfl rfl
  unfold Go.wpOp at *
  simp only [hj] at *
  rw [wanted_put oj a oi.dst v h1] at h
  split
  · rename_i hw
    simp only [hw, if_true] at h
    rcases h with h | ⟨hasks, hlets⟩
    case inr => exact .inr ⟨by unfold Oper.asks at *; rw [execOp_put oj hsj a oi.dst v h1] at hasks; exact hasks, hlets⟩
    refine .inl ?_
    unfold Oper.wp at *
    rw [execOp_put oj hsj a oi.dst v h1] at h
    generalize (execOp a.eval oj).run P w = r at *
    cases r with
    | ok n w' =>
      cases n <;> simp only [Oper.upon] at h ⊢
      case value u => exact ⟨keep a hy u, by rw [← Act.put_comm a v u h2]; exact h⟩
      case skip => exact ⟨keep a hy _, by rw [← Act.put_comm a v undef h2]; exact h⟩
      case defer d =>
        refine ⟨keep _ (keepD d) _, ?_⟩
        rw [← Act.put_comm _ v undef h2, ← Act.put_defers]
        exact h
      case enter f args =>
        refine Calls.mono h fun e w'' he => ?_
        cases e with
        | returned u => exact ⟨keep a hy u, by rw [← Act.put_comm a v u h2]; exact he⟩
        | panicked c => exact hQ _ _ _ he
        | outgrown => exact he
      case row row args => exact Rows.mono h fun u w'' he => ⟨keep a hy u, by rw [← Act.put_comm a v u h2]; exact he⟩
    | halt x w' =>
      cases x <;> simp only [Oper.upon] at h ⊢
      case panic u => exact hQ _ _ _ h
  · rename_i hw
    simp only [hw] at h
    exact ⟨keep a hy _, by rw [← Act.put_comm a v undef h2]; exact h⟩

/-- A free operation of the list may still come behind what is listed. -/
def needB (md : Region.Mode) (ops : Array Oper) (Vs Ps : List Nat) (listed : Array Bool) : Bool :=
  Vs.any fun i => (List.range ops.size).all fun k => !listed.getD k false || k == i || Ps.contains k || !((ops.getD k default).after.any fun e => Region.binds md e && e.on == i)
def shut (md : Region.Mode) (ops : Array Oper) (listed : Array Bool) : Prop :=
  ∀ k ok, ops[k]? = some ok → listed.getD k false = true → ∀ e ∈ ok.after, Region.binds md e = true → listed.getD e.on false = true
theorem needB_of {Vs Ps : List Nat} {i : Nat} {listed : Array Bool} (hi : i ∈ Vs) (h : ∀ k ok, ops[k]? = some ok → listed.getD k false = true → k ≠ i → ∀ e ∈ ok.after, Region.binds md e = true → e.on ≠ i) : needB md ops Vs Ps listed = true := by
  refine List.any_eq_true.2 ⟨i, hi, List.all_eq_true.2 fun k hk => ?_⟩
  have hk' : k < ops.size := List.mem_range.1 hk
  have hg : ops.getD k default = ops[k] := by simp [Array.getD_eq_getD_getElem?, hk']
  cases hl : listed.getD k false
  · simp
  · by_cases hki : k = i
    · simp [hki]
    · simp only [Bool.not_true, Bool.false_or, Bool.or_eq_true, beq_iff_eq, hki, false_or, Bool.not_eq_true', hg]
      refine .inr ?_
      rw [Bool.eq_false_iff]
      intro ha
      obtain ⟨e, he, hb⟩ := Array.any_eq_true'.1 ha
      simp only [Bool.and_eq_true, beq_iff_eq] at hb
      exact h k _ (by simp [hk']) hl hki e he hb.1 hb.2

theorem needB_pure {Vs Ps : List Nat} {i : Nat} {listed : Array Bool} (hi : Ps.contains i = true) (h : needB md ops Vs Ps listed = true) : needB md ops Vs Ps (listed.setIfInBounds i true) = true := by
  obtain ⟨v, hv, ha⟩ := List.any_eq_true.1 h
  refine List.any_eq_true.2 ⟨v, hv, List.all_eq_true.2 fun k hk => ?_⟩
  have := List.all_eq_true.1 ha k hk
  by_cases hik : i = k
  · subst hik
    rw [hi]
    simp
  · rw [getD_set_ne false hik]
    exact this
/-- Whatever order is picked, each operation moving the world on for as long as it must. -/
def anyC (P : Program) (md : Region.Mode) (ops : Array Oper) (Le : World → World → Prop) (Vs Ps : List Nat) (Q : Exit → Act → World → Prop) : Nat → Array Bool → Act → World → Prop
  | 0, listed, a, w => Region.ready md ops listed = [] ∧ Q .normal a w
  | fuel + 1, listed, a, w => (Region.ready md ops listed = [] → Q .normal a w) ∧ ∀ i ∈ Region.ready md ops listed, wpOp P ops Q i (fun a' w' => (needB md ops Vs Ps (listed.setIfInBounds i true) = true → Le w w') ∧ anyC P md ops Le Vs Ps Q fuel (listed.setIfInBounds i true) a' w') a w
theorem wpAny_of_anyC {Le : World → World → Prop} {Vs Ps : List Nat} : ∀ (fuel : Nat) (listed : Array Bool) (a : Act) (w : World), anyC P md ops Le Vs Ps Q fuel listed a w → wpAny P md ops Q fuel listed a w
  | 0, _, _, _, h => h
  | fuel + 1, _, _, _, h => ⟨h.1, fun i hi => wpOp_mono (fun a' w' h' => wpAny_of_anyC fuel _ a' w' h'.2) (h.2 i hi)⟩
theorem anyC_first {Le : World → World → Prop} (hrefl : ∀ w, Le w w) (htrans : ∀ w w' w'', Le w w' → Le w' w'' → Le w w'') {Vs Ps : List Nat} {i : Nat} {oi : Oper} {v : Value} (hi : ops[i]? = some oi) (hiV : i ∈ Vs) (hsel : ∀ (j : Nat) (o : Oper) cs b, ops[j]? = some o → o.op ≠ .select cs b)
    (hQ : ∀ c a w, Q (.panic c) (a.put oi.dst v) w → Q (.panic c) a w) :
    ∀ (fuel : Nat) (listed : Array Bool) (a : Act) (w : World), i < listed.size →
      (∀ k ok, ops[k]? = some ok → listed.getD k false = true → k ≠ i → ∀ e ∈ ok.after, Region.binds md e = true → e.on ≠ i) →
      (∀ j oj, ops[j]? = some oj → j ≠ i → listed.getD j true = false → (∀ e ∈ oj.after, Region.binds md e = true → e.on ≠ i) → oi.apart ops oj = true) →
      i ∈ Region.ready md ops listed → YieldsC P ops (Le w) oi v a →
      anyC P md ops Le Vs Ps Q fuel (listed.setIfInBounds i true) (a.put oi.dst v) w → anyC P md ops Le Vs Ps Q (fuel + 1) listed a w := by
  intro fuel
  induction fuel with
  | zero =>
    intro listed a w _ _ _ hr hy H
    refine ⟨fun h => (by rw [h] at hr; cases hr), fun j hj => ?_⟩
    by_cases hji : j = i
    · subst hji; exact hy.wpOp hi (hrefl w) ⟨fun _ => hrefl w, H⟩
    · have := ready_mono hj hji
      rw [H.1] at this
      cases this
  | succ fuel ih =>
    intro listed a w hlt hno hfree hr hy H
    refine ⟨fun h => (by rw [h] at hr; cases hr), fun j hj => ?_⟩
    by_cases hji : j = i
    · subst hji; exact hy.wpOp hi (hrefl w) ⟨fun _ => hrefl w, H⟩
    · have h1 := H.2 j (ready_mono hj hji)
      obtain ⟨hjun, oj, hoj, hall⟩ := mem_ready.1 hj
      have hun := (mem_ready.1 hr).1
      have hnot : ∀ e ∈ oj.after, Region.binds md e = true → e.on ≠ i := fun e he hb heq => by
        have h1 := hall e he hb
        rw [heq, getD_both hun] at h1
        cases h1
      have h2 := wpOp_put hoj (hfree j oj hoj hji hjun hnot) (fun cs b => hsel i oi cs b hi) (fun cs b => hsel j oj cs b hoj) hQ hy h1
      have hfree' : ∀ k ok, ops[k]? = some ok → k ≠ i → (listed.setIfInBounds j true).getD k true = false →
          (∀ e ∈ ok.after, Region.binds md e = true → e.on ≠ i) → oi.apart ops ok = true := fun k ok hk hki hun hno => by
        refine hfree k ok hk hki ?_ hno
        by_cases hjk : j = k
        · subst hjk; exact hjun
        · rw [getD_set_ne true hjk] at hun; exact hun
      have hno' : ∀ k ok, ops[k]? = some ok → (listed.setIfInBounds j true).getD k false = true → k ≠ i → ∀ e ∈ ok.after, Region.binds md e = true → e.on ≠ i := fun k ok hk hl hki e he hb => by
        by_cases hjk : j = k
        · subst hjk; rw [hoj] at hk; injection hk with hk; subst hk; exact hnot e he hb
        · rw [getD_set_ne false hjk] at hl; exact hno k ok hk hl hki e he hb
      have hrdy := ready_mono hr (Ne.symm hji)
      refine wpOp_mono (fun a' w' h3 => ?_) h2
      obtain ⟨h3y, h3l, h4⟩ := h3
      rw [Array.setIfInBounds_comm _ _ (Ne.symm hji)] at h4 h3l
      have hle : Le w w' := h3l (needB_of hiV fun k ok hk hl hki => by
        rw [getD_set_ne false (Ne.symm hki)] at hl
        exact hno' k ok hk hl hki)
      exact ⟨fun _ => hle, ih (listed.setIfInBounds j true) a' w' (by simpa using hlt) hno' hfree' hrdy
        (by
          rcases h3y with ⟨hw, hv⟩ | ⟨hw, rfl⟩
          · exact .inl ⟨hw, fun w'' h'' => hv w'' (htrans _ _ _ hle h'')⟩
          · exact .inr ⟨hw, rfl⟩) h4⟩

/-- .. of an operation that does not look at the world at all. -/
theorem anyC_first_pure {Le : World → World → Prop} (hrefl : ∀ w, Le w w) {Vs Ps : List Nat} {i : Nat} {oi : Oper} {v : Value} (hi : ops[i]? = some oi) (hiP : Ps.contains i = true) (hsel : ∀ (j : Nat) (o : Oper) cs b, ops[j]? = some o → o.op ≠ .select cs b)
    (hQ : ∀ c a w, Q (.panic c) (a.put oi.dst v) w → Q (.panic c) a w) :
    ∀ (fuel : Nat) (listed : Array Bool) (a : Act) (w : World), i < listed.size →
      (∀ k ok, ops[k]? = some ok → listed.getD k false = true → k ≠ i → ∀ e ∈ ok.after, Region.binds md e = true → e.on ≠ i) →
      (∀ j oj, ops[j]? = some oj → j ≠ i → listed.getD j true = false → (∀ e ∈ oj.after, Region.binds md e = true → e.on ≠ i) → oi.apart ops oj = true) →
      i ∈ Region.ready md ops listed → YieldsC P ops (fun _ => True) oi v a →
      anyC P md ops Le Vs Ps Q fuel (listed.setIfInBounds i true) (a.put oi.dst v) w → anyC P md ops Le Vs Ps Q (fuel + 1) listed a w := by
  intro fuel
  induction fuel with
  | zero =>
    intro listed a w _ _ _ hr hy H
    refine ⟨fun h => (by rw [h] at hr; cases hr), fun j hj => ?_⟩
    by_cases hji : j = i
    · subst hji; exact hy.wpOp hi trivial ⟨fun _ => hrefl w, H⟩
    · have := ready_mono hj hji
      rw [H.1] at this
      cases this
  | succ fuel ih =>
    intro listed a w hlt hno hfree hr hy H
    refine ⟨fun h => (by rw [h] at hr; cases hr), fun j hj => ?_⟩
    by_cases hji : j = i
    · subst hji; exact hy.wpOp hi trivial ⟨fun _ => hrefl w, H⟩
    · have h1 := H.2 j (ready_mono hj hji)
      obtain ⟨hjun, oj, hoj, hall⟩ := mem_ready.1 hj
      have hun := (mem_ready.1 hr).1
      have hnot : ∀ e ∈ oj.after, Region.binds md e = true → e.on ≠ i := fun e he hb heq => by
        have h1 := hall e he hb
        rw [heq, getD_both hun] at h1
        cases h1
      have h2 := wpOp_put hoj (hfree j oj hoj hji hjun hnot) (fun cs b => hsel i oi cs b hi) (fun cs b => hsel j oj cs b hoj) hQ hy h1
      have hfree' : ∀ k ok, ops[k]? = some ok → k ≠ i → (listed.setIfInBounds j true).getD k true = false →
          (∀ e ∈ ok.after, Region.binds md e = true → e.on ≠ i) → oi.apart ops ok = true := fun k ok hk hki hun hno => by
        refine hfree k ok hk hki ?_ hno
        by_cases hjk : j = k
        · subst hjk; exact hjun
        · rw [getD_set_ne true hjk] at hun; exact hun
      have hno' : ∀ k ok, ops[k]? = some ok → (listed.setIfInBounds j true).getD k false = true → k ≠ i → ∀ e ∈ ok.after, Region.binds md e = true → e.on ≠ i := fun k ok hk hl hki e he hb => by
        by_cases hjk : j = k
        · subst hjk; rw [hoj] at hk; injection hk with hk; subst hk; exact hnot e he hb
        · rw [getD_set_ne false hjk] at hl; exact hno k ok hk hl hki e he hb
      have hrdy := ready_mono hr (Ne.symm hji)
      refine wpOp_mono (fun a' w' h3 => ?_) h2
      obtain ⟨h3y, h3l, h4⟩ := h3
      rw [Array.setIfInBounds_comm _ _ (Ne.symm hji)] at h4 h3l
      exact ⟨fun hne => h3l (by
        rw [← Array.setIfInBounds_comm _ _ (Ne.symm hji)]
        rw [Array.setIfInBounds_comm _ _ (Ne.symm hji)]
        exact needB_pure hiP hne), ih (listed.setIfInBounds j true) a' w' (by simpa using hlt) hno' hfree' hrdy h3y h4⟩

/-- The exits: only the plain one. -/
def only (Q : Act → World → Prop) : Exit → Act → World → Prop
  | .normal, a, w => Q a w
  | _, _, _ => False

/-- The walk: (free, the world is asked behind it, operation). -/
def wpF (P : Program) (ops : Array Oper) (Le : World → World → Prop) (Q : Act → World → Prop) : List (Bool × Bool × Oper) → Act → World → Prop
  | [], a, w => Q a w
  | (true, true, o) :: rest, a, w => if Region.wanted o (yielded ops a.tmps) then ∃ v, (∀ w', Le w w' → at_ P o a w' v) ∧ wpF P ops Le Q rest (a.put o.dst v) w else wpF P ops Le Q rest (a.put o.dst undef) w
  | (true, false, o) :: rest, a, w => if Region.wanted o (yielded ops a.tmps) then ∃ v, (∀ w', at_ P o a w' v) ∧ wpF P ops Le Q rest (a.put o.dst v) w else wpF P ops Le Q rest (a.put o.dst undef) w
  | (false, need, o) :: rest, a, w => wpList P ops (only fun a' w' => (need = true → Le w w') ∧ wpF P ops Le Q rest a' w') [o] a w
section
variable {Le : World → World → Prop}
theorem wpF_nil {Q : Act → World → Prop} {a : Act} {w : World} (h : Q a w) : wpF P ops Le Q [] a w := h
theorem wpF_pure {Q : Act → World → Prop} {a : Act} {w : World} {o : Oper} {rest : List (Bool × Bool × Oper)}
    (h : ∀ K : Act → World → Prop, (∀ a w, wpF P ops Le Q rest a w → K a w) → if Region.wanted o (yielded ops a.tmps) then ∃ v, (∀ w', at_ P o a w' v) ∧ K (a.put o.dst v) w else K (a.put o.dst undef) w) : wpF P ops Le Q ((true, false, o) :: rest) a w :=
  h _ (fun _ _ h => h)
theorem wpF_free {Q : Act → World → Prop} {a : Act} {w : World} {o : Oper} {rest : List (Bool × Bool × Oper)}
    (h : ∀ K : Act → World → Prop, (∀ a w, wpF P ops Le Q rest a w → K a w) → if Region.wanted o (yielded ops a.tmps) then ∃ v, (∀ w', Le w w' → at_ P o a w' v) ∧ K (a.put o.dst v) w else K (a.put o.dst undef) w) : wpF P ops Le Q ((true, true, o) :: rest) a w :=
  h _ (fun _ _ h => h)
theorem wpF_must {Q : Act → World → Prop} {a : Act} {w : World} {o : Oper} {b : Bool} {rest : List (Bool × Bool × Oper)}
    (h : ∀ K : Act → World → Prop, (∀ a w', (b = true → Le w w') → wpF P ops Le Q rest a w' → K a w') → wpList P ops (only K) [o] a w) : wpF P ops Le Q ((false, b, o) :: rest) a w :=
  h _ (fun _ _ h1 h2 => ⟨h1, h2⟩)
end

/-- The order may be taken: computed. -/
def orderB (md : Region.Mode) (ops : Array Oper) (Vs Ps : List Nat) : List (Bool × Bool × Nat) → Array Bool → Bool
  | [], listed => (Region.ready md ops listed).isEmpty
  | (true, true, k) :: ks, listed => (Region.ready md ops listed).contains k && Vs.contains k && Region.free md ops listed k && orderB md ops Vs Ps ks (listed.setIfInBounds k true)
  | (true, false, k) :: ks, listed => (Region.ready md ops listed).contains k && Ps.contains k && Region.free md ops listed k && orderB md ops Vs Ps ks (listed.setIfInBounds k true)
  | (false, need, k) :: ks, listed => decide (Region.ready md ops listed = [k]) && (need || !needB md ops Vs Ps (listed.setIfInBounds k true)) && orderB md ops Vs Ps ks (listed.setIfInBounds k true)

theorem unlisted_shut {i : Nat} {listed : Array Bool} (hs : shut md ops listed) (hun : listed.getD i false = false) :
    ∀ k ok, ops[k]? = some ok → listed.getD k false = true → k ≠ i → ∀ e ∈ ok.after, Region.binds md e = true → e.on ≠ i := fun k ok hk hl hki e he hb heq => by
  have := hs k ok hk hl e he hb
  rw [heq, hun] at this
  cases this
theorem needB_shut {Vs : List Nat} {i : Nat} {listed : Array Bool} (hi : i ∈ Vs) (hs : shut md ops listed) (hun : listed.getD i false = false) :
    ∀ k ok, ops[k]? = some ok → listed.getD k false = true → k ≠ i → ∀ e ∈ ok.after, Region.binds md e = true → e.on ≠ i := fun k ok hk hl hki e he hb heq => by
  have := hs k ok hk hl e he hb
  rw [heq, hun] at this
  cases this
theorem shut_set {listed : Array Bool} {i : Nat} (hs : shut md ops listed) (hr : i ∈ Region.ready md ops listed) : shut md ops (listed.setIfInBounds i true) := fun k ok hk hl e he hb => by
  obtain ⟨_, o, ho, hall⟩ := mem_ready.1 hr
  by_cases hik : i = k
  · subst hik
    rw [ho] at hk; injection hk with hk; subst hk
    exact getD_set_true (hall e he hb)
  · rw [getD_set_ne false hik] at hl
    exact getD_set_true (hs k ok hk hl e he hb)
theorem anyC_order {Le : World → World → Prop} (hrefl : ∀ w, Le w w) (htrans : ∀ w w' w'', Le w w' → Le w' w'' → Le w w'') {Vs Ps : List Nat} {Qf : Act → World → Prop} (hsel : Region.noSelect ops = true) :
    ∀ (ks : List (Bool × Bool × Nat)) (listed : Array Bool) (a : Act) (w : World), listed.size = ops.size → shut md ops listed → orderB md ops Vs Ps ks listed = true →
      wpF P ops Le Qf (ks.map fun k => (k.1, k.2.1, ops.getD k.2.2 default)) a w → anyC P md ops Le Vs Ps (only Qf) ks.length listed a w
  | [], listed, a, w, _, _, hB, h => ⟨by simpa [orderB] using hB, h⟩
  | (true, true, k) :: ks, listed, a, w, hsz, hs, hB, h => by
    simp only [orderB, Bool.and_eq_true] at hB
    obtain ⟨⟨⟨hr, hV⟩, hf⟩, hB'⟩ := hB
    have hr' : k ∈ Region.ready md ops listed := by simpa using hr
    have hV' : k ∈ Vs := by simpa using hV
    obtain ⟨hun, o, ho, _⟩ := mem_ready.1 hr'
    have hlt : k < ops.size := (Array.getElem?_eq_some_iff.1 ho).1
    have hog : ops.getD k default = o := by simp [Array.getD_eq_getD_getElem?, ho]
    have hno := needB_shut hV' hs (getD_both hun)
    simp only [List.map_cons, hog, wpF] at h
    have hst : ∃ v, YieldsC P ops (Le w) o v a ∧ wpF P ops Le Qf (ks.map fun k => (k.1, k.2.1, ops.getD k.2.2 default)) (a.put o.dst v) w := by
      by_cases hw : Region.wanted o (yielded ops a.tmps) = true
      · simp only [hw, if_true] at h
        obtain ⟨v, h1, h2⟩ := h
        exact ⟨v, .inl ⟨hw, h1⟩, h2⟩
      · simp only [hw] at h
        exact ⟨undef, .inr ⟨by simpa using hw, rfl⟩, h⟩
    obtain ⟨v, hy, hK⟩ := hst
    exact anyC_first hrefl htrans ho hV' (Region.noSelect_spec hsel) (fun _ _ _ h => h) ks.length listed a w (by omega) hno (Region.free_spec ho hf) hr' hy
      (anyC_order hrefl htrans hsel ks _ _ w (by simpa using hsz) (shut_set hs hr') hB' hK)
  | (true, false, k) :: ks, listed, a, w, hsz, hs, hB, h => by
    simp only [orderB, Bool.and_eq_true] at hB
    obtain ⟨⟨⟨hr, hV⟩, hf⟩, hB'⟩ := hB
    have hr' : k ∈ Region.ready md ops listed := by simpa using hr
    obtain ⟨hun, o, ho, _⟩ := mem_ready.1 hr'
    have hlt : k < ops.size := (Array.getElem?_eq_some_iff.1 ho).1
    have hog : ops.getD k default = o := by simp [Array.getD_eq_getD_getElem?, ho]
    have hno := unlisted_shut hs (getD_both hun)
    simp only [List.map_cons, hog, wpF] at h
    have hst : ∃ v, YieldsC P ops (fun _ => True) o v a ∧ wpF P ops Le Qf (ks.map fun k => (k.1, k.2.1, ops.getD k.2.2 default)) (a.put o.dst v) w := by
      by_cases hw : Region.wanted o (yielded ops a.tmps) = true
      · simp only [hw, if_true] at h
        obtain ⟨v, h1, h2⟩ := h
        exact ⟨v, .inl ⟨hw, fun w' _ => h1 w'⟩, h2⟩
      · simp only [hw] at h
        exact ⟨undef, .inr ⟨by simpa using hw, rfl⟩, h⟩
    obtain ⟨v, hy, hK⟩ := hst
    exact anyC_first_pure hrefl ho hV (Region.noSelect_spec hsel) (fun _ _ _ h => h) ks.length listed a w (by omega) hno (Region.free_spec ho hf) hr' hy
      (anyC_order hrefl htrans hsel ks _ _ w (by simpa using hsz) (shut_set hs hr') hB' hK)
  | (false, b, k) :: ks, listed, a, w, hsz, hs, hB, h => by
    simp only [orderB, Bool.and_eq_true, decide_eq_true_eq] at hB
    obtain ⟨⟨hr, hn⟩, hB'⟩ := hB
    have hr' : k ∈ Region.ready md ops listed := by rw [hr]; simp
    obtain ⟨hun, o, ho, _⟩ := mem_ready.1 hr'
    have hog : ops.getD k default = o := by simp [Array.getD_eq_getD_getElem?, ho]
    refine ⟨fun h => (by rw [h] at hr; cases hr), fun j hj => ?_⟩
    rw [hr] at hj
    simp only [List.mem_singleton] at hj
    subst hj
    have hnext : ∀ a' w', ((b = true → Le w w') ∧ wpF P ops Le Qf (ks.map fun k => (k.1, k.2.1, ops.getD k.2.2 default)) a' w') →
        (needB md ops Vs Ps (listed.setIfInBounds j true) = true → Le w w') ∧ anyC P md ops Le Vs Ps (only Qf) ks.length (listed.setIfInBounds j true) a' w' := fun a' w' ⟨h1, h2⟩ => by
      refine ⟨fun hne => h1 ?_, anyC_order hrefl htrans hsel ks _ a' w' (by simpa using hsz) (shut_set hs hr') hB' h2⟩
      rw [hne] at hn
      simpa using hn
    simp only [List.map_cons, hog, wpF, wpList] at h
    unfold wpOp
    simp only [ho]
    split
    · rename_i hw
      simp only [hw, if_true] at h
      rcases h with h | h
      · refine .inl ?_
        unfold Oper.wp at *
        generalize (execOp a.eval o).run P w = r at *
        cases r with
        | ok n w' =>
          cases n <;> simp only [Oper.upon] at h ⊢ <;>
            first
              | exact hnext _ _ h
              | exact Calls.mono h (fun e w'' he => by cases e <;> first | exact hnext _ _ he | exact he.elim | exact he)
              | exact Rows.mono h (fun _ _ he => hnext _ _ he)
        | halt x w' => cases x <;> simp only [Oper.upon] at h ⊢ <;> first | exact h.elim | exact h
      · obtain ⟨_, _, _, hf⟩ := h; exact hf.elim
    · rename_i hw
      simp only [hw] at h
      exact hnext _ _ h

/-- **THE RULE.** Le: what an operation may do to the world; Vs: the free operations; ks: the order that is walked: (free, the world is asked behind it, which). -/
theorem wp_region_first {id : Nat} {Q : Exit → Act → World → Prop} {a : Act} {w : World} {l : List Oper} (Le : World → World → Prop) (hrefl : ∀ w, Le w w) (htrans : ∀ w w' w'', Le w w' → Le w' w'' → Le w w'') (Vs Ps : List Nat) (ks : List (Bool × Bool × Nat)) (hm : P.follows .mixedOrders = true)
    (hB : (Region.noSelect l.toArray && decide (ks.length = l.length) && orderB .any l.toArray Vs Ps ks (Array.replicate l.length false)) = true)
    (h : wpF P l.toArray Le (Q .normal) (ks.map fun k => (k.1, k.2.1, l.getD k.2.2 default)) a { w with drawn := w.drawn + 1 }) : (Code.region id l.toArray true).wp P Q a w := by
  simp only [Bool.and_eq_true, decide_eq_true_eq] at hB
  obtain ⟨⟨hsel, hlen⟩, hB⟩ := hB
  have hgd : ∀ k, l.toArray.getD k default = l.getD k default := fun k => by simp [Array.getD_eq_getD_getElem?, List.getD_eq_getElem?_getD]
  refine Code.wp_mono (Q := only (Q .normal)) (fun e a w q => by cases e <;> first | exact q | exact q.elim) ?_
  refine wp_region_any hm ?_
  have hl : l.toArray.size = l.length := by simp
  have := anyC_order (P := P) (md := .any) hrefl htrans (Vs := Vs) (Ps := Ps) (Qf := Q .normal) hsel ks (Array.replicate l.length false) a { w with drawn := w.drawn + 1 } (by simp)
    (fun k ok _ hl => (by rw [getD_replicate_false] at hl; cases hl)) hB (by simpa only [hgd] using h)
  rw [hlen] at this
  rw [hl]
  exact wpAny_of_anyC _ _ _ _ this
/-- 'Grown from': the worlds of calls that make new memory alone. -/
def Grown (w w' : World) : Prop := ∃ X : Ext, w' = w.ext X
theorem Grown.refl (w : World) : Grown w w := ⟨⟨#[], w.drawn⟩, by simp [World.ext]⟩
theorem Grown.ext (w : World) (X : Ext) : Grown w (w.ext X) := ⟨X, rfl⟩
theorem Grown.cat (w : World) (X Y : Ext) : Grown (w.ext X) (w.ext (X.cat Y)) := ⟨Y, (World.ext_ext w X Y).symm⟩
theorem grown_all {w : World} {p : World → Prop} : (∀ w', Grown w w' → p w') ↔ ∀ X : Ext, p (w.ext X) := ⟨fun h X => h _ ⟨X, rfl⟩, fun h w' ⟨X, e⟩ => e ▸ h X⟩
/-- .. the worlds that have grown from the region's. -/
theorem wp_region_first_ext {id : Nat} {Q : Exit → Act → World → Prop} {a : Act} {w : World} {l : List Oper} (Vs Ps : List Nat) (ks : List (Bool × Bool × Nat)) (hm : P.follows .mixedOrders = true)
    (hB : (Region.noSelect l.toArray && decide (ks.length = l.length) && orderB .any l.toArray Vs Ps ks (Array.replicate l.length false)) = true)
    (h : ∀ X, wpF P l.toArray Grown (Q .normal) (ks.map fun k => (k.1, k.2.1, l.getD k.2.2 default)) a (w.ext X)) : (Code.region id l.toArray true).wp P Q a w := by
  have hw₁ : ({ w with drawn := w.drawn + 1 } : World) = w.ext ⟨#[], w.drawn + 1⟩ := by simp [World.ext]
  exact wp_region_first _ Grown.refl (fun w w' w'' ⟨X, hX⟩ ⟨Y, hY⟩ => ⟨X.cat Y, by rw [hY, hX, World.ext_ext]⟩) Vs Ps ks hm hB (hw₁ ▸ h _)
attribute [go_sem] only grown_all
end
end Go.First
abbrev Go.wfp := @Go.First.wpF_pure
abbrev Go.wff := @Go.First.wpF_free

/-! Strings and byte slices by lists of numbers. -/
namespace Go
open Go.RowKit Go.ChangeShapes Go.WideShapes Go.ChangeAt Go.Proofs
theorem byte_of_lit {x : Int} (h : (Lit.int .u8 x).wf = true) : 0 ≤ x ∧ x < 256 := by
  have h1 : IntKind.u8.min = 0 := rfl
  have h2 : IntKind.u8.max = 255 := rfl
  simp only [Lit.wf, Bool.and_eq_true, decide_eq_true_eq] at h
  omega
def u8s (l : List Nat) : List Value := l.map fun (n : Nat) => Value.int .u8 (n : Int)
theorem u8s_append (l m : List Nat) : u8s (l ++ m) = u8s l ++ u8s m := by simp [u8s]
theorem u8s_length (l : List Nat) : (u8s l).length = l.length := by simp [u8s]
theorem u8s_get (l : List Nat) (i : Nat) : (u8s l)[i]? = l[i]?.map fun (n : Nat) => Value.int .u8 (n : Int) := by simp [u8s]
def strOf (l : List Nat) : ByteArray := strOfNums (l.map fun (n : Nat) => (n : Int))
theorem strOf_toList (l : List Nat) : (strOf l).toList = l.map UInt8.ofNat := by
  unfold strOf
  rw [Lib.strOfNums_toList]
  simp [Lib.bytesOf, Function.comp_def]
theorem strOf_size (l : List Nat) : (strOf l).size = l.length := by simp [strOf, strOfNums_size]
theorem strOf_inj {l m : List Nat} (hl : ∀ x ∈ l, x < 256) (hm : ∀ x ∈ m, x < 256) (h : (strOf l).toList = (strOf m).toList) : l = m := by
  rw [strOf_toList, strOf_toList] at h
  have : ∀ k : List Nat, (∀ x ∈ k, x < 256) → (k.map UInt8.ofNat).map UInt8.toNat = k := fun k hk => by
    rw [List.map_map]
    conv => rhs; rw [← List.map_id k]
    exact List.map_congr_left fun x hx => by simp [Nat.mod_eq_of_lt (hk x hx)]
  have h2 := congrArg (List.map UInt8.toNat) h
  rwa [this l hl, this m hm] at h2
theorem conv_bytes {P : Program} {w : World} {B n : Nat} {src dst e : TypeId} {A : Option Addr} {l : List Nat} (h : Reads w B 1 A n (u8s l)) (hs : P.underlying src = some (.slice e)) (he : P.underlying e = some (.int .u8)) (hd : P.underlying dst = some .string) (c : Nat) :
    (convert src dst (.slice A n c)).run P w = .ok (.string (strOf l)) w := by
  have hl : l.length = n := by have := h.1; rw [u8s_length] at this; omega
  by_cases hn : n = 0
  · subst hn
    obtain rfl : l = [] := List.length_eq_zero_iff.1 hl
    have e0 : strOf [] = ByteArray.empty := rfl
    rw [e0]
    cases A with
    | none => exact run_convert_bytes_nil w src e hs he 0 c dst hd
    | some a =>
      rw [run_convert_bytes_string w src dst e (some a) 0 c hs he hd]
      simp [Conv.bytesToString, loadCells]
      rfl
  · obtain ⟨b, o, rfl, _, hc⟩ := h.plain (by omega) (by omega)
    exact run_convert_bytes_arg w src e hs he b o n c (l.map fun (n : Nat) => (n : Int)) (by simp [hl]) (fun i hi => by
      have hi' : i < l.length := by omega
      rw [hc i _ (by rw [u8s_get, List.getElem?_eq_getElem hi']; rfl)]
      simp [List.getD, hi']) dst hd
theorem conv_of {P : Program} {w : World} {B n : Nat} {src dst e : TypeId} {A : Option Addr} {l : List Nat} (_ : Reads w B 1 A n (u8s l)) (hs : P.underlying src = some (.slice e)) (he : P.underlying e = some (.int .u8)) (hd : P.underlying dst = some .string) :
    ∀ (c : Nat) W, Reads W B 1 A n (u8s l) → (convert src dst (.slice A n c)).run P W = .ok (.string (strOf l)) W := fun c W h => conv_bytes h hs he hd c
theorem bytes_open {H : Type} {enc : TypeId × Value → H} {P : Program} {t e : TypeId} {base : Nat} {d : DataW H} {p : List MemPlace} (ht : P.underlying t = some (.slice e)) (he : P.underlying e = some (.int .u8)) (hc : P.cellsOf e = 1) {W : World} {v : Value}
    (hv : Value.okWide P W .any base t v) (h : DataW.Trod enc P W 0 (fun _ => true) true t v d p) (hp : ∀ x ∈ p, x.block < W.heap.size) :
    ∃ A n c l, v = .slice A n c ∧ n ≤ c ∧ Reads W W.heap.size 1 A n (u8s l) ∧ ∀ x ∈ l, x < 256 := by
  obtain ⟨A, n, c, rfl⟩ := okWide_slice ht hv
  obtain ⟨fuel, hf⟩ := h
  rcases open_ints ht he hc hf with ⟨hcs, hx⟩ | ⟨a, len', cap', zs, hcs, _, hl, hm, hz, hx, hcell, hwz⟩
  · simp [Value.cells] at hcs
    obtain ⟨rfl, rfl, rfl⟩ := hcs
    exact ⟨none, 0, 0, [], rfl, by omega, Reads.none_, fun _ h => by cases h⟩
  · simp [Value.cells] at hcs
    obtain ⟨rfl, rfl, rfl⟩ := hcs
    simp only [if_true] at hz
    have hb : ∀ x ∈ zs, 0 ≤ x ∧ x < 256 := fun x hx => byte_of_lit (hwz x hx)
    refine ⟨some a, n, c, (zs.take n).map Int.toNat, rfl, by omega, ⟨by simp [u8s]; omega, fun hn => ⟨a, rfl, ?_, fun j u hu => ?_⟩⟩, fun x hx => ?_⟩
    · have := World.block_lt_of_cell? _ _ (hcell 0 (by omega))
      rwa [block_of_add] at this
    · rw [u8s_get] at hu
      have hj : j < n := by
        rcases Nat.lt_or_ge j n with h | h
        · exact h
        · rw [List.getElem?_eq_none (by simp; omega)] at hu; cases hu
      have hjz : j < zs.length := by omega
      rw [hcell j hjz]
      simp [List.getElem?_take, hj, hjz] at hu
      rw [← hu]
      have := hb zs[j] (List.getElem_mem hjz)
      simp [List.getD, hjz]
      omega
    · obtain ⟨y, hy, rfl⟩ := List.mem_map.1 hx
      have := hb y (List.mem_of_mem_take hy)
      omega
/-- What is behind a string conversion reads as its bytes. -/
def numsOf (s : ByteArray) : List Nat := s.data.toList.map UInt8.toNat
theorem numsOf_strOf {l : List Nat} (hl : ∀ x ∈ l, x < 256) : numsOf (strOf l) = l := by
  unfold numsOf strOf strOfNums
  simp only [List.map_map]
  conv => rhs; rw [← List.map_id l]
  exact List.map_congr_left fun x hx => by
    have := hl x hx
    show (UInt8.ofNat (Int.toNat (x : Int))).toNat = x
    rw [Int.toNat_natCast, UInt8.toNat_ofNat']
    omega
theorem numsOf_length (s : ByteArray) : (numsOf s).length = s.size := by
  show (s.data.toList.map UInt8.toNat).length = s.data.size
  rw [List.length_map, Array.length_toList]
theorem numsOf_lt (s : ByteArray) : ∀ x ∈ numsOf s, x < 256 := fun x hx => by
  obtain ⟨y, _, rfl⟩ := List.mem_map.1 hx
  exact y.toNat_lt
theorem strOf_numsOf (s : ByteArray) : strOf (numsOf s) = s := by
  unfold strOf numsOf strOfNums
  apply ByteArray.ext
  apply Array.toList_inj.1
  simp only [List.map_map]
  conv => rhs; rw [← List.map_id s.data.toList]
  exact List.map_congr_left fun x _ => by simp
/-- '[]byte(s)'. -/
theorem bytesWorld_reads (w : World) (e : TypeId) (s : ByteArray) : Reads (Lib.bytesWorld w e s) (w.heap.size + 1) 1 (some ⟨w.heap.size, 0, none⟩) s.size (u8s (numsOf s)) := by
  refine ⟨by simp [u8s_length, numsOf_length], fun _ => ⟨_, rfl, by simp, fun j u hu => ?_⟩⟩
  have hj : j < s.size := by
    rcases Nat.lt_or_ge j s.size with h | h
    · exact h
    · rw [List.getElem?_eq_none (by simp [u8s_length, numsOf_length]; omega)] at hu; cases hu
  rw [add_plain, Nat.zero_add, Lib.bytesWorld_cell w e s j hj]
  rw [u8s_get] at hu
  have hj' : j < s.data.toList.length := by rw [Array.length_toList]; exact hj
  simp only [numsOf, List.getElem?_map, List.getElem?_eq_getElem hj', Option.map_some] at hu
  rw [← hu, List.getD_eq_getElem?_getD, List.getElem?_eq_getElem hj']
  rfl
theorem bytesWorld_below (w : World) (e : TypeId) (s : ByteArray) : Below w.heap.size w (Lib.bytesWorld w e s) :=
  ⟨rfl, rfl, rfl, by rw [Lib.bytesWorld_size]; omega, fun k hk => Lib.bytesWorld_at_old w e s k hk⟩
noncomputable def bytesExt (w : World) (e : TypeId) (s : ByteArray) : Ext := Classical.choose (World.ext_of_below (bytesWorld_below w e s))
theorem bytesExt_eq (w : World) (e : TypeId) (s : ByteArray) : Lib.bytesWorld w e s = w.ext (bytesExt w e s) := Classical.choose_spec (World.ext_of_below (bytesWorld_below w e s))
@[simp] theorem bytesExt_size (w : World) (e : TypeId) (s : ByteArray) : (bytesExt w e s).blocks.size = 1 := by
  have h := Lib.bytesWorld_size w e s
  rw [bytesExt_eq, World.size_ext] at h
  omega
theorem bytesExt_reads (w : World) (e : TypeId) (s : ByteArray) : Reads (w.ext (bytesExt w e s)) (w.ext (bytesExt w e s)).heap.size 1 (some ⟨w.heap.size, 0, none⟩) s.size (u8s (numsOf s)) := by
  have h := bytesWorld_reads w e s
  rw [bytesExt_eq] at h
  exact h.more (by simp [World.size_ext])
theorem conv_string {P : Program} {src dst e : TypeId} {u : TypeDesc} (hs : P.underlying src = some u) (hd : P.underlying dst = some (.slice e)) (he : P.underlying e = some (.int .u8)) (s : ByteArray) (w : World) :
    (convert src dst (.string s)).run P w = .ok (.slice (some ⟨w.heap.size, 0, none⟩) s.size (grownCap w s.size 0 e)) (w.ext (bytesExt w e s)) := by
  rw [Lib.run_convert_string_bytes w src dst e s hs hd he, bytesExt_eq]
end Go

/-! An operation that is not wanted, in the walks of a region that draws. -/
namespace Go.Proofs.YtamnononemallaaDoor
open Go.RowKit
theorem quiet_skip {P : Program} {ops : Array Oper} {C : World → Prop} {Q : Act → Prop} {a b : Act} {o : Oper} {rest : List Oper} (h : Region.wanted o (yielded ops a.tmps) = false) (hb : a.put o.dst undef = b) (hk : wpQuiet P ops C Q rest b) : wpQuiet P ops C Q (o :: rest) a :=
  wpQuiet_step fun K hK => by rw [h]; exact hb ▸ hK _ (hb ▸ hk)
theorem quiet_skipN {P : Program} {ops : Array Oper} {C : World → Prop} {Q : Act → Prop} {a : Act} {o : Oper} {rest : List Oper} (h : Region.wanted o (yielded ops a.tmps) = false) (hk : ∀ K : Act → Prop, (∀ a, wpQuiet P ops C Q rest a → K a) → K (a.put o.dst undef)) : wpQuiet P ops C Q (o :: rest) a :=
  quiet_skip h rfl (hk _ fun _ h => h)
theorem first_skip {P : Program} {ops : Array Oper} {Le : World → World → Prop} {Q : Act → World → Prop} {a b : Act} {w : World} {o : Oper} {f : Bool} {rest : List (Bool × Bool × Oper)} (h : Region.wanted o (yielded ops a.tmps) = false) (hb : a.put o.dst undef = b) (hk : First.wpF P ops Le Q rest b w) : First.wpF P ops Le Q ((true, f, o) :: rest) a w := by
  cases f
  · exact First.wpF_pure fun K hK => by rw [h]; exact hb ▸ hK _ _ (hb ▸ hk)
  · exact First.wpF_free fun K hK => by rw [h]; exact hb ▸ hK _ _ (hb ▸ hk)
theorem first_skipN {P : Program} {ops : Array Oper} {Le : World → World → Prop} {Q : Act → World → Prop} {a : Act} {w : World} {o : Oper} {f : Bool} {rest : List (Bool × Bool × Oper)} (h : Region.wanted o (yielded ops a.tmps) = false) (hk : ∀ K : Act → World → Prop, (∀ a w, First.wpF P ops Le Q rest a w → K a w) → K (a.put o.dst undef) w) : First.wpF P ops Le Q ((true, f, o) :: rest) a w :=
  first_skip h rfl (hk _ fun _ _ h => h)
end Go.Proofs.YtamnononemallaaDoor

/-! Only one old block is changed. -/
namespace Go.Proofs.YtamnononemallaaDoor
open Go.RowKit
/-- Only one old block is changed. -/
structure Only (w w' : World) (g : Nat) : Prop where
  os : w'.os = w.os
  tape : w'.tape = w.tape
  output : w'.output = w.output
  size : w.heap.size ≤ w'.heap.size
  block : ∀ k, k < w.heap.size → k ≠ g → w'.heap[k]? = w.heap[k]?
theorem Only.refl (w : World) (g : Nat) : Only w w g := ⟨rfl, rfl, rfl, Nat.le_refl _, fun _ _ _ => rfl⟩
theorem Only.trans {w w' w'' : World} {g : Nat} (h : Only w w' g) (k : Only w' w'' g) : Only w w'' g :=
  ⟨k.os.trans h.os, k.tape.trans h.tape, k.output.trans h.output, Nat.le_trans h.size k.size, fun i hi hg => (k.block i (Nat.lt_of_lt_of_le hi h.size) hg).trans (h.block i hi hg)⟩
theorem Only.of_below {w w' : World} {g : Nat} (h : Below w.heap.size w w') : Only w w' g := ⟨h.os, h.tape, h.output, h.size, fun k hk _ => h.block k hk⟩
theorem Only.below {w w' : World} {g B : Nat} (h : Only w w' g) (hB : B ≤ g) (hs : B ≤ w.heap.size) : Below B w w' := ⟨h.os, h.tape, h.output, h.size, fun k hk => h.block k (by omega) (by omega)⟩
theorem Only.setCell (w : World) (g i : Nat) (u : Value) : Only w (w.setCell ⟨g, i, none⟩ u) g := ⟨rfl, rfl, rfl, by simp, fun k hk hg => Below.heap_setCell w _ _ k hg⟩
theorem Only.alloc {w W : World} {g : Nat} (h : Only w W g) (o : Obj) : Only w (W.alloc o) g := h.trans (Only.of_below (Below.alloc (Below.refl _ _) (Nat.le_refl _) o))
theorem Only.ext {w W : World} {g : Nat} (h : Only w W g) (X : Ext) : Only w (W.ext X) g := h.trans (Only.of_below (World.below_ext W X))
theorem Only.set_ {w W : World} {g : Nat} (h : Only w W g) {p : Addr} (hp : p.block = g ∨ w.heap.size ≤ p.block) (u : Value) : Only w (W.setCell p u) g :=
  ⟨h.os, h.tape, h.output, by simpa using h.size, fun k hk hg => (Below.heap_setCell W p u k (by omega)).trans (h.block k hk hg)⟩
theorem Blk.made (w : World) (o : Obj) (t : TypeId) (cs : Array Value) : Blk ((w.alloc o).alloc (.cells cs t)) (w.heap.size + 1) t cs := by
  have := Blk.new (w.alloc o) t cs
  rwa [World.size_alloc] at this
theorem Blk.only {w w' : World} {g k : Nat} {t : TypeId} {cs : Array Value} (h : Blk w k t cs) (ho : Only w w' g) (hne : k ≠ g) : Blk w' k t cs := (ho.block k (Blk.lt h) hne).trans h
end Go.Proofs.YtamnononemallaaDoor

/-! A region that draws, whose operations change one old block at most. -/
namespace Go.Proofs.YtamnononemallaaDoor
open Go.RowKit
theorem wp_region_only (p : Nat) {P : Program} {id : Nat} {Q : Exit → Act → World → Prop} {a : Act} {w : World} {l : List Oper} (Vs Ps : List Nat) (ks : List (Bool × Bool × Nat)) (hm : P.follows .mixedOrders = true)
    (hB : (Region.noSelect l.toArray && decide (ks.length = l.length) && First.orderB .any l.toArray Vs Ps ks (Array.replicate l.length false)) = true)
    (h : ∀ X, First.wpF P l.toArray (fun w w' => Only w w' p) (Q .normal) (ks.map fun k => (k.1, k.2.1, l.getD k.2.2 default)) a (w.ext X)) : (Code.region id l.toArray true).wp P Q a w := by
  have hw₁ : ({ w with drawn := w.drawn + 1 } : World) = w.ext ⟨#[], w.drawn + 1⟩ := by simp [World.ext]
  exact First.wp_region_first _ (fun w => Only.refl w p) (fun w w' w'' h h' => h.trans h') Vs Ps ks hm hB (hw₁ ▸ h _)
theorem first_read {P : Program} {ops : Array Oper} {Le : World → World → Prop} {Q : Act → World → Prop} {a : Act} {w : World} {o : Oper} {rest : List (Bool × Bool × Oper)} {v : Value} (hg : o.guard = none) (hv : ∀ w', Le w w' → First.at_ P o a w' v)
    (hk : ∀ K : Act → World → Prop, (∀ a w, First.wpF P ops Le Q rest a w → K a w) → K (a.put o.dst v) w) : First.wpF P ops Le Q ((true, true, o) :: rest) a w :=
  First.wpF_free fun K hK => by
    rw [if_pos (by unfold Region.wanted; rw [hg])]
    exact ⟨v, hv, hk K hK⟩
end Go.Proofs.YtamnononemallaaDoor

/-! Two facts on the program that each law's lift wants. -/
namespace Go.Proofs.YtamnononemallaaDoor
theorem own : ownKnob Tryd.checked.prog.godebug = none := rfl
set_option maxRecDepth 100000 in
theorem laidOut : laidOutB Tryd.prog = true := by kernel_rfl
end Go.Proofs.YtamnononemallaaDoor

/-! What the second form's bound gives. -/
namespace Go.Proofs.YtamnononemallaaDoor
section
variable {H : Type}
theorem bulk_one (d : DataW H) : 1 ≤ Rows.uptoBulk d := by
  cases d with
  | lit l => cases l <;> simp [Rows.uptoBulk]
  | _ => simp [Rows.uptoBulk]
theorem bulk_part {d : DataW H} {l : List (DataW H)} (h : d ∈ l) : Rows.uptoBulk d ≤ Rows.uptoBulkAll l := by
  induction l with
  | nil => cases h
  | cons a r ih =>
    simp only [Rows.uptoBulkAll]
    rcases List.mem_cons.1 h with rfl | h
    · exact Nat.le_add_right _ _
    · exact Nat.le_trans (ih h) (Nat.le_add_left _ _)
theorem bulk_length : ∀ l : List (DataW H), l.length ≤ Rows.uptoBulkAll l
  | [] => Nat.zero_le _
  | a :: r => by
    have := bulk_length r
    have := bulk_one a
    simp only [List.length_cons, Rows.uptoBulkAll]
    omega
theorem bulk_slice (es sp : List (DataW H)) : es.length + sp.length + 1 ≤ Rows.uptoBulk (.slice es sp) := by
  have := bulk_length es
  have := bulk_length sp
  simp only [Rows.uptoBulk]
  omega
theorem bulk_elems (es sp : List (DataW H)) : Rows.uptoBulkAll es + Rows.uptoBulkAll sp + 1 ≤ Rows.uptoBulk (.slice es sp) := by
  simp only [Rows.uptoBulk]
  omega
theorem bulk_parts (ds : List (DataW H)) : Rows.uptoBulkAll ds + 1 ≤ Rows.uptoBulk (.agg ds) := by
  simp only [Rows.uptoBulk]
  omega
theorem bulk_string (bs : List UInt8) : Rows.uptoBulk (DataW.lit (H := H) (.string bs)) = bs.length + 1 := by simp [Rows.uptoBulk]
theorem bulk_bound {l : List (DataW H)} (hk : Rows.uptoSmall H l = true) : Rows.uptoBulkAll l ≤ 1048576 := by simpa [Rows.uptoSmall] using hk
end
end Go.Proofs.YtamnononemallaaDoor
