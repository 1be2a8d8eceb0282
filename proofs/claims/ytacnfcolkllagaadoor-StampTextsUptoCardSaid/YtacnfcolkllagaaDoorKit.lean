import Derived.Below
import Derived.BigQuiet
import Derived.Deep.QuietTactic
import Derived.WalkKit
import Derived.ProofKit
import Derived.OpenShut
import Derived.ChangeSame
import Derived.Lib.SmallJoins
import Derived.SizedLaws
import Derived.Deep.CondSized
import Derived.JoinedCond
/-! Worlds that have grown: 'w.ext X' is w with more blocks and more draws. Regions that draw their order, whose calls make new memory alone. -/
namespace Go
open Go.RowKit
set_option linter.unusedVariables false
set_option linter.unusedSimpArgs false
structure Ext where
  blocks : Array Obj
  draws : Nat
  deriving Inhabited
def World.ext (w : World) (X : Ext) : World := { w with heap := w.heap ++ X.blocks, drawn := X.draws }

theorem World.ext_of_below {w w' : World} (h : Below w.heap.size w w') : ∃ X, w' = w.ext X := by
  refine ⟨⟨w'.heap.extract w.heap.size w'.heap.size, w'.drawn⟩, ?_⟩
  obtain ⟨h1, h2, h3, h4, h5⟩ := h
  cases w'
  simp only [World.ext] at *
  subst h1 h2 h3
  congr 1
  apply Array.ext_getElem?
  intro i
  by_cases hi : i < w.heap.size
  · rw [Array.getElem?_append_left hi]; exact h5 i hi
  · rw [Array.getElem?_append_right (by omega), Array.getElem?_extract]
    by_cases hj : i < Array.size ‹Array Obj›
    · rw [if_pos (by omega)]; congr 1; omega
    · rw [if_neg (by omega), Array.getElem?_eq_none (by omega)]

theorem World.below_ext (w : World) (X : Ext) : Below w.heap.size w (w.ext X) :=
  ⟨rfl, rfl, rfl, by simp [World.ext], fun k hk => by simp only [World.ext]; rw [Array.getElem?_append_left hk]⟩

theorem World.heap_ext {w : World} {X : Ext} {k : Nat} (hk : k < w.heap.size) : (w.ext X).heap[k]? = w.heap[k]? := by
  simp only [World.ext]; rw [Array.getElem?_append_left hk]
@[go_sem] theorem World.cell?_ext {w : World} {X : Ext} {a : Addr} (h : a.block < w.heap.size) : (w.ext X).cell? a = w.cell? a := (World.below_ext w X).cell h
@[go_sem] theorem World.frozen?_ext {w : World} {X : Ext} {a : Addr} (h : a.block < w.heap.size) : (w.ext X).frozen? a = w.frozen? a := (World.below_ext w X).frozen h
@[go_sem] theorem World.size_ext (w : World) (X : Ext) : (w.ext X).heap.size = w.heap.size + X.blocks.size := by simp [World.ext]

/-! Facts on block numbers that the walk's simp cannot see by itself (its discharger goes two steps deep). -/
section
variable (n a b c d e f g h : Nat)
@[go_sem] theorem Ext.lt_1_1 : (n < n + 1 + a) = True := eq_true (by omega)
@[go_sem] theorem Ext.lt_1_2 : (n < n + 1 + a + b) = True := eq_true (by omega)
@[go_sem] theorem Ext.lt_1_3 : (n < n + 1 + a + b + c) = True := eq_true (by omega)
@[go_sem] theorem Ext.lt_1_4 : (n < n + 1 + a + b + c + d) = True := eq_true (by omega)
@[go_sem] theorem Ext.lt_1_5 : (n < n + 1 + a + b + c + d + e) = True := eq_true (by omega)
@[go_sem] theorem Ext.lt_1_6 : (n < n + 1 + a + b + c + d + e + f) = True := eq_true (by omega)
@[go_sem] theorem Ext.lt_1_7 : (n < n + 1 + a + b + c + d + e + f + g) = True := eq_true (by omega)
@[go_sem] theorem Ext.lt_1_8 : (n < n + 1 + a + b + c + d + e + f + g + h) = True := eq_true (by omega)
@[go_sem] theorem Ext.lt_2_1 : (n < n + 2 + a) = True := eq_true (by omega)
@[go_sem] theorem Ext.lt_1_2_1 : (n + 1 < n + 2 + a) = True := eq_true (by omega)
@[go_sem] theorem Ext.lt_2_2 : (n < n + 2 + a + b) = True := eq_true (by omega)
@[go_sem] theorem Ext.lt_1_2_2 : (n + 1 < n + 2 + a + b) = True := eq_true (by omega)
@[go_sem] theorem Ext.lt_2_3 : (n < n + 2 + a + b + c) = True := eq_true (by omega)
@[go_sem] theorem Ext.lt_1_2_3 : (n + 1 < n + 2 + a + b + c) = True := eq_true (by omega)
@[go_sem] theorem Ext.lt_2_4 : (n < n + 2 + a + b + c + d) = True := eq_true (by omega)
@[go_sem] theorem Ext.lt_1_2_4 : (n + 1 < n + 2 + a + b + c + d) = True := eq_true (by omega)
@[go_sem] theorem Ext.lt_2_5 : (n < n + 2 + a + b + c + d + e) = True := eq_true (by omega)
@[go_sem] theorem Ext.lt_1_2_5 : (n + 1 < n + 2 + a + b + c + d + e) = True := eq_true (by omega)
@[go_sem] theorem Ext.lt_2_6 : (n < n + 2 + a + b + c + d + e + f) = True := eq_true (by omega)
@[go_sem] theorem Ext.lt_2_7 : (n < n + 2 + a + b + c + d + e + f + g) = True := eq_true (by omega)
@[go_sem] theorem Ext.lt_2_8 : (n < n + 2 + a + b + c + d + e + f + g + h) = True := eq_true (by omega)
@[go_sem] theorem Ext.lt_3_1 : (n < n + 3 + a) = True := eq_true (by omega)
@[go_sem] theorem Ext.lt_1_3_1 : (n + 1 < n + 3 + a) = True := eq_true (by omega)
@[go_sem] theorem Ext.lt_2_3_1 : (n + 2 < n + 3 + a) = True := eq_true (by omega)
@[go_sem] theorem Ext.lt_3_2 : (n < n + 3 + a + b) = True := eq_true (by omega)
@[go_sem] theorem Ext.lt_1_3_2 : (n + 1 < n + 3 + a + b) = True := eq_true (by omega)
@[go_sem] theorem Ext.lt_2_3_2 : (n + 2 < n + 3 + a + b) = True := eq_true (by omega)
@[go_sem] theorem Ext.lt_3_3 : (n < n + 3 + a + b + c) = True := eq_true (by omega)
@[go_sem] theorem Ext.lt_1_3_3 : (n + 1 < n + 3 + a + b + c) = True := eq_true (by omega)
@[go_sem] theorem Ext.lt_2_3_3 : (n + 2 < n + 3 + a + b + c) = True := eq_true (by omega)
@[go_sem] theorem Ext.lt_3_4 : (n < n + 3 + a + b + c + d) = True := eq_true (by omega)
@[go_sem] theorem Ext.lt_1_3_4 : (n + 1 < n + 3 + a + b + c + d) = True := eq_true (by omega)
@[go_sem] theorem Ext.lt_2_3_4 : (n + 2 < n + 3 + a + b + c + d) = True := eq_true (by omega)
@[go_sem] theorem Ext.lt_3_5 : (n < n + 3 + a + b + c + d + e) = True := eq_true (by omega)
@[go_sem] theorem Ext.lt_1_3_5 : (n + 1 < n + 3 + a + b + c + d + e) = True := eq_true (by omega)
@[go_sem] theorem Ext.lt_2_3_5 : (n + 2 < n + 3 + a + b + c + d + e) = True := eq_true (by omega)
@[go_sem] theorem Ext.lt_3_6 : (n < n + 3 + a + b + c + d + e + f) = True := eq_true (by omega)
@[go_sem] theorem Ext.lt_3_7 : (n < n + 3 + a + b + c + d + e + f + g) = True := eq_true (by omega)
@[go_sem] theorem Ext.lt_3_8 : (n < n + 3 + a + b + c + d + e + f + g + h) = True := eq_true (by omega)
@[go_sem] theorem Ext.lt_4_1 : (n < n + 4 + a) = True := eq_true (by omega)
@[go_sem] theorem Ext.lt_1_4_1 : (n + 1 < n + 4 + a) = True := eq_true (by omega)
@[go_sem] theorem Ext.lt_2_4_1 : (n + 2 < n + 4 + a) = True := eq_true (by omega)
@[go_sem] theorem Ext.lt_3_4_1 : (n + 3 < n + 4 + a) = True := eq_true (by omega)
@[go_sem] theorem Ext.lt_4_2 : (n < n + 4 + a + b) = True := eq_true (by omega)
@[go_sem] theorem Ext.lt_1_4_2 : (n + 1 < n + 4 + a + b) = True := eq_true (by omega)
@[go_sem] theorem Ext.lt_2_4_2 : (n + 2 < n + 4 + a + b) = True := eq_true (by omega)
@[go_sem] theorem Ext.lt_3_4_2 : (n + 3 < n + 4 + a + b) = True := eq_true (by omega)
@[go_sem] theorem Ext.lt_4_3 : (n < n + 4 + a + b + c) = True := eq_true (by omega)
@[go_sem] theorem Ext.lt_1_4_3 : (n + 1 < n + 4 + a + b + c) = True := eq_true (by omega)
@[go_sem] theorem Ext.lt_2_4_3 : (n + 2 < n + 4 + a + b + c) = True := eq_true (by omega)
@[go_sem] theorem Ext.lt_3_4_3 : (n + 3 < n + 4 + a + b + c) = True := eq_true (by omega)
@[go_sem] theorem Ext.lt_4_4 : (n < n + 4 + a + b + c + d) = True := eq_true (by omega)
@[go_sem] theorem Ext.lt_1_4_4 : (n + 1 < n + 4 + a + b + c + d) = True := eq_true (by omega)
@[go_sem] theorem Ext.lt_2_4_4 : (n + 2 < n + 4 + a + b + c + d) = True := eq_true (by omega)
@[go_sem] theorem Ext.lt_3_4_4 : (n + 3 < n + 4 + a + b + c + d) = True := eq_true (by omega)
@[go_sem] theorem Ext.lt_4_5 : (n < n + 4 + a + b + c + d + e) = True := eq_true (by omega)
@[go_sem] theorem Ext.lt_1_4_5 : (n + 1 < n + 4 + a + b + c + d + e) = True := eq_true (by omega)
@[go_sem] theorem Ext.lt_2_4_5 : (n + 2 < n + 4 + a + b + c + d + e) = True := eq_true (by omega)
@[go_sem] theorem Ext.lt_3_4_5 : (n + 3 < n + 4 + a + b + c + d + e) = True := eq_true (by omega)
@[go_sem] theorem Ext.lt_4_6 : (n < n + 4 + a + b + c + d + e + f) = True := eq_true (by omega)
@[go_sem] theorem Ext.lt_4_7 : (n < n + 4 + a + b + c + d + e + f + g) = True := eq_true (by omega)
@[go_sem] theorem Ext.lt_4_8 : (n < n + 4 + a + b + c + d + e + f + g + h) = True := eq_true (by omega)
@[go_sem] theorem Ext.lt_5_1 : (n < n + 5 + a) = True := eq_true (by omega)
@[go_sem] theorem Ext.lt_1_5_1 : (n + 1 < n + 5 + a) = True := eq_true (by omega)
@[go_sem] theorem Ext.lt_2_5_1 : (n + 2 < n + 5 + a) = True := eq_true (by omega)
@[go_sem] theorem Ext.lt_3_5_1 : (n + 3 < n + 5 + a) = True := eq_true (by omega)
@[go_sem] theorem Ext.lt_4_5_1 : (n + 4 < n + 5 + a) = True := eq_true (by omega)
@[go_sem] theorem Ext.lt_5_2 : (n < n + 5 + a + b) = True := eq_true (by omega)
@[go_sem] theorem Ext.lt_1_5_2 : (n + 1 < n + 5 + a + b) = True := eq_true (by omega)
@[go_sem] theorem Ext.lt_2_5_2 : (n + 2 < n + 5 + a + b) = True := eq_true (by omega)
@[go_sem] theorem Ext.lt_3_5_2 : (n + 3 < n + 5 + a + b) = True := eq_true (by omega)
@[go_sem] theorem Ext.lt_4_5_2 : (n + 4 < n + 5 + a + b) = True := eq_true (by omega)
@[go_sem] theorem Ext.lt_5_3 : (n < n + 5 + a + b + c) = True := eq_true (by omega)
@[go_sem] theorem Ext.lt_1_5_3 : (n + 1 < n + 5 + a + b + c) = True := eq_true (by omega)
@[go_sem] theorem Ext.lt_2_5_3 : (n + 2 < n + 5 + a + b + c) = True := eq_true (by omega)
@[go_sem] theorem Ext.lt_3_5_3 : (n + 3 < n + 5 + a + b + c) = True := eq_true (by omega)
@[go_sem] theorem Ext.lt_4_5_3 : (n + 4 < n + 5 + a + b + c) = True := eq_true (by omega)
@[go_sem] theorem Ext.lt_5_4 : (n < n + 5 + a + b + c + d) = True := eq_true (by omega)
@[go_sem] theorem Ext.lt_1_5_4 : (n + 1 < n + 5 + a + b + c + d) = True := eq_true (by omega)
@[go_sem] theorem Ext.lt_2_5_4 : (n + 2 < n + 5 + a + b + c + d) = True := eq_true (by omega)
@[go_sem] theorem Ext.lt_3_5_4 : (n + 3 < n + 5 + a + b + c + d) = True := eq_true (by omega)
@[go_sem] theorem Ext.lt_4_5_4 : (n + 4 < n + 5 + a + b + c + d) = True := eq_true (by omega)
@[go_sem] theorem Ext.lt_5_5 : (n < n + 5 + a + b + c + d + e) = True := eq_true (by omega)
@[go_sem] theorem Ext.lt_1_5_5 : (n + 1 < n + 5 + a + b + c + d + e) = True := eq_true (by omega)
@[go_sem] theorem Ext.lt_2_5_5 : (n + 2 < n + 5 + a + b + c + d + e) = True := eq_true (by omega)
@[go_sem] theorem Ext.lt_3_5_5 : (n + 3 < n + 5 + a + b + c + d + e) = True := eq_true (by omega)
@[go_sem] theorem Ext.lt_4_5_5 : (n + 4 < n + 5 + a + b + c + d + e) = True := eq_true (by omega)
@[go_sem] theorem Ext.lt_5_6 : (n < n + 5 + a + b + c + d + e + f) = True := eq_true (by omega)
@[go_sem] theorem Ext.lt_5_7 : (n < n + 5 + a + b + c + d + e + f + g) = True := eq_true (by omega)
@[go_sem] theorem Ext.lt_5_8 : (n < n + 5 + a + b + c + d + e + f + g + h) = True := eq_true (by omega)
@[go_sem] theorem Ext.lt_6_1 : (n < n + 6 + a) = True := eq_true (by omega)
@[go_sem] theorem Ext.lt_1_6_1 : (n + 1 < n + 6 + a) = True := eq_true (by omega)
@[go_sem] theorem Ext.lt_2_6_1 : (n + 2 < n + 6 + a) = True := eq_true (by omega)
@[go_sem] theorem Ext.lt_3_6_1 : (n + 3 < n + 6 + a) = True := eq_true (by omega)
@[go_sem] theorem Ext.lt_4_6_1 : (n + 4 < n + 6 + a) = True := eq_true (by omega)
@[go_sem] theorem Ext.lt_5_6_1 : (n + 5 < n + 6 + a) = True := eq_true (by omega)
@[go_sem] theorem Ext.lt_6_2 : (n < n + 6 + a + b) = True := eq_true (by omega)
@[go_sem] theorem Ext.lt_1_6_2 : (n + 1 < n + 6 + a + b) = True := eq_true (by omega)
@[go_sem] theorem Ext.lt_2_6_2 : (n + 2 < n + 6 + a + b) = True := eq_true (by omega)
@[go_sem] theorem Ext.lt_3_6_2 : (n + 3 < n + 6 + a + b) = True := eq_true (by omega)
@[go_sem] theorem Ext.lt_4_6_2 : (n + 4 < n + 6 + a + b) = True := eq_true (by omega)
@[go_sem] theorem Ext.lt_5_6_2 : (n + 5 < n + 6 + a + b) = True := eq_true (by omega)
@[go_sem] theorem Ext.lt_6_3 : (n < n + 6 + a + b + c) = True := eq_true (by omega)
@[go_sem] theorem Ext.lt_1_6_3 : (n + 1 < n + 6 + a + b + c) = True := eq_true (by omega)
@[go_sem] theorem Ext.lt_2_6_3 : (n + 2 < n + 6 + a + b + c) = True := eq_true (by omega)
@[go_sem] theorem Ext.lt_3_6_3 : (n + 3 < n + 6 + a + b + c) = True := eq_true (by omega)
@[go_sem] theorem Ext.lt_4_6_3 : (n + 4 < n + 6 + a + b + c) = True := eq_true (by omega)
@[go_sem] theorem Ext.lt_5_6_3 : (n + 5 < n + 6 + a + b + c) = True := eq_true (by omega)
@[go_sem] theorem Ext.lt_6_4 : (n < n + 6 + a + b + c + d) = True := eq_true (by omega)
@[go_sem] theorem Ext.lt_1_6_4 : (n + 1 < n + 6 + a + b + c + d) = True := eq_true (by omega)
@[go_sem] theorem Ext.lt_2_6_4 : (n + 2 < n + 6 + a + b + c + d) = True := eq_true (by omega)
@[go_sem] theorem Ext.lt_3_6_4 : (n + 3 < n + 6 + a + b + c + d) = True := eq_true (by omega)
@[go_sem] theorem Ext.lt_4_6_4 : (n + 4 < n + 6 + a + b + c + d) = True := eq_true (by omega)
@[go_sem] theorem Ext.lt_5_6_4 : (n + 5 < n + 6 + a + b + c + d) = True := eq_true (by omega)
@[go_sem] theorem Ext.lt_6_5 : (n < n + 6 + a + b + c + d + e) = True := eq_true (by omega)
@[go_sem] theorem Ext.lt_1_6_5 : (n + 1 < n + 6 + a + b + c + d + e) = True := eq_true (by omega)
@[go_sem] theorem Ext.lt_2_6_5 : (n + 2 < n + 6 + a + b + c + d + e) = True := eq_true (by omega)
@[go_sem] theorem Ext.lt_3_6_5 : (n + 3 < n + 6 + a + b + c + d + e) = True := eq_true (by omega)
@[go_sem] theorem Ext.lt_4_6_5 : (n + 4 < n + 6 + a + b + c + d + e) = True := eq_true (by omega)
@[go_sem] theorem Ext.lt_5_6_5 : (n + 5 < n + 6 + a + b + c + d + e) = True := eq_true (by omega)
@[go_sem] theorem Ext.lt_6_6 : (n < n + 6 + a + b + c + d + e + f) = True := eq_true (by omega)
@[go_sem] theorem Ext.lt_6_7 : (n < n + 6 + a + b + c + d + e + f + g) = True := eq_true (by omega)
@[go_sem] theorem Ext.lt_6_8 : (n < n + 6 + a + b + c + d + e + f + g + h) = True := eq_true (by omega)
@[go_sem] theorem Ext.le_1 : (n ≤ n + a) = True := eq_true (by omega)
@[go_sem] theorem Ext.le_2 : (n ≤ n + a + b) = True := eq_true (by omega)
@[go_sem] theorem Ext.le_3 : (n ≤ n + a + b + c) = True := eq_true (by omega)
@[go_sem] theorem Ext.le_4 : (n ≤ n + a + b + c + d) = True := eq_true (by omega)
@[go_sem] theorem Ext.le_5 : (n ≤ n + a + b + c + d + e) = True := eq_true (by omega)
@[go_sem] theorem Ext.le_6 : (n ≤ n + a + b + c + d + e + f) = True := eq_true (by omega)
@[go_sem] theorem Ext.le_7 : (n ≤ n + a + b + c + d + e + f + g) = True := eq_true (by omega)
@[go_sem] theorem Ext.le_8 : (n ≤ n + a + b + c + d + e + f + g + h) = True := eq_true (by omega)
end

@[go_sem] theorem Ext.lt_far {a n : Nat} (h : a < n) (k : Nat) : (a < n + k) = True := eq_true (by omega)
@[go_sem] theorem Ext.ne_far {a n : Nat} (h : a < n) (k : Nat) : (a = n + k) = False := eq_false (by omega)
@[go_sem] theorem Ext.ne_far' {a n : Nat} (h : a < n) (k : Nat) : (n + k = a) = False := eq_false (by omega)
@[go_sem] theorem Ext.lt_far_2 {a n : Nat} (h : a < n) (k m : Nat) : (a < n + k + m) = True := eq_true (by omega)
@[go_sem] theorem Ext.ne_far_2 {a n : Nat} (h : a < n) (k m : Nat) : (a = n + k + m) = False := eq_false (by omega)
@[go_sem] theorem Ext.ne_far_2' {a n : Nat} (h : a < n) (k m : Nat) : (n + k + m = a) = False := eq_false (by omega)
@[go_sem] theorem Ext.lt_far_3 {a n : Nat} (h : a < n) (k m p : Nat) : (a < n + k + m + p) = True := eq_true (by omega)
@[go_sem] theorem Ext.ne_far_3 {a n : Nat} (h : a < n) (k m p : Nat) : (a = n + k + m + p) = False := eq_false (by omega)
@[go_sem] theorem Ext.ne_far_3' {a n : Nat} (h : a < n) (k m p : Nat) : (n + k + m + p = a) = False := eq_false (by omega)
@[go_sem] theorem Ext.lt_far_4 {a n : Nat} (h : a < n) (k m p q : Nat) : (a < n + k + m + p + q) = True := eq_true (by omega)
@[go_sem] theorem Ext.ne_far_4 {a n : Nat} (h : a < n) (k m p q : Nat) : (a = n + k + m + p + q) = False := eq_false (by omega)
@[go_sem] theorem Ext.ne_far_4' {a n : Nat} (h : a < n) (k m p q : Nat) : (n + k + m + p + q = a) = False := eq_false (by omega)
@[go_sem] theorem Ext.lt_far_5 {a n : Nat} (h : a < n) (k m p q r : Nat) : (a < n + k + m + p + q + r) = True := eq_true (by omega)
@[go_sem] theorem Ext.ne_far_5 {a n : Nat} (h : a < n) (k m p q r : Nat) : (a = n + k + m + p + q + r) = False := eq_false (by omega)
@[go_sem] theorem Ext.ne_far_5' {a n : Nat} (h : a < n) (k m p q r : Nat) : (n + k + m + p + q + r = a) = False := eq_false (by omega)
@[go_sem] theorem Ext.lt_far_6 {a n : Nat} (h : a < n) (k m p q r t : Nat) : (a < n + k + m + p + q + r + t) = True := eq_true (by omega)
@[go_sem] theorem Ext.ne_far_6 {a n : Nat} (h : a < n) (k m p q r t : Nat) : (a = n + k + m + p + q + r + t) = False := eq_false (by omega)
@[go_sem] theorem Ext.ne_far_6' {a n : Nat} (h : a < n) (k m p q r t : Nat) : (n + k + m + p + q + r + t = a) = False := eq_false (by omega)
@[go_sem] theorem Ext.ne_far0 {a n : Nat} (h : a < n) : (a = n) = False := eq_false (by omega)
@[go_sem] theorem Ext.ne_far0' {a n : Nat} (h : a < n) : (n = a) = False := eq_false (by omega)
def Ext.cat (X Y : Ext) : Ext := ⟨X.blocks ++ Y.blocks, Y.draws⟩
@[simp] theorem Ext.size_cat (X Y : Ext) : (X.cat Y).blocks.size = X.blocks.size + Y.blocks.size := by simp [Ext.cat]
@[go_sem] theorem World.ext_ext (w : World) (X Y : Ext) : (w.ext X).ext Y = w.ext (X.cat Y) := by simp [World.ext, Ext.cat]

section
variable {P : Program}
theorem Calls.ext_of {f : FuncId} {args : Array Value} {w : World} {X : Ext} {v : Value}
    (h : Calls P f args (w.ext X) fun e w' => e = .returned v ∧ Below (w.ext X).heap.size (w.ext X) w') : Calls P f args (w.ext X) fun e w'' => e = .returned v ∧ ∃ Y, w'' = w.ext Y :=
  h.mono fun _ _ ⟨he, hb⟩ => ⟨he, World.ext_of_below ((World.below_ext w X).trans (hb.mono (by simp [World.size_ext])))⟩
theorem Calls.ext_same {f : FuncId} {args : Array Value} {w : World} {X : Ext} {v : Value}
    (h : Calls P f args (w.ext X) fun e w' => e = .returned v ∧ w.ext X = w') : Calls P f args (w.ext X) fun e w'' => e = .returned v ∧ ∃ Y, w'' = w.ext Y :=
  h.mono fun _ _ ⟨he, hb⟩ => ⟨he, X, hb.symm⟩

theorem Calls.cat_of {f : FuncId} {args : Array Value} {w : World} {X : Ext} {v : Value}
    (h : Calls P f args (w.ext X) fun e w' => e = .returned v ∧ Below (w.ext X).heap.size (w.ext X) w') : Calls P f args (w.ext X) fun e w'' => e = .returned v ∧ ∃ Y, w'' = w.ext (X.cat Y) :=
  h.mono fun _ _ ⟨he, hb⟩ => ⟨he, by obtain ⟨Y, rfl⟩ := World.ext_of_below hb; exact ⟨Y, World.ext_ext _ _ _⟩⟩
theorem Calls.cat_same {f : FuncId} {args : Array Value} {w : World} {X : Ext} {v : Value}
    (h : Calls P f args (w.ext X) fun e w' => e = .returned v ∧ w.ext X = w') : Calls P f args (w.ext X) fun e w'' => e = .returned v ∧ ∃ Y, w'' = w.ext (X.cat Y) :=
  h.mono fun _ _ ⟨he, hb⟩ => ⟨he, ⟨#[], X.draws⟩, by rw [← hb]; simp [World.ext, Ext.cat]⟩

/-- A region that draws its order, each of whose operations reads old memory alone, its calls making new memory at most. -/
theorem wp_region_ext_lit {id : Nat} {Q : Exit → Act → World → Prop} {a : Act} {w : World} {l : List Oper} (hm : P.follows .mixedOrders = true) (hB : Region.lexB .any l.toArray = true)
    (h : wpQuiet P l.toArray (fun w' => ∃ X, w' = w.ext X) (fun a' => ∀ w', (∃ X, w' = w.ext X) → Q .normal a' w') l a) : (Code.region id l.toArray true).wp P Q a w :=
  wp_region_quiet (C := fun w' => ∃ X, w' = w.ext X) hm hB ⟨⟨#[], w.drawn + 1⟩, by simp [World.ext]⟩ (by simpa using h)
end

/-- An append onto a row of the call's own keeps all that lies below. -/
theorem own_below {B base e size n : Nat} {w₀ w w' : World} {v : Value} {xs : List Value} (hb : Below B w₀ w) (hown : w.ownsRow base e size v n xs) (hg : w.grownBy w' v.ownBlock) (hB : B ≤ base) (hs : B ≤ w.heap.size) : Below B w₀ w' :=
  hb.grown hg hs (fun k hk => by
    rcases hown.2 with ⟨rfl, _⟩ | ⟨g, cap, cur, rfl, hbg, _⟩
    · simp [Value.ownBlock] at hk
    · have : g = k := by simpa [Value.ownBlock] using hk
      omega)
theorem cells_new (w : World) (cs : Array Value) (t : TypeId) : ∀ j u, cs.toList[j]? = some u → (w.alloc (.cells cs t)).cell? ((⟨w.heap.size, 0, none⟩ : Addr).add j) = some u := by
  intro j u h
  have : (⟨w.heap.size, 0, none⟩ : Addr).add j = ⟨w.heap.size, j, none⟩ := by
    unfold Addr.add
    split
    · rename_i h0; rw [h0]
    · simp
  rw [this, World.cell?_alloc_new]
  simpa using h
theorem cells_new_at (w : World) (cs : Array Value) (t : TypeId) {g : Nat} (hg : g = w.heap.size) : ∀ j u, cs.toList[j]? = some u → (w.alloc (.cells cs t)).cell? ((⟨g, 0, none⟩ : Addr).add j) = some u := hg ▸ cells_new w cs t
theorem cells_new4 (w : World) (a b c d : Value) (t : TypeId) : ∀ j u, [a, b, c, d][j]? = some u → (w.alloc (.cells #[a, b, c, d] t)).cell? ((⟨w.heap.size, 0, none⟩ : Addr).add j) = some u := cells_new w #[a, b, c, d] t
theorem own_base {base base' : Nat} {e : TypeId} {size n : Nat} {w : World} {v : Value} {xs : List Value} (h : w.ownsRow base e size v n xs) (hb : base' ≤ base) : w.ownsRow base' e size v n xs := by
  refine ⟨h.1, ?_⟩
  rcases h.2 with h2 | ⟨g, cap, cur, hv, hg, r⟩
  · exact .inl h2
  · exact .inr ⟨g, cap, cur, hv, Nat.le_trans hb hg, r⟩
theorem hide {p : Prop} (h : p) : Hid p := h
theorem blk_cell {w : World} {n : Nat} {cs : Array Value} {t : TypeId} {fr : Nat × Nat} (h : w.heap[n]? = some (.cells cs t fr)) : ∀ o, w.cell? ⟨n, o, none⟩ = cs[o]? := fun o => by simp [World.cell?, h]
theorem blk_frozen {w : World} {n : Nat} {cs : Array Value} {t : TypeId} (h : w.heap[n]? = some (.cells cs t (0, 0))) : ∀ o, w.frozen? ⟨n, o, none⟩ = false := fun o => by simp [World.frozen?, h]
theorem blk_lt {w : World} {n : Nat} {o : Obj} (h : w.heap[n]? = some o) : n < w.heap.size := by
  rcases Nat.lt_or_ge n w.heap.size with h' | h'
  · exact h'
  · rw [Array.getElem?_eq_none h'] at h; cases h
theorem Below.ext {B : Nat} {a w : World} (h : Below B a w) (hB : B ≤ w.heap.size) (X : Ext) : Below B a (w.ext X) := h.trans ((World.below_ext w X).mono hB)

/-- The world, with what is known of it alone. -/
theorem abstr {α : Type} {F : α → World → Prop} {a : α} {W : World} (p : World → Prop) (hp : p W) (h : ∀ W', p W' → F a W') : F a W := h W hp

/-! A law: its walk lifted to the given statement's form. -/
section
open Go.ChangeShapes Go.WideShapes Go.ChangeAt
variable {H : Type} {enc : TypeId × Value → H}

theorem trodAll_stays {P : Program} (hl : laidOutB P = true) {W W' : World} {sp : Nat → Bool} :
    ∀ {ts : List TypeId} {vs : List Value} {ds : List (DataW H)} {ps : List MemPlace}, (∀ t ∈ ts, P.readableRec t = true ∧ t < P.types.size) → DataW.TrodAll enc P W 0 (fun _ => true) true ts vs ds ps →
      (∀ p ∈ ps, W.sameAt W' p) → (∀ p ∈ ps, sp p.block = true) → DataW.TrodAll enc P W' 0 sp true ts vs ds ps
  | [], _, _, _, _, h, _, _ => by obtain ⟨rfl, rfl, rfl⟩ := trodAll_nil h; exact trodAll_mk0
  | t :: ts, _, _, _, hr, h, hs, hp => by
    obtain ⟨v, vs', d, ds', p, q, rfl, rfl, rfl, h1, h2⟩ := trodAll_cons h
    exact trodAll_cons_mk (WideElems.Trod_stays hl (hr t (by simp)).1 (hr t (by simp)).2 h1 (fun x hx => hs x (by simp [hx])) (fun x hx => hp x (by simp [hx])))
      (trodAll_stays hl (fun t' ht' => hr t' (by simp [ht'])) h2 (fun x hx => hs x (by simp [hx])) (fun x hx => hp x (by simp [hx])))

theorem trodAll_length {P : Program} {w : World} {base : Nat} {sp : Nat → Bool} {held : Bool} :
    ∀ {ts : List TypeId} {vs : List Value} {ds : List (DataW H)} {ps : List MemPlace}, DataW.TrodAll enc P w base sp held ts vs ds ps → vs.length = ts.length ∧ ds.length = ts.length
  | [], _, _, _, h => by obtain ⟨rfl, rfl, rfl⟩ := trodAll_nil h; exact ⟨rfl, rfl⟩
  | t :: ts, _, _, _, h => by
    obtain ⟨v, vs', d, ds', p, q, rfl, rfl, rfl, h1, h2⟩ := trodAll_cons h
    have := trodAll_length h2
    simp [this.1, this.2]

theorem post_of_below {P : Program} {f : Func} {s : ChangeSpec} {apart fresh handsOn again : Bool} {W W' : World} {args : Array Value} {v : Value} {ds gs : List (DataW H)} {before pa pv : List MemPlace}
    (hW : DataW.Whole enc P f.params.toList s.vars apart W args.toList ds gs before)
    (hres : ∀ (b : Nat) (sp : Nat → Bool) (hd : Bool), DataW.TrodAll enc P W' b sp hd f.resultTypes.toList (v.resultList f.resultTypes.size) (s.fn H (ds ++ gs)).results [])
    (hargs : ∀ sp : Nat → Bool, (∀ p ∈ before, sp p.block = true) → DataW.TrodAll enc P W' 0 sp true f.params.toList args.toList (s.fn H (ds ++ gs)).args pa)
    (hvars : ∀ sp : Nat → Bool, (∀ p ∈ before, sp p.block = true) → DataW.TrodVars enc P W' sp s.vars (s.fn H (ds ++ gs)).vars pv)
    (hps : before = pa ++ pv) (hb : Below W.heap.size W W')
    (hok : ∀ (j : Nat) (t : TypeId) (r : Value), f.resultTypes[j]? = some t → (v.resultList f.resultTypes.size)[j]? = some r → Value.okWide P W' .any 0 t r) :
    s.post enc P f apart fresh handsOn again W args v W' := by
  have hlt : ∀ p ∈ before, p.block < W.heap.size := fun p hp => hW.lt p hp
  have hold : ∀ p ∈ before, (fun b => decide (b < W.heap.size)) p.block = true := fun p hp => by simpa using hlt p hp
  refine ⟨ds, gs, before, [], pa, pv, hW, hres _ _ _, hargs _ hold, hvars _ hold, World.keptBut_mono (fun p hp => ⟨hp, ?_⟩) (hb.frame (· ∈ before)), fun _ => ?_⟩
  · rw [hps, List.mem_append] at hp
    exact Or.inr hp
  · obtain ⟨_, _, _, _, _, hz, hn⟩ := hW
    refine ⟨hok, _, _, ([] ++ pa) ++ pv, ⟨[] ++ pa, pv, trodAll_append (hargs _ (fun _ _ => rfl)) (hres _ _ _), hvars _ (fun _ _ => rfl), rfl, ?_, ?_⟩, ?_⟩
    · intro b off hp
      have hin : MemPlace.cell b off ∈ before := by rw [hps]; simpa using hp
      rw [hb.frozen (hlt _ hin)]
      exact hz b off hin
    · intro ha
      have := hn ha
      rw [hps] at this
      simpa using this
    · intro p hp _
      rw [hps]
      simpa using hp

theorem list1 {α : Type} {l : List α} (h : l.length = 1) : ∃ a, l = [a] := by
  match l, h with | [a], _ => exact ⟨a, rfl⟩
theorem list2 {α : Type} {l : List α} (h : l.length = 2) : ∃ a b, l = [a, b] := by
  match l, h with | [a, b], _ => exact ⟨a, b, rfl⟩
theorem list3 {α : Type} {l : List α} (h : l.length = 3) : ∃ a b c, l = [a, b, c] := by
  match l, h with | [a, b, c], _ => exact ⟨a, b, c, rfl⟩
theorem list4 {α : Type} {l : List α} (h : l.length = 4) : ∃ a b c d, l = [a, b, c, d] := by
  match l, h with | [a, b, c, d], _ => exact ⟨a, b, c, d, rfl⟩
theorem list5 {α : Type} {l : List α} (h : l.length = 5) : ∃ a b c d e, l = [a, b, c, d, e] := by
  match l, h with | [a, b, c, d, e], _ => exact ⟨a, b, c, d, e, rfl⟩
theorem list6 {α : Type} {l : List α} (h : l.length = 6) : ∃ a b c d e f, l = [a, b, c, d, e, f] := by
  match l, h with | [a, b, c, d, e, f], _ => exact ⟨a, b, c, d, e, f, rfl⟩

/-- What a law's walk must show: called with arguments that read, it returns true, and what was there stays. -/
def LawWalk (enc : TypeId × Value → H) (P : Program) (f : FuncId) (fn : Func) : Prop :=
  ∀ (W : World) (base : Nat) (args : Array Value) (ds : List (DataW H)) (ps : List MemPlace),
    (∀ (j : Nat) t v, fn.params[j]? = some t → args[j]? = some v → Value.okWide P W .any base t v) →
    DataW.TrodAll enc P W 0 (fun _ => true) true fn.params.toList args.toList ds ps → (∀ p ∈ ps, p.block < W.heap.size) → W.noneFrozen ps →
    Calls P f args W fun e W' => e = .returned (.bool true) ∧ Below W.heap.size W W'

theorem law_lifted {C : Checked} {os : Os} {f : FuncId} {fn : Func} {s : ChangeSpec} {tb : TypeId}
    (own : ownKnob C.prog.godebug = none) (started : os.Started) (noInit : C.prog.inits.idxOf? f = none) (hfn : C.prog.funcs[f]? = some fn)
    (hl : laidOutB C.prog = true) (hr : (fn.params.toList.all fun t => C.prog.readableRec t && decide (t < C.prog.types.size)) = true)
    (hres : fn.resultTypes = #[tb]) (hb : C.prog.underlying tb = some .bool) (hv : s.vars = [])
    (hs : ∀ ds : List (DataW H), ds.length = fn.params.size → s.fn H ds = { results := [.lit (.bool true)], args := ds })
    (witness : ∃ (w : World) (tape : Tape) (i : Input), w.os = os ∧ (w.forCall tape i).Shaped C.prog ∧ i.vars = [] ∧ Input.okWide C.prog (w.forCall tape i) .any w.heap.size f i ∧
      s.pre6 enc C.prog fn [] false (w.forCall tape i).memory i.args ∧ Assume.holds {} C.prog (lone (Frame.enter C.prog f i.args .normal) [] (w.forCall tape i)))
    (walk : LawWalk enc C.prog f fn) :
    ReturnsInHanded {} C os f .any (s.pre6 enc C.prog fn [] false) (s.post enc C.prog fn false true false false) := by
  refine returnsInHanded_of_change own started noInit hfn witness ?_
  intro W base args ds gs before hval hW _ _
  have hW' := hW
  have hlt : ∀ p ∈ before, p.block < W.heap.size := fun p hp => hW'.lt p hp
  obtain ⟨p, q, hA, hV, hpq, hfz, hnd⟩ := hW
  rw [hv] at hV
  obtain ⟨rfl, rfl⟩ := trodVars_none hV
  simp only [List.append_nil] at hpq
  subst hpq
  have hlen := trodAll_length hA
  have hfn' := hs ds (by rw [hlen.2]; simp)
  refine (walk W base args ds before hval hA hlt hfz).mono fun e W' ⟨he, hg⟩ => ?_
  subst he
  refine ⟨_, rfl, post_of_below (pa := before) (pv := []) hW' ?_ ?_ ?_ (by simp) hg ?_⟩
  · intro b sp hd
    rw [List.append_nil, hfn', hres]
    exact trodAll_mk1 (shut_bool hb true)
  · intro sp hsp
    rw [List.append_nil, hfn']
    have hr' : ∀ t ∈ fn.params.toList, C.prog.readableRec t = true ∧ t < C.prog.types.size := fun t ht => by
      have := List.all_eq_true.1 hr t ht
      simpa using this
    exact trodAll_stays hl hr' hA (fun x hx => hg.same (hlt x hx)) hsp
  · intro sp _
    rw [hv, List.append_nil, hfn']
    rfl
  · exact ok_one hres rfl (okWide_bool_mk hb true)
/-- .. where each argument's memory is within the form's reach. -/
def LawWalkS (enc : TypeId × Value → H) (P : Program) (f : FuncId) (fn : Func) : Prop :=
  ∀ (W : World) (base : Nat) (args : Array Value) (ds : List (DataW H)) (ps : List MemPlace),
    (∀ (j : Nat) t v, fn.params[j]? = some t → args[j]? = some v → Value.okWide P W .any base t v) →
    DataW.TrodAll enc P W 0 (fun _ => true) true fn.params.toList args.toList ds ps → (∀ p ∈ ps, p.block < W.heap.size) → W.noneFrozen ps →
    (DataW.weightsEach P fn.params.toList ds).all (· ≤ reachBytes) = true →
    Calls P f args W fun e W' => e = .returned (.bool true) ∧ Below W.heap.size W W'
/-- .. where the arguments are within a bound too. -/
def LawWalkU (enc : TypeId × Value → H) (P : Program) (f : FuncId) (fn : Func) (k : (H : Type) → List (DataW H) → Bool) : Prop :=
  ∀ (W : World) (base : Nat) (args : Array Value) (ds : List (DataW H)) (ps : List MemPlace),
    (∀ (j : Nat) t v, fn.params[j]? = some t → args[j]? = some v → Value.okWide P W .any base t v) →
    DataW.TrodAll enc P W 0 (fun _ => true) true fn.params.toList args.toList ds ps → (∀ p ∈ ps, p.block < W.heap.size) → W.noneFrozen ps →
    k H ds = true → (DataW.weightsEach P fn.params.toList ds).all (· ≤ reachBytes) = true →
    Calls P f args W fun e W' => e = .returned (.bool true) ∧ Below W.heap.size W W'

theorem law_post {C : Checked} {fn : Func} {s : ChangeSpec} {tb : TypeId} {W W' : World} {args : Array Value} {ds gs : List (DataW H)} {before : List MemPlace}
    (hl : laidOutB C.prog = true) (hr : (fn.params.toList.all fun t => C.prog.readableRec t && decide (t < C.prog.types.size)) = true)
    (hres : fn.resultTypes = #[tb]) (hb : C.prog.underlying tb = some .bool) (hv : s.vars = [])
    (hs : ∀ ds : List (DataW H), ds.length = fn.params.size → s.fn H ds = { results := [.lit (.bool true)], args := ds })
    (hW : DataW.Whole enc C.prog fn.params.toList s.vars false W args.toList ds gs before) (hg : Below W.heap.size W W') :
    s.post enc C.prog fn false true false false W args (.bool true) W' := by
  have hW' := hW
  have hlt : ∀ p ∈ before, p.block < W.heap.size := fun p hp => hW'.lt p hp
  obtain ⟨p, q, hA, hV, hpq, hfz, hnd⟩ := hW
  rw [hv] at hV
  obtain ⟨rfl, rfl⟩ := trodVars_none hV
  simp only [List.append_nil] at hpq
  subst hpq
  have hlen := trodAll_length hA
  have hfn' := hs ds (by rw [hlen.2]; simp)
  refine post_of_below (pa := before) (pv := []) hW' ?_ ?_ ?_ (by simp) hg ?_
  · intro b sp hd
    rw [List.append_nil, hfn', hres]
    exact trodAll_mk1 (shut_bool hb true)
  · intro sp hsp
    rw [List.append_nil, hfn']
    have hr' : ∀ t ∈ fn.params.toList, C.prog.readableRec t = true ∧ t < C.prog.types.size := fun t ht => by
      have := List.all_eq_true.1 hr t ht
      simpa using this
    exact trodAll_stays hl hr' hA (fun x hx => hg.same (hlt x hx)) hsp
  · intro sp _
    rw [hv, List.append_nil, hfn']
    rfl
  · exact ok_one hres rfl (okWide_bool_mk hb true)

theorem law_lifted_sized {C : Checked} {os : Os} {f : FuncId} {fn : Func} {s : ChangeSpec} {tb : TypeId}
    (own : ownKnob C.prog.godebug = none) (started : os.Started) (noInit : C.prog.inits.idxOf? f = none) (hfn : C.prog.funcs[f]? = some fn)
    (hl : laidOutB C.prog = true) (hr : (fn.params.toList.all fun t => C.prog.readableRec t && decide (t < C.prog.types.size)) = true)
    (hres : fn.resultTypes = #[tb]) (hb : C.prog.underlying tb = some .bool) (hv : s.vars = []) (hvt : s.plain.varTypes C.prog = [])
    (hs : ∀ ds : List (DataW H), ds.length = fn.params.size → s.fn H ds = { results := [.lit (.bool true)], args := ds })
    (witness : ∃ (w : World) (tape : Tape) (i : Input), w.os = os ∧ (w.forCall tape i).Shaped C.prog ∧ i.vars = [] ∧ Input.okWide C.prog (w.forCall tape i) .any w.heap.size f i ∧
      s.pre6 enc C.prog fn [] false (w.forCall tape i).memory i.args ∧ Assume.holds {} C.prog (lone (Frame.enter C.prog f i.args .normal) [] (w.forCall tape i)))
    (walk : LawWalkS enc C.prog f fn) :
    ReturnsInHanded {} C os f .any (s.pre6 enc C.prog fn [] false) (s.post enc C.prog fn false true false false) := by
  refine returnsInHanded_of_change_sized own started noInit hfn witness ?_
  intro W base args ds gs before hval hW _ hsz _
  have hW' := hW
  have hlt : ∀ p ∈ before, p.block < W.heap.size := fun p hp => hW'.lt p hp
  obtain ⟨p, q, hA, hV, hpq, hfz, hnd⟩ := hW
  rw [hv] at hV
  obtain ⟨rfl, rfl⟩ := trodVars_none hV
  simp only [List.append_nil] at hpq
  subst hpq
  rw [hvt, List.append_nil, List.append_nil] at hsz
  refine (walk W base args ds before hval hA hlt hfz hsz).mono fun e W' ⟨he, hg⟩ => ?_
  exact ⟨_, he, law_post hl hr hres hb hv hs hW' hg⟩

theorem law_lifted_upto {C : Checked} {os : Os} {f : FuncId} {fn : Func} {s : OpenSpec} {s0 : ChangeSpec} {tb : TypeId} {k : (H : Type) → List (DataW H) → Bool} (hk : s.cond = some k) {F : Stop.Interp} (hsF : s.at F = s0)
    (own : ownKnob C.prog.godebug = none) (started : os.Started) (noInit : C.prog.inits.idxOf? f = none) (hfn : C.prog.funcs[f]? = some fn)
    (hl : laidOutB C.prog = true) (hr : (fn.params.toList.all fun t => C.prog.readableRec t && decide (t < C.prog.types.size)) = true)
    (hres : fn.resultTypes = #[tb]) (hb : C.prog.underlying tb = some .bool) (hv : s0.vars = []) (hsv : s.vars = s0.vars) (hvt : s.bare.plain.varTypes C.prog = [])
    (hs : ∀ ds : List (DataW H), ds.length = fn.params.size → s0.fn H ds = { results := [.lit (.bool true)], args := ds })
    (witness : ∃ (w : World) (tape : Tape) (i : Input), w.os = os ∧ (w.forCall tape i).Shaped C.prog ∧ i.vars = [] ∧ Input.okWide C.prog (w.forCall tape i) .any w.heap.size f i ∧
      s.pre6 enc C.prog fn [] false (w.forCall tape i).memory i.args ∧ Assume.holds {} C.prog (lone (Frame.enter C.prog f i.args .normal) [] (w.forCall tape i)))
    (walk : LawWalkU enc C.prog f fn k) :
    ReturnsInHanded {} C os f .any (s.pre6 enc C.prog fn [] false) ((s.at F).post enc C.prog fn false true false false) := by
  refine returnsInHanded_of_cond_sized hk own started noInit hfn witness ?_
  intro W base args ds gs before hval hW _ hkk hsz _
  rw [hsv] at hW
  have hW' := hW
  have hlt : ∀ p ∈ before, p.block < W.heap.size := fun p hp => hW'.lt p hp
  obtain ⟨p, q, hA, hV, hpq, hfz, hnd⟩ := hW
  rw [hv] at hV
  obtain ⟨rfl, rfl⟩ := trodVars_none hV
  simp only [List.append_nil] at hpq hkk
  subst hpq
  rw [hvt, List.append_nil, List.append_nil] at hsz
  refine (walk W base args ds before hval hA hlt hfz hkk hsz).mono fun e W' ⟨he, hg⟩ => ?_
  rw [hsF]
  exact ⟨_, he, law_post hl hr hres hb hv hs hW' hg⟩
end

/-! Words for memory: a block that is known whole; a slice that reads as a list. -/
section
open Go.RowKit
theorem block_of_add (a : Addr) (n : Nat) : (a.add n).block = a.block := by unfold Addr.add; split <;> rfl
theorem add_of_add (a : Addr) (i j : Nat) : (a.add i).add j = a.add (i + j) := by
  unfold Addr.add
  by_cases hi : i = 0 <;> by_cases hj : j = 0 <;> simp [hi, hj, Nat.add_assoc]
theorem add_plain (b o i : Nat) : (⟨b, o, none⟩ : Addr).add i = ⟨b, o + i, none⟩ := by
  unfold Addr.add
  split
  · rename_i h0; rw [h0]; rfl
  · rfl

def Reads (w : World) (B size : Nat) (A : Option Addr) (n : Nat) (xs : List Value) : Prop :=
  xs.length = n * size ∧ (0 < n → ∃ ad, A = some ad ∧ ad.block < B ∧ ∀ j u, xs[j]? = some u → w.cell? (ad.add j) = some u)

section
variable {w w' : World} {B B' size n : Nat} {A : Option Addr} {xs : List Value}
theorem Reads.none_ : Reads w B size A 0 [] := ⟨by simp, fun h => absurd h (by omega)⟩
theorem Reads.keep (h : Reads w B size A n xs) (hk : ∀ p : Addr, p.block < B → w'.cell? p = w.cell? p) : Reads w' B size A n xs :=
  ⟨h.1, fun hn => by
    obtain ⟨ad, e, hb, hc⟩ := h.2 hn
    exact ⟨ad, e, hb, fun j u hu => (hk _ (by rw [block_of_add]; exact hb)).trans (hc j u hu)⟩⟩
theorem Reads.more (h : Reads w B size A n xs) (hB : B ≤ B') : Reads w B' size A n xs :=
  ⟨h.1, fun hn => by
    obtain ⟨ad, e, hb, hc⟩ := h.2 hn
    exact ⟨ad, e, by omega, hc⟩⟩
theorem Reads.below (h : Reads w B size A n xs) (hb : Below B w w') : Reads w' B size A n xs := h.keep fun _ hp => hb.cell hp
theorem Reads.ext (h : Reads w B size A n xs) (hB : B ≤ w.heap.size) (X : Ext) : Reads (w.ext X) B size A n xs := h.keep fun _ hp => World.cell?_ext (Nat.lt_of_lt_of_le hp hB)
theorem Reads.cat_ {X : Ext} (h : Reads (w.ext X) B size A n xs) (hB : B ≤ (w.ext X).heap.size) (Y : Ext) : Reads (w.ext (X.cat Y)) B size A n xs := by rw [← World.ext_ext]; exact h.ext hB Y
theorem Reads.grown (h : Reads w w.heap.size size A n xs) (X : Ext) : Reads (w.ext X) (w.ext X).heap.size size A n xs := (h.ext (Nat.le_refl _) X).more (by simp [World.size_ext])
theorem Reads.alloc (h : Reads w B size A n xs) (hB : B ≤ w.heap.size) (o : Obj) : Reads (w.alloc o) B size A n xs := h.keep fun p hp => World.cell?_alloc_lt w o p (by omega)
theorem Reads.setCell (h : Reads w B size A n xs) {p : Addr} (hB : B ≤ p.block) (u : Value) : Reads (w.setCell p u) B size A n xs :=
  h.keep fun q hq => World.cell?_setCell_other w p q u (fun e => by subst e; omega)
theorem Reads.plain (h : Reads w B size A n xs) (hn : 0 < n) (hs : 0 < size) : ∃ b o, A = some ⟨b, o, none⟩ ∧ b < B ∧ ∀ j u, xs[j]? = some u → w.cell? ⟨b, o + j, none⟩ = some u := by
  obtain ⟨⟨b, o, s⟩, rfl, hb, hc⟩ := h.2 hn
  have hl : 0 < xs.length := by rw [h.1]; exact Nat.mul_pos hn hs
  have h0 := hc 0 xs[0] (List.getElem?_eq_getElem hl)
  have : s = none := by
    cases s with
    | none => rfl
    | some k => simp [Addr.add, World.cell?] at h0; split at h0 <;> cases h0
  subst this
  exact ⟨b, o, rfl, hb, fun j u hu => by rw [← add_plain]; exact hc j u hu⟩
theorem Reads.of_own {base : Nat} {e : TypeId} {c : Nat} (h : w.ownsRow base e size (.slice A n c) n xs) : Reads w w.heap.size size A n xs := by
  refine ⟨h.1, fun hn => ?_⟩
  rcases h.2 with ⟨_, h0⟩ | ⟨g, cap, cur, hv, _, hh, hnc, _, hsz, htk⟩
  · omega
  · have hA : A = some ⟨g, 0, none⟩ := by injection hv
    subst hA
    refine ⟨_, rfl, blk_lt hh, fun j u hu => ?_⟩
    rw [add_plain, Nat.zero_add, blk_cell hh]
    subst htk
    rw [List.getElem?_take] at hu
    split at hu
    · simpa using hu
    · cases hu
end

def Blk (w : World) (g : Nat) (t : TypeId) (cs : Array Value) : Prop := w.heap[g]? = some (.cells cs t (0, 0))
section
variable {w w' : World} {g : Nat} {t : TypeId} {cs : Array Value}
theorem Blk.lt (h : Blk w g t cs) : g < w.heap.size := blk_lt h
theorem Blk.cell (h : Blk w g t cs) (i : Nat) : w.cell? ⟨g, i, none⟩ = cs[i]? := blk_cell h i
theorem Blk.frozen (h : Blk w g t cs) (i : Nat) : w.frozen? ⟨g, i, none⟩ = false := blk_frozen h i
theorem Blk.new (w : World) (t : TypeId) (cs : Array Value) : Blk (w.alloc (.cells cs t)) w.heap.size t cs := heap_alloc_new w _
theorem Blk.drew (h : Blk w g t cs) : Blk w.drew g t cs := h
theorem Blk.alloc (h : Blk w g t cs) (o : Obj) : Blk (w.alloc o) g t cs := (Below.heap_alloc w o g h.lt).trans h
theorem Blk.ext (h : Blk w g t cs) (X : Ext) : Blk (w.ext X) g t cs := (World.heap_ext h.lt).trans h
theorem Blk.set_ (h : Blk w g t cs) (i : Nat) (u : Value) : Blk (w.setCell ⟨g, i, none⟩ u) g t (cs.setIfInBounds i u) := by
  unfold Blk at h ⊢
  simp [World.setCell, Array.getElem?_modify, h]
theorem Blk.set_to {cs' : Array Value} {i : Nat} {u : Value} (h : Blk w g t cs) (e : cs' = cs.setIfInBounds i u) : Blk (w.setCell ⟨g, i, none⟩ u) g t cs' := e ▸ h.set_ i u
theorem Blk.two {a b u v : Value} (h : Blk w g t #[a, b]) : Blk ((w.setCell ⟨g, 0, none⟩ u).setCell ⟨g, 1, none⟩ v) g t #[u, v] := (h.set_ 0 u).set_ 1 v
theorem Blk.three {a b c u v x : Value} (h : Blk w g t #[a, b, c]) : Blk (((w.setCell ⟨g, 0, none⟩ u).setCell ⟨g, 1, none⟩ v).setCell ⟨g, 2, none⟩ x) g t #[u, v, x] := ((h.set_ 0 u).set_ 1 v).set_ 2 x
theorem Blk.far (h : Blk w g t cs) {p : Addr} (hp : g ≠ p.block) (u : Value) : Blk (w.setCell p u) g t cs := (Below.heap_setCell w p u g hp).trans h
theorem Blk.below {B : Nat} (h : Blk w g t cs) (hb : Below B w w') (hg : g < B) : Blk w' g t cs := (hb.block g hg).trans h
theorem Blk.own (h : Blk w g t cs) {b size n cap : Nat} {xs : List Value} (hb : b ≤ g) (hn : n ≤ cap) (hm : cap ≤ maxLen) (hs : cs.size = cap * size) (hx : cs.toList.take (n * size) = xs) (hl : xs.length = n * size) :
    w.ownsRow b t size (.slice (some ⟨g, 0, none⟩) n cap) n xs := ⟨hl, .inr ⟨g, cap, cs, rfl, hb, h, hn, hm, hs, hx⟩⟩
end
end

/-- A function's end whose first result is a struct in memory. -/
theorem bodyPost_cell_tmp {P : Program} {fn : Func} {R : Ending → World → Prop} {a : Act} {w : World} {p u g : Nat} {t ty : TypeId} {cs : Array Value} {d : TypeDesc} (h : fn.results = #[.cell p ty, .tmp u])
    (hp : a.tmps.getD p undef = .pointer (some ⟨g, 0, none⟩)) (hB : Blk w g t cs) (hu : P.underlying ty = some d) (hd : (match d with | .struct _ | .array _ _ => true | _ => false) = true) (hi : (P.info? ty).map (·.size) = some cs.size)
    (hdf : a.defers = []) (hR : R (.returned (.tuple #[.agg cs, a.tmps.getD u undef])) w) : bodyPost P fn R .ret a w :=
  bodyPost_ret (by rw [results_cell_tmp h, hp]; simp only [asAddr, Sem.run_pure, Result.andThen_ok, run_loadVar_row w g t ty cs (0, 0) d hB hu hd hi]) hdf hR
/-- .. whose only result is one. -/
theorem bodyPost_cell {P : Program} {fn : Func} {R : Ending → World → Prop} {a : Act} {w : World} {p g : Nat} {t ty : TypeId} {cs : Array Value} {d : TypeDesc} (h : fn.results = #[.cell p ty])
    (hp : a.tmps.getD p undef = .pointer (some ⟨g, 0, none⟩)) (hB : Blk w g t cs) (hu : P.underlying ty = some d) (hd : (match d with | .struct _ | .array _ _ => true | _ => false) = true) (hi : (P.info? ty).map (·.size) = some cs.size)
    (hdf : a.defers = []) (hR : R (.returned (.agg cs)) w) : bodyPost P fn R .ret a w :=
  bodyPost_ret (by
    have hp' := hp
    rw [Array.getD_eq_getD_getElem?] at hp'
    simp only [results, h]
    simp [hp', asAddr, run_loadVar_row w g t ty cs (0, 0) d hB hu hd hi]) hdf hR
end Go
