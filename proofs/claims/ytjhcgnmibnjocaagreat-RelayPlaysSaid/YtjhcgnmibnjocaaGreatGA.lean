import Derived.Below
import Derived.BigQuiet
import Derived.Deep.QuietTactic
import Derived.WalkKit
import Derived.ProofKit
import Derived.OpenShut
import Derived.ChangeSame
import Derived.Lib.SmallJoins
import Derived.SizedLaws
import Derived.Deep.CondSized
import Derived.JoinedCond
import Derived.StillTail
import Derived.Test.YtjhcgnmibnjocaaGreatRows
import Derived.Test.YtjhcgnmibnjocaaGreatChecked
import Derived.Lib.SliceRun
import Derived.Deep.Slices
import Derived.Laws.BytesArg
import Derived.Lib.Bytes
import Derived.Laws.IdiomStrings
import Derived.Lib.ConvBytes
import Derived.Lib.BufferRead
import Derived.Maps.AppendAt
import Derived.OneCell
/-! Several texts in one. -/
set_option linter.unusedVariables false
set_option linter.unusedSimpArgs false
namespace Go
open Go.RowKit
structure Ext where
 blocks : Array Obj
 draws : Nat
 deriving Inhabited
def World.ext (w : World) (X : Ext) : World := { w with heap := w.heap ++ X.blocks, drawn := X.draws }

theorem World.ext_of_below {w w' : World} (h : Below w.heap.size w w') : ∃ X, w' = w.ext X := by
 refine ⟨⟨w'.heap.extract w.heap.size w'.heap.size, w'.drawn⟩, ?_⟩
 obtain ⟨h1, h2, h3, h4, h5⟩ := h
 cases w'
 simp only [World.ext] at *
 subst h1 h2 h3
 congr 1
 apply Array.ext_getElem?
 intro i
 by_cases hi : i < w.heap.size
 ·rw [Array.getElem?_append_left hi]; exact h5 i hi
 ·rw [Array.getElem?_append_right (by omega), Array.getElem?_extract]
  by_cases hj : i < Array.size ‹Array Obj›
  ·rw [if_pos (by omega)]; congr 1; omega
  ·rw [if_neg (by omega), Array.getElem?_eq_none (by omega)]

theorem World.below_ext (w : World) (X : Ext) : Below w.heap.size w (w.ext X) :=
 ⟨rfl, rfl, rfl, by simp [World.ext], fun k hk => by simp only [World.ext]; rw [Array.getElem?_append_left hk]⟩

theorem World.heap_ext {w : World} {X : Ext} {k : Nat} (hk : k < w.heap.size) : (w.ext X).heap[k]? = w.heap[k]? := by
 simp only [World.ext]; rw [Array.getElem?_append_left hk]
@[go_sem] theorem World.cell?_ext {w : World} {X : Ext} {a : Addr} (h : a.block < w.heap.size) : (w.ext X).cell? a = w.cell? a := (World.below_ext w X).cell h
@[go_sem] theorem World.frozen?_ext {w : World} {X : Ext} {a : Addr} (h : a.block < w.heap.size) : (w.ext X).frozen? a = w.frozen? a := (World.below_ext w X).frozen h
@[go_sem] theorem World.size_ext (w : World) (X : Ext) : (w.ext X).heap.size = w.heap.size + X.blocks.size := by simp [World.ext]

section
variable (n a b c d e f g h : Nat)
@[go_sem] theorem Ext.lt_1_1 : (n < n + 1 + a) = True := eq_true (by omega)
@[go_sem] theorem Ext.lt_1_2 : (n < n + 1 + a + b) = True := eq_true (by omega)
@[go_sem] theorem Ext.lt_1_3 : (n < n + 1 + a + b + c) = True := eq_true (by omega)
@[go_sem] theorem Ext.lt_1_4 : (n < n + 1 + a + b + c + d) = True := eq_true (by omega)
@[go_sem] theorem Ext.lt_1_5 : (n < n + 1 + a + b + c + d + e) = True := eq_true (by omega)
@[go_sem] theorem Ext.lt_1_6 : (n < n + 1 + a + b + c + d + e + f) = True := eq_true (by omega)
@[go_sem] theorem Ext.lt_1_7 : (n < n + 1 + a + b + c + d + e + f + g) = True := eq_true (by omega)
@[go_sem] theorem Ext.lt_1_8 : (n < n + 1 + a + b + c + d + e + f + g + h) = True := eq_true (by omega)
@[go_sem] theorem Ext.lt_2_1 : (n < n + 2 + a) = True := eq_true (by omega)
@[go_sem] theorem Ext.lt_1_2_1 : (n + 1 < n + 2 + a) = True := eq_true (by omega)
@[go_sem] theorem Ext.lt_2_2 : (n < n + 2 + a + b) = True := eq_true (by omega)
@[go_sem] theorem Ext.lt_1_2_2 : (n + 1 < n + 2 + a + b) = True := eq_true (by omega)
@[go_sem] theorem Ext.lt_2_3 : (n < n + 2 + a + b + c) = True := eq_true (by omega)
@[go_sem] theorem Ext.lt_1_2_3 : (n + 1 < n + 2 + a + b + c) = True := eq_true (by omega)
@[go_sem] theorem Ext.lt_2_4 : (n < n + 2 + a + b + c + d) = True := eq_true (by omega)
@[go_sem] theorem Ext.lt_1_2_4 : (n + 1 < n + 2 + a + b + c + d) = True := eq_true (by omega)
@[go_sem] theorem Ext.lt_2_5 : (n < n + 2 + a + b + c + d + e) = True := eq_true (by omega)
@[go_sem] theorem Ext.lt_1_2_5 : (n + 1 < n + 2 + a + b + c + d + e) = True := eq_true (by omega)
@[go_sem] theorem Ext.lt_2_6 : (n < n + 2 + a + b + c + d + e + f) = True := eq_true (by omega)
@[go_sem] theorem Ext.lt_2_7 : (n < n + 2 + a + b + c + d + e + f + g) = True := eq_true (by omega)
@[go_sem] theorem Ext.lt_2_8 : (n < n + 2 + a + b + c + d + e + f + g + h) = True := eq_true (by omega)
@[go_sem] theorem Ext.lt_3_1 : (n < n + 3 + a) = True := eq_true (by omega)
@[go_sem] theorem Ext.lt_1_3_1 : (n + 1 < n + 3 + a) = True := eq_true (by omega)
@[go_sem] theorem Ext.lt_2_3_1 : (n + 2 < n + 3 + a) = True := eq_true (by omega)
@[go_sem] theorem Ext.lt_3_2 : (n < n + 3 + a + b) = True := eq_true (by omega)
@[go_sem] theorem Ext.lt_1_3_2 : (n + 1 < n + 3 + a + b) = True := eq_true (by omega)
@[go_sem] theorem Ext.lt_2_3_2 : (n + 2 < n + 3 + a + b) = True := eq_true (by omega)
@[go_sem] theorem Ext.lt_3_3 : (n < n + 3 + a + b + c) = True := eq_true (by omega)
@[go_sem] theorem Ext.lt_1_3_3 : (n + 1 < n + 3 + a + b + c) = True := eq_true (by omega)
@[go_sem] theorem Ext.lt_2_3_3 : (n + 2 < n + 3 + a + b + c) = True := eq_true (by omega)
@[go_sem] theorem Ext.lt_3_4 : (n < n + 3 + a + b + c + d) = True := eq_true (by omega)
@[go_sem] theorem Ext.lt_1_3_4 : (n + 1 < n + 3 + a + b + c + d) = True := eq_true (by omega)
@[go_sem] theorem Ext.lt_2_3_4 : (n + 2 < n + 3 + a + b + c + d) = True := eq_true (by omega)
@[go_sem] theorem Ext.lt_3_5 : (n < n + 3 + a + b + c + d + e) = True := eq_true (by omega)
@[go_sem] theorem Ext.lt_1_3_5 : (n + 1 < n + 3 + a + b + c + d + e) = True := eq_true (by omega)
@[go_sem] theorem Ext.lt_2_3_5 : (n + 2 < n + 3 + a + b + c + d + e) = True := eq_true (by omega)
@[go_sem] theorem Ext.lt_3_6 : (n < n + 3 + a + b + c + d + e + f) = True := eq_true (by omega)
@[go_sem] theorem Ext.lt_3_7 : (n < n + 3 + a + b + c + d + e + f + g) = True := eq_true (by omega)
@[go_sem] theorem Ext.lt_3_8 : (n < n + 3 + a + b + c + d + e + f + g + h) = True := eq_true (by omega)
@[go_sem] theorem Ext.lt_4_1 : (n < n + 4 + a) = True := eq_true (by omega)
@[go_sem] theorem Ext.lt_1_4_1 : (n + 1 < n + 4 + a) = True := eq_true (by omega)
@[go_sem] theorem Ext.lt_2_4_1 : (n + 2 < n + 4 + a) = True := eq_true (by omega)
@[go_sem] theorem Ext.lt_3_4_1 : (n + 3 < n + 4 + a) = True := eq_true (by omega)
@[go_sem] theorem Ext.lt_4_2 : (n < n + 4 + a + b) = True := eq_true (by omega)
@[go_sem] theorem Ext.lt_1_4_2 : (n + 1 < n + 4 + a + b) = True := eq_true (by omega)
@[go_sem] theorem Ext.lt_2_4_2 : (n + 2 < n + 4 + a + b) = True := eq_true (by omega)
@[go_sem] theorem Ext.lt_3_4_2 : (n + 3 < n + 4 + a + b) = True := eq_true (by omega)
@[go_sem] theorem Ext.lt_4_3 : (n < n + 4 + a + b + c) = True := eq_true (by omega)
@[go_sem] theorem Ext.lt_1_4_3 : (n + 1 < n + 4 + a + b + c) = True := eq_true (by omega)
@[go_sem] theorem Ext.lt_2_4_3 : (n + 2 < n + 4 + a + b + c) = True := eq_true (by omega)
@[go_sem] theorem Ext.lt_3_4_3 : (n + 3 < n + 4 + a + b + c) = True := eq_true (by omega)
@[go_sem] theorem Ext.lt_4_4 : (n < n + 4 + a + b + c + d) = True := eq_true (by omega)
@[go_sem] theorem Ext.lt_1_4_4 : (n + 1 < n + 4 + a + b + c + d) = True := eq_true (by omega)
@[go_sem] theorem Ext.lt_2_4_4 : (n + 2 < n + 4 + a + b + c + d) = True := eq_true (by omega)
@[go_sem] theorem Ext.lt_3_4_4 : (n + 3 < n + 4 + a + b + c + d) = True := eq_true (by omega)
@[go_sem] theorem Ext.lt_4_5 : (n < n + 4 + a + b + c + d + e) = True := eq_true (by omega)
@[go_sem] theorem Ext.lt_1_4_5 : (n + 1 < n + 4 + a + b + c + d + e) = True := eq_true (by omega)
@[go_sem] theorem Ext.lt_2_4_5 : (n + 2 < n + 4 + a + b + c + d + e) = True := eq_true (by omega)
@[go_sem] theorem Ext.lt_3_4_5 : (n + 3 < n + 4 + a + b + c + d + e) = True := eq_true (by omega)
@[go_sem] theorem Ext.lt_4_6 : (n < n + 4 + a + b + c + d + e + f) = True := eq_true (by omega)
@[go_sem] theorem Ext.lt_4_7 : (n < n + 4 + a + b + c + d + e + f + g) = True := eq_true (by omega)
@[go_sem] theorem Ext.lt_4_8 : (n < n + 4 + a + b + c + d + e + f + g + h) = True := eq_true (by omega)
@[go_sem] theorem Ext.lt_5_1 : (n < n + 5 + a) = True := eq_true (by omega)
@[go_sem] theorem Ext.lt_1_5_1 : (n + 1 < n + 5 + a) = True := eq_true (by omega)
@[go_sem] theorem Ext.lt_2_5_1 : (n + 2 < n + 5 + a) = True := eq_true (by omega)
@[go_sem] theorem Ext.lt_3_5_1 : (n + 3 < n + 5 + a) = True := eq_true (by omega)
@[go_sem] theorem Ext.lt_4_5_1 : (n + 4 < n + 5 + a) = True := eq_true (by omega)
@[go_sem] theorem Ext.lt_5_2 : (n < n + 5 + a + b) = True := eq_true (by omega)
@[go_sem] theorem Ext.lt_1_5_2 : (n + 1 < n + 5 + a + b) = True := eq_true (by omega)
@[go_sem] theorem Ext.lt_2_5_2 : (n + 2 < n + 5 + a + b) = True := eq_true (by omega)
@[go_sem] theorem Ext.lt_3_5_2 : (n + 3 < n + 5 + a + b) = True := eq_true (by omega)
@[go_sem] theorem Ext.lt_4_5_2 : (n + 4 < n + 5 + a + b) = True := eq_true (by omega)
@[go_sem] theorem Ext.lt_5_3 : (n < n + 5 + a + b + c) = True := eq_true (by omega)
@[go_sem] theorem Ext.lt_1_5_3 : (n + 1 < n + 5 + a + b + c) = True := eq_true (by omega)
@[go_sem] theorem Ext.lt_2_5_3 : (n + 2 < n + 5 + a + b + c) = True := eq_true (by omega)
@[go_sem] theorem Ext.lt_3_5_3 : (n + 3 < n + 5 + a + b + c) = True := eq_true (by omega)
@[go_sem] theorem Ext.lt_4_5_3 : (n + 4 < n + 5 + a + b + c) = True := eq_true (by omega)
@[go_sem] theorem Ext.lt_5_4 : (n < n + 5 + a + b + c + d) = True := eq_true (by omega)
@[go_sem] theorem Ext.lt_1_5_4 : (n + 1 < n + 5 + a + b + c + d) = True := eq_true (by omega)
@[go_sem] theorem Ext.lt_2_5_4 : (n + 2 < n + 5 + a + b + c + d) = True := eq_true (by omega)
@[go_sem] theorem Ext.lt_3_5_4 : (n + 3 < n + 5 + a + b + c + d) = True := eq_true (by omega)
@[go_sem] theorem Ext.lt_4_5_4 : (n + 4 < n + 5 + a + b + c + d) = True := eq_true (by omega)
@[go_sem] theorem Ext.lt_5_5 : (n < n + 5 + a + b + c + d + e) = True := eq_true (by omega)
@[go_sem] theorem Ext.lt_1_5_5 : (n + 1 < n + 5 + a + b + c + d + e) = True := eq_true (by omega)
@[go_sem] theorem Ext.lt_2_5_5 : (n + 2 < n + 5 + a + b + c + d + e) = True := eq_true (by omega)
@[go_sem] theorem Ext.lt_3_5_5 : (n + 3 < n + 5 + a + b + c + d + e) = True := eq_true (by omega)
@[go_sem] theorem Ext.lt_4_5_5 : (n + 4 < n + 5 + a + b + c + d + e) = True := eq_true (by omega)
@[go_sem] theorem Ext.lt_5_6 : (n < n + 5 + a + b + c + d + e + f) = True := eq_true (by omega)
@[go_sem] theorem Ext.lt_5_7 : (n < n + 5 + a + b + c + d + e + f + g) = True := eq_true (by omega)
@[go_sem] theorem Ext.lt_5_8 : (n < n + 5 + a + b + c + d + e + f + g + h) = True := eq_true (by omega)
@[go_sem] theorem Ext.lt_6_1 : (n < n + 6 + a) = True := eq_true (by omega)
@[go_sem] theorem Ext.lt_1_6_1 : (n + 1 < n + 6 + a) = True := eq_true (by omega)
@[go_sem] theorem Ext.lt_2_6_1 : (n + 2 < n + 6 + a) = True := eq_true (by omega)
@[go_sem] theorem Ext.lt_3_6_1 : (n + 3 < n + 6 + a) = True := eq_true (by omega)
@[go_sem] theorem Ext.lt_4_6_1 : (n + 4 < n + 6 + a) = True := eq_true (by omega)
@[go_sem] theorem Ext.lt_5_6_1 : (n + 5 < n + 6 + a) = True := eq_true (by omega)
@[go_sem] theorem Ext.lt_6_2 : (n < n + 6 + a + b) = True := eq_true (by omega)
@[go_sem] theorem Ext.lt_1_6_2 : (n + 1 < n + 6 + a + b) = True := eq_true (by omega)
@[go_sem] theorem Ext.lt_2_6_2 : (n + 2 < n + 6 + a + b) = True := eq_true (by omega)
@[go_sem] theorem Ext.lt_3_6_2 : (n + 3 < n + 6 + a + b) = True := eq_true (by omega)
@[go_sem] theorem Ext.lt_4_6_2 : (n + 4 < n + 6 + a + b) = True := eq_true (by omega)
@[go_sem] theorem Ext.lt_5_6_2 : (n + 5 < n + 6 + a + b) = True := eq_true (by omega)
@[go_sem] theorem Ext.lt_6_3 : (n < n + 6 + a + b + c) = True := eq_true (by omega)
@[go_sem] theorem Ext.lt_1_6_3 : (n + 1 < n + 6 + a + b + c) = True := eq_true (by omega)
@[go_sem] theorem Ext.lt_2_6_3 : (n + 2 < n + 6 + a + b + c) = True := eq_true (by omega)
@[go_sem] theorem Ext.lt_3_6_3 : (n + 3 < n + 6 + a + b + c) = True := eq_true (by omega)
@[go_sem] theorem Ext.lt_4_6_3 : (n + 4 < n + 6 + a + b + c) = True := eq_true (by omega)
@[go_sem] theorem Ext.lt_5_6_3 : (n + 5 < n + 6 + a + b + c) = True := eq_true (by omega)
@[go_sem] theorem Ext.lt_6_4 : (n < n + 6 + a + b + c + d) = True := eq_true (by omega)
@[go_sem] theorem Ext.lt_1_6_4 : (n + 1 < n + 6 + a + b + c + d) = True := eq_true (by omega)
@[go_sem] theorem Ext.lt_2_6_4 : (n + 2 < n + 6 + a + b + c + d) = True := eq_true (by omega)
@[go_sem] theorem Ext.lt_3_6_4 : (n + 3 < n + 6 + a + b + c + d) = True := eq_true (by omega)
@[go_sem] theorem Ext.lt_4_6_4 : (n + 4 < n + 6 + a + b + c + d) = True := eq_true (by omega)
@[go_sem] theorem Ext.lt_5_6_4 : (n + 5 < n + 6 + a + b + c + d) = True := eq_true (by omega)
@[go_sem] theorem Ext.lt_6_5 : (n < n + 6 + a + b + c + d + e) = True := eq_true (by omega)
@[go_sem] theorem Ext.lt_1_6_5 : (n + 1 < n + 6 + a + b + c + d + e) = True := eq_true (by omega)
@[go_sem] theorem Ext.lt_2_6_5 : (n + 2 < n + 6 + a + b + c + d + e) = True := eq_true (by omega)
@[go_sem] theorem Ext.lt_3_6_5 : (n + 3 < n + 6 + a + b + c + d + e) = True := eq_true (by omega)
@[go_sem] theorem Ext.lt_4_6_5 : (n + 4 < n + 6 + a + b + c + d + e) = True := eq_true (by omega)
@[go_sem] theorem Ext.lt_5_6_5 : (n + 5 < n + 6 + a + b + c + d + e) = True := eq_true (by omega)
@[go_sem] theorem Ext.lt_6_6 : (n < n + 6 + a + b + c + d + e + f) = True := eq_true (by omega)
@[go_sem] theorem Ext.lt_6_7 : (n < n + 6 + a + b + c + d + e + f + g) = True := eq_true (by omega)
@[go_sem] theorem Ext.lt_6_8 : (n < n + 6 + a + b + c + d + e + f + g + h) = True := eq_true (by omega)
@[go_sem] theorem Ext.le_1 : (n ≤ n + a) = True := eq_true (by omega)
@[go_sem] theorem Ext.le_2 : (n ≤ n + a + b) = True := eq_true (by omega)
@[go_sem] theorem Ext.le_3 : (n ≤ n + a + b + c) = True := eq_true (by omega)
@[go_sem] theorem Ext.le_4 : (n ≤ n + a + b + c + d) = True := eq_true (by omega)
@[go_sem] theorem Ext.le_5 : (n ≤ n + a + b + c + d + e) = True := eq_true (by omega)
@[go_sem] theorem Ext.le_6 : (n ≤ n + a + b + c + d + e + f) = True := eq_true (by omega)
@[go_sem] theorem Ext.le_7 : (n ≤ n + a + b + c + d + e + f + g) = True := eq_true (by omega)
@[go_sem] theorem Ext.le_8 : (n ≤ n + a + b + c + d + e + f + g + h) = True := eq_true (by omega)
end

@[go_sem] theorem Ext.lt_far {a n : Nat} (h : a < n) (k : Nat) : (a < n + k) = True := eq_true (by omega)
@[go_sem] theorem Ext.ne_far {a n : Nat} (h : a < n) (k : Nat) : (a = n + k) = False := eq_false (by omega)
@[go_sem] theorem Ext.ne_far' {a n : Nat} (h : a < n) (k : Nat) : (n + k = a) = False := eq_false (by omega)
@[go_sem] theorem Ext.lt_far_2 {a n : Nat} (h : a < n) (k m : Nat) : (a < n + k + m) = True := eq_true (by omega)
@[go_sem] theorem Ext.ne_far_2 {a n : Nat} (h : a < n) (k m : Nat) : (a = n + k + m) = False := eq_false (by omega)
@[go_sem] theorem Ext.ne_far_2' {a n : Nat} (h : a < n) (k m : Nat) : (n + k + m = a) = False := eq_false (by omega)
@[go_sem] theorem Ext.lt_far_3 {a n : Nat} (h : a < n) (k m p : Nat) : (a < n + k + m + p) = True := eq_true (by omega)
@[go_sem] theorem Ext.ne_far_3 {a n : Nat} (h : a < n) (k m p : Nat) : (a = n + k + m + p) = False := eq_false (by omega)
@[go_sem] theorem Ext.ne_far_3' {a n : Nat} (h : a < n) (k m p : Nat) : (n + k + m + p = a) = False := eq_false (by omega)
@[go_sem] theorem Ext.lt_far_4 {a n : Nat} (h : a < n) (k m p q : Nat) : (a < n + k + m + p + q) = True := eq_true (by omega)
@[go_sem] theorem Ext.ne_far_4 {a n : Nat} (h : a < n) (k m p q : Nat) : (a = n + k + m + p + q) = False := eq_false (by omega)
@[go_sem] theorem Ext.ne_far_4' {a n : Nat} (h : a < n) (k m p q : Nat) : (n + k + m + p + q = a) = False := eq_false (by omega)
@[go_sem] theorem Ext.lt_far_5 {a n : Nat} (h : a < n) (k m p q r : Nat) : (a < n + k + m + p + q + r) = True := eq_true (by omega)
@[go_sem] theorem Ext.ne_far_5 {a n : Nat} (h : a < n) (k m p q r : Nat) : (a = n + k + m + p + q + r) = False := eq_false (by omega)
@[go_sem] theorem Ext.ne_far_5' {a n : Nat} (h : a < n) (k m p q r : Nat) : (n + k + m + p + q + r = a) = False := eq_false (by omega)
@[go_sem] theorem Ext.lt_far_6 {a n : Nat} (h : a < n) (k m p q r t : Nat) : (a < n + k + m + p + q + r + t) = True := eq_true (by omega)
@[go_sem] theorem Ext.ne_far_6 {a n : Nat} (h : a < n) (k m p q r t : Nat) : (a = n + k + m + p + q + r + t) = False := eq_false (by omega)
@[go_sem] theorem Ext.ne_far_6' {a n : Nat} (h : a < n) (k m p q r t : Nat) : (n + k + m + p + q + r + t = a) = False := eq_false (by omega)
@[go_sem] theorem Ext.ne_far0 {a n : Nat} (h : a < n) : (a = n) = False := eq_false (by omega)
@[go_sem] theorem Ext.ne_far0' {a n : Nat} (h : a < n) : (n = a) = False := eq_false (by omega)
def Ext.cat (X Y : Ext) : Ext := ⟨X.blocks ++ Y.blocks, Y.draws⟩
@[simp] theorem Ext.size_cat (X Y : Ext) : (X.cat Y).blocks.size = X.blocks.size + Y.blocks.size := by simp [Ext.cat]
@[go_sem] theorem World.ext_ext (w : World) (X Y : Ext) : (w.ext X).ext Y = w.ext (X.cat Y) := by simp [World.ext, Ext.cat]

section
variable {P : Program}
theorem Calls.ext_of {f : FuncId} {args : Array Value} {w : World} {X : Ext} {v : Value}
  (h : Calls P f args (w.ext X) fun e w' => e = .returned v ∧ Below (w.ext X).heap.size (w.ext X) w') : Calls P f args (w.ext X) fun e w'' => e = .returned v ∧ ∃ Y, w'' = w.ext Y :=
 h.mono fun _ _ ⟨he, hb⟩ => ⟨he, World.ext_of_below ((World.below_ext w X).trans (hb.mono (by simp [World.size_ext])))⟩
theorem wp_region_ext_lit {id : Nat} {Q : Exit → Act → World → Prop} {a : Act} {w : World} {l : List Oper} (hm : P.follows .mixedOrders = true) (hB : Region.lexB .any l.toArray = true)
  (h : wpQuiet P l.toArray (fun w' => ∃ X, w' = w.ext X) (fun a' => ∀ w', (∃ X, w' = w.ext X) → Q .normal a' w') l a) : (Code.region id l.toArray true).wp P Q a w :=
 wp_region_quiet (C := fun w' => ∃ X, w' = w.ext X) hm hB ⟨⟨#[], w.drawn + 1⟩, by simp [World.ext]⟩ (by simpa using h)
end

theorem own_below {B base e size n : Nat} {w₀ w w' : World} {v : Value} {xs : List Value} (hb : Below B w₀ w) (hown : w.ownsRow base e size v n xs) (hg : w.grownBy w' v.ownBlock) (hB : B ≤ base) (hs : B ≤ w.heap.size) : Below B w₀ w' :=
 hb.grown hg hs (fun k hk => by
  rcases hown.2 with ⟨rfl, _⟩ | ⟨g, cap, cur, rfl, hbg, _⟩
  ·simp [Value.ownBlock] at hk
  ·have : g = k := by simpa [Value.ownBlock] using hk
   omega)
theorem cells_new (w : World) (cs : Array Value) (t : TypeId) : ∀ j u, cs.toList[j]? = some u → (w.alloc (.cells cs t)).cell? ((⟨w.heap.size, 0, none⟩ : Addr).add j) = some u := by
 intro j u h
 have : (⟨w.heap.size, 0, none⟩ : Addr).add j = ⟨w.heap.size, j, none⟩ := by
  unfold Addr.add
  split
  ·rename_i h0; rw [h0]
  ·simp
 rw [this, World.cell?_alloc_new]
 simpa using h
theorem own_base {base base' : Nat} {e : TypeId} {size n : Nat} {w : World} {v : Value} {xs : List Value} (h : w.ownsRow base e size v n xs) (hb : base' ≤ base) : w.ownsRow base' e size v n xs := by
 refine ⟨h.1, ?_⟩
 rcases h.2 with h2 | ⟨g, cap, cur, hv, hg, r⟩
 ·exact .inl h2
 ·exact .inr ⟨g, cap, cur, hv, Nat.le_trans hb hg, r⟩
theorem hide {p : Prop} (h : p) : Hid p := h
theorem blk_cell {w : World} {n : Nat} {cs : Array Value} {t : TypeId} {fr : Nat × Nat} (h : w.heap[n]? = some (.cells cs t fr)) : ∀ o, w.cell? ⟨n, o, none⟩ = cs[o]? := fun o => by simp [World.cell?, h]
theorem blk_frozen {w : World} {n : Nat} {cs : Array Value} {t : TypeId} (h : w.heap[n]? = some (.cells cs t (0, 0))) : ∀ o, w.frozen? ⟨n, o, none⟩ = false := fun o => by simp [World.frozen?, h]
theorem blk_lt {w : World} {n : Nat} {o : Obj} (h : w.heap[n]? = some o) : n < w.heap.size := by
 rcases Nat.lt_or_ge n w.heap.size with h' | h'
 ·exact h'
 ·rw [Array.getElem?_eq_none h'] at h; cases h
theorem Below.ext {B : Nat} {a w : World} (h : Below B a w) (hB : B ≤ w.heap.size) (X : Ext) : Below B a (w.ext X) := h.trans ((World.below_ext w X).mono hB)

theorem abstr {α : Type} {F : α → World → Prop} {a : α} {W : World} (p : World → Prop) (hp : p W) (h : ∀ W', p W' → F a W') : F a W := h W hp

section
open Go.ChangeShapes Go.WideShapes Go.ChangeAt
variable {H : Type} {enc : TypeId × Value → H}

theorem trodAll_stays {P : Program} (hl : laidOutB P = true) {W W' : World} {sp : Nat → Bool} :
  ∀ {ts : List TypeId} {vs : List Value} {ds : List (DataW H)} {ps : List MemPlace}, (∀ t ∈ ts, P.readableRec t = true ∧ t < P.types.size) → DataW.TrodAll enc P W 0 (fun _ => true) true ts vs ds ps →
   (∀ p ∈ ps, W.sameAt W' p) → (∀ p ∈ ps, sp p.block = true) → DataW.TrodAll enc P W' 0 sp true ts vs ds ps
 | [], _, _, _, _, h, _, _ => by obtain ⟨rfl, rfl, rfl⟩ := trodAll_nil h; exact trodAll_mk0
 | t :: ts, _, _, _, hr, h, hs, hp => by
  obtain ⟨v, vs', d, ds', p, q, rfl, rfl, rfl, h1, h2⟩ := trodAll_cons h
  exact trodAll_cons_mk (WideElems.Trod_stays hl (hr t (by simp)).1 (hr t (by simp)).2 h1 (fun x hx => hs x (by simp [hx])) (fun x hx => hp x (by simp [hx])))
   (trodAll_stays hl (fun t' ht' => hr t' (by simp [ht'])) h2 (fun x hx => hs x (by simp [hx])) (fun x hx => hp x (by simp [hx])))

theorem trodAll_length {P : Program} {w : World} {base : Nat} {sp : Nat → Bool} {held : Bool} :
  ∀ {ts : List TypeId} {vs : List Value} {ds : List (DataW H)} {ps : List MemPlace}, DataW.TrodAll enc P w base sp held ts vs ds ps → vs.length = ts.length ∧ ds.length = ts.length
 | [], _, _, _, h => by obtain ⟨rfl, rfl, rfl⟩ := trodAll_nil h; exact ⟨rfl, rfl⟩
 | t :: ts, _, _, _, h => by
  obtain ⟨v, vs', d, ds', p, q, rfl, rfl, rfl, h1, h2⟩ := trodAll_cons h
  have := trodAll_length h2
  simp [this.1, this.2]

theorem post_of_below {P : Program} {f : Func} {s : ChangeSpec} {apart fresh handsOn again : Bool} {W W' : World} {args : Array Value} {v : Value} {ds gs : List (DataW H)} {before pa pv : List MemPlace}
  (hW : DataW.Whole enc P f.params.toList s.vars apart W args.toList ds gs before)
  (hres : ∀ (b : Nat) (sp : Nat → Bool) (hd : Bool), DataW.TrodAll enc P W' b sp hd f.resultTypes.toList (v.resultList f.resultTypes.size) (s.fn H (ds ++ gs)).results [])
  (hargs : ∀ sp : Nat → Bool, (∀ p ∈ before, sp p.block = true) → DataW.TrodAll enc P W' 0 sp true f.params.toList args.toList (s.fn H (ds ++ gs)).args pa)
  (hvars : ∀ sp : Nat → Bool, (∀ p ∈ before, sp p.block = true) → DataW.TrodVars enc P W' sp s.vars (s.fn H (ds ++ gs)).vars pv)
  (hps : before = pa ++ pv) (hb : Below W.heap.size W W')
  (hok : ∀ (j : Nat) (t : TypeId) (r : Value), f.resultTypes[j]? = some t → (v.resultList f.resultTypes.size)[j]? = some r → Value.okWide P W' .any 0 t r) :
  s.post enc P f apart fresh handsOn again W args v W' := by
 have hlt : ∀ p ∈ before, p.block < W.heap.size := fun p hp => hW.lt p hp
 have hold : ∀ p ∈ before, (fun b => decide (b < W.heap.size)) p.block = true := fun p hp => by simpa using hlt p hp
 refine ⟨ds, gs, before, [], pa, pv, hW, hres _ _ _, hargs _ hold, hvars _ hold, World.keptBut_mono (fun p hp => ⟨hp, ?_⟩) (hb.frame (· ∈ before)), fun _ => ?_⟩
 ·rw [hps, List.mem_append] at hp
  exact Or.inr hp
 ·obtain ⟨_, _, _, _, _, hz, hn⟩ := hW
  refine ⟨hok, _, _, ([] ++ pa) ++ pv, ⟨[] ++ pa, pv, trodAll_append (hargs _ (fun _ _ => rfl)) (hres _ _ _), hvars _ (fun _ _ => rfl), rfl, ?_, ?_⟩, ?_⟩
  ·intro b off hp
   have hin : MemPlace.cell b off ∈ before := by rw [hps]; simpa using hp
   rw [hb.frozen (hlt _ hin)]
   exact hz b off hin
  ·intro ha
   have := hn ha
   rw [hps] at this
   simpa using this
  ·intro p hp _
   rw [hps]
   simpa using hp

theorem list2 {α : Type} {l : List α} (h : l.length = 2) : ∃ a b, l = [a, b] := by
 match l, h with | [a, b], _ => exact ⟨a, b, rfl⟩
theorem list3 {α : Type} {l : List α} (h : l.length = 3) : ∃ a b c, l = [a, b, c] := by
 match l, h with | [a, b, c], _ => exact ⟨a, b, c, rfl⟩
def LawWalkS (enc : TypeId × Value → H) (P : Program) (f : FuncId) (fn : Func) : Prop :=
 ∀ (W : World) (base : Nat) (args : Array Value) (ds : List (DataW H)) (ps : List MemPlace),
  (∀ (j : Nat) t v, fn.params[j]? = some t → args[j]? = some v → Value.okWide P W .any base t v) →
  DataW.TrodAll enc P W 0 (fun _ => true) true fn.params.toList args.toList ds ps → (∀ p ∈ ps, p.block < W.heap.size) → W.noneFrozen ps →
  (DataW.weightsEach P fn.params.toList ds).all (· ≤ reachBytes) = true →
  Calls P f args W fun e W' => e = .returned (.bool true) ∧ Below W.heap.size W W'
theorem law_post {C : Checked} {fn : Func} {s : ChangeSpec} {tb : TypeId} {W W' : World} {args : Array Value} {ds gs : List (DataW H)} {before : List MemPlace}
  (hl : laidOutB C.prog = true) (hr : (fn.params.toList.all fun t => C.prog.readableRec t && decide (t < C.prog.types.size)) = true)
  (hres : fn.resultTypes = #[tb]) (hb : C.prog.underlying tb = some .bool) (hv : s.vars = [])
  (hs : ∀ ds : List (DataW H), ds.length = fn.params.size → s.fn H ds = { results := [.lit (.bool true)], args := ds })
  (hW : DataW.Whole enc C.prog fn.params.toList s.vars false W args.toList ds gs before) (hg : Below W.heap.size W W') :
  s.post enc C.prog fn false true false false W args (.bool true) W' := by
 have hW' := hW
 have hlt : ∀ p ∈ before, p.block < W.heap.size := fun p hp => hW'.lt p hp
 obtain ⟨p, q, hA, hV, hpq, hfz, hnd⟩ := hW
 rw [hv] at hV
 obtain ⟨rfl, rfl⟩ := trodVars_none hV
 simp only [List.append_nil] at hpq
 subst hpq
 have hlen := trodAll_length hA
 have hfn' := hs ds (by rw [hlen.2]; simp)
 refine post_of_below (pa := before) (pv := []) hW' ?_ ?_ ?_ (by simp) hg ?_
 ·intro b sp hd
  rw [List.append_nil, hfn', hres]
  exact trodAll_mk1 (shut_bool hb true)
 ·intro sp hsp
  rw [List.append_nil, hfn']
  have hr' : ∀ t ∈ fn.params.toList, C.prog.readableRec t = true ∧ t < C.prog.types.size := fun t ht => by
   have := List.all_eq_true.1 hr t ht
   simpa using this
  exact trodAll_stays hl hr' hA (fun x hx => hg.same (hlt x hx)) hsp
 ·intro sp _
  rw [hv, List.append_nil, hfn']
  rfl
 ·exact ok_one hres rfl (okWide_bool_mk hb true)

theorem law_lifted_sized {C : Checked} {os : Os} {f : FuncId} {fn : Func} {s : ChangeSpec} {tb : TypeId}
  (own : ownKnob C.prog.godebug = none) (started : os.Started) (noInit : C.prog.inits.idxOf? f = none) (hfn : C.prog.funcs[f]? = some fn)
  (hl : laidOutB C.prog = true) (hr : (fn.params.toList.all fun t => C.prog.readableRec t && decide (t < C.prog.types.size)) = true)
  (hres : fn.resultTypes = #[tb]) (hb : C.prog.underlying tb = some .bool) (hv : s.vars = []) (hvt : s.plain.varTypes C.prog = [])
  (hs : ∀ ds : List (DataW H), ds.length = fn.params.size → s.fn H ds = { results := [.lit (.bool true)], args := ds })
  (witness : ∃ (w : World) (tape : Tape) (i : Input), w.os = os ∧ (w.forCall tape i).Shaped C.prog ∧ i.vars = [] ∧ Input.okWide C.prog (w.forCall tape i) .any w.heap.size f i ∧
   s.pre6 enc C.prog fn [] false (w.forCall tape i).memory i.args ∧ Assume.holds {} C.prog (lone (Frame.enter C.prog f i.args .normal) [] (w.forCall tape i)))
  (walk : LawWalkS enc C.prog f fn) :
  ReturnsInHanded {} C os f .any (s.pre6 enc C.prog fn [] false) (s.post enc C.prog fn false true false false) := by
 refine returnsInHanded_of_change_sized own started noInit hfn witness ?_
 intro W base args ds gs before hval hW _ hsz _
 have hW' := hW
 have hlt : ∀ p ∈ before, p.block < W.heap.size := fun p hp => hW'.lt p hp
 obtain ⟨p, q, hA, hV, hpq, hfz, hnd⟩ := hW
 rw [hv] at hV
 obtain ⟨rfl, rfl⟩ := trodVars_none hV
 simp only [List.append_nil] at hpq
 subst hpq
 rw [hvt, List.append_nil, List.append_nil] at hsz
 refine (walk W base args ds before hval hA hlt hfz hsz).mono fun e W' ⟨he, hg⟩ => ?_
 exact ⟨_, he, law_post hl hr hres hb hv hs hW' hg⟩

end

section
open Go.RowKit
theorem block_of_add (a : Addr) (n : Nat) : (a.add n).block = a.block := by unfold Addr.add; split <;> rfl
theorem add_of_add (a : Addr) (i j : Nat) : (a.add i).add j = a.add (i + j) := by
 unfold Addr.add
 by_cases hi : i = 0 <;> by_cases hj : j = 0 <;> simp [hi, hj, Nat.add_assoc]
theorem add_plain (b o i : Nat) : (⟨b, o, none⟩ : Addr).add i = ⟨b, o + i, none⟩ := by
 unfold Addr.add
 split
 ·rename_i h0; rw [h0]; rfl
 ·rfl

def Reads (w : World) (B size : Nat) (A : Option Addr) (n : Nat) (xs : List Value) : Prop :=
 xs.length = n * size ∧ (0 < n → ∃ ad, A = some ad ∧ ad.block < B ∧ ∀ j u, xs[j]? = some u → w.cell? (ad.add j) = some u)

section
variable {w w' : World} {B B' size n : Nat} {A : Option Addr} {xs : List Value}
theorem Reads.none_ : Reads w B size A 0 [] := ⟨by simp, fun h => absurd h (by omega)⟩
theorem Reads.keep (h : Reads w B size A n xs) (hk : ∀ p : Addr, p.block < B → w'.cell? p = w.cell? p) : Reads w' B size A n xs :=
 ⟨h.1, fun hn => by
  obtain ⟨ad, e, hb, hc⟩ := h.2 hn
  exact ⟨ad, e, hb, fun j u hu => (hk _ (by rw [block_of_add]; exact hb)).trans (hc j u hu)⟩⟩
theorem Reads.more (h : Reads w B size A n xs) (hB : B ≤ B') : Reads w B' size A n xs :=
 ⟨h.1, fun hn => by
  obtain ⟨ad, e, hb, hc⟩ := h.2 hn
  exact ⟨ad, e, by omega, hc⟩⟩
theorem Reads.below (h : Reads w B size A n xs) (hb : Below B w w') : Reads w' B size A n xs := h.keep fun _ hp => hb.cell hp
theorem Reads.ext (h : Reads w B size A n xs) (hB : B ≤ w.heap.size) (X : Ext) : Reads (w.ext X) B size A n xs := h.keep fun _ hp => World.cell?_ext (Nat.lt_of_lt_of_le hp hB)
theorem Reads.grown (h : Reads w w.heap.size size A n xs) (X : Ext) : Reads (w.ext X) (w.ext X).heap.size size A n xs := (h.ext (Nat.le_refl _) X).more (by simp [World.size_ext])
theorem Reads.alloc (h : Reads w B size A n xs) (hB : B ≤ w.heap.size) (o : Obj) : Reads (w.alloc o) B size A n xs := h.keep fun p hp => World.cell?_alloc_lt w o p (by omega)
theorem Reads.setCell (h : Reads w B size A n xs) {p : Addr} (hB : B ≤ p.block) (u : Value) : Reads (w.setCell p u) B size A n xs :=
 h.keep fun q hq => World.cell?_setCell_other w p q u (fun e => by subst e; omega)
theorem Reads.plain (h : Reads w B size A n xs) (hn : 0 < n) (hs : 0 < size) : ∃ b o, A = some ⟨b, o, none⟩ ∧ b < B ∧ ∀ j u, xs[j]? = some u → w.cell? ⟨b, o + j, none⟩ = some u := by
 obtain ⟨⟨b, o, s⟩, rfl, hb, hc⟩ := h.2 hn
 have hl : 0 < xs.length := by rw [h.1]; exact Nat.mul_pos hn hs
 have h0 := hc 0 xs[0] (List.getElem?_eq_getElem hl)
 have : s = none := by
  cases s with
  | none => rfl
  | some k => simp [Addr.add, World.cell?] at h0; split at h0 <;> cases h0
 subst this
 exact ⟨b, o, rfl, hb, fun j u hu => by rw [← add_plain]; exact hc j u hu⟩
theorem Reads.of_own {base : Nat} {e : TypeId} {c : Nat} (h : w.ownsRow base e size (.slice A n c) n xs) : Reads w w.heap.size size A n xs := by
 refine ⟨h.1, fun hn => ?_⟩
 rcases h.2 with ⟨_, h0⟩ | ⟨g, cap, cur, hv, _, hh, hnc, _, hsz, htk⟩
 ·omega
 ·have hA : A = some ⟨g, 0, none⟩ := by injection hv
  subst hA
  refine ⟨_, rfl, blk_lt hh, fun j u hu => ?_⟩
  rw [add_plain, Nat.zero_add, blk_cell hh]
  subst htk
  rw [List.getElem?_take] at hu
  split at hu
  ·simpa using hu
  ·cases hu
end

def Blk (w : World) (g : Nat) (t : TypeId) (cs : Array Value) : Prop := w.heap[g]? = some (.cells cs t (0, 0))
section
variable {w w' : World} {g : Nat} {t : TypeId} {cs : Array Value}
theorem Blk.lt (h : Blk w g t cs) : g < w.heap.size := blk_lt h
theorem Blk.cell (h : Blk w g t cs) (i : Nat) : w.cell? ⟨g, i, none⟩ = cs[i]? := blk_cell h i
theorem Blk.frozen (h : Blk w g t cs) (i : Nat) : w.frozen? ⟨g, i, none⟩ = false := blk_frozen h i
theorem Blk.new (w : World) (t : TypeId) (cs : Array Value) : Blk (w.alloc (.cells cs t)) w.heap.size t cs := heap_alloc_new w _
theorem Blk.drew (h : Blk w g t cs) : Blk w.drew g t cs := h
theorem Blk.alloc (h : Blk w g t cs) (o : Obj) : Blk (w.alloc o) g t cs := (Below.heap_alloc w o g h.lt).trans h
theorem Blk.ext (h : Blk w g t cs) (X : Ext) : Blk (w.ext X) g t cs := (World.heap_ext h.lt).trans h
theorem Blk.set_ (h : Blk w g t cs) (i : Nat) (u : Value) : Blk (w.setCell ⟨g, i, none⟩ u) g t (cs.setIfInBounds i u) := by
 unfold Blk at h ⊢
 simp [World.setCell, Array.getElem?_modify, h]
theorem Blk.set_to {cs' : Array Value} {i : Nat} {u : Value} (h : Blk w g t cs) (e : cs' = cs.setIfInBounds i u) : Blk (w.setCell ⟨g, i, none⟩ u) g t cs' := e ▸ h.set_ i u
theorem Blk.two {a b u v : Value} (h : Blk w g t #[a, b]) : Blk ((w.setCell ⟨g, 0, none⟩ u).setCell ⟨g, 1, none⟩ v) g t #[u, v] := (h.set_ 0 u).set_ 1 v
theorem Blk.three {a b c u v x : Value} (h : Blk w g t #[a, b, c]) : Blk (((w.setCell ⟨g, 0, none⟩ u).setCell ⟨g, 1, none⟩ v).setCell ⟨g, 2, none⟩ x) g t #[u, v, x] := ((h.set_ 0 u).set_ 1 v).set_ 2 x
theorem Blk.far (h : Blk w g t cs) {p : Addr} (hp : g ≠ p.block) (u : Value) : Blk (w.setCell p u) g t cs := (Below.heap_setCell w p u g hp).trans h
theorem Blk.below {B : Nat} (h : Blk w g t cs) (hb : Below B w w') (hg : g < B) : Blk w' g t cs := (hb.block g hg).trans h
theorem Blk.own (h : Blk w g t cs) {b size n cap : Nat} {xs : List Value} (hb : b ≤ g) (hn : n ≤ cap) (hm : cap ≤ maxLen) (hs : cs.size = cap * size) (hx : cs.toList.take (n * size) = xs) (hl : xs.length = n * size) :
  w.ownsRow b t size (.slice (some ⟨g, 0, none⟩) n cap) n xs := ⟨hl, .inr ⟨g, cap, cs, rfl, hb, h, hn, hm, hs, hx⟩⟩
end
end

theorem bodyPost_cell_tmp {P : Program} {fn : Func} {R : Ending → World → Prop} {a : Act} {w : World} {p u g : Nat} {t ty : TypeId} {cs : Array Value} {d : TypeDesc} (h : fn.results = #[.cell p ty, .tmp u])
  (hp : a.tmps.getD p undef = .pointer (some ⟨g, 0, none⟩)) (hB : Blk w g t cs) (hu : P.underlying ty = some d) (hd : (match d with | .struct _ | .array _ _ => true | _ => false) = true) (hi : (P.info? ty).map (·.size) = some cs.size)
  (hdf : a.defers = []) (hR : R (.returned (.tuple #[.agg cs, a.tmps.getD u undef])) w) : bodyPost P fn R .ret a w :=
 bodyPost_ret (by rw [results_cell_tmp h, hp]; simp only [asAddr, Sem.run_pure, Result.andThen_ok, run_loadVar_row w g t ty cs (0, 0) d hB hu hd hi]) hdf hR
theorem bodyPost_cell {P : Program} {fn : Func} {R : Ending → World → Prop} {a : Act} {w : World} {p g : Nat} {t ty : TypeId} {cs : Array Value} {d : TypeDesc} (h : fn.results = #[.cell p ty])
  (hp : a.tmps.getD p undef = .pointer (some ⟨g, 0, none⟩)) (hB : Blk w g t cs) (hu : P.underlying ty = some d) (hd : (match d with | .struct _ | .array _ _ => true | _ => false) = true) (hi : (P.info? ty).map (·.size) = some cs.size)
  (hdf : a.defers = []) (hR : R (.returned (.agg cs)) w) : bodyPost P fn R .ret a w :=
 bodyPost_ret (by
  have hp' := hp
  rw [Array.getD_eq_getD_getElem?] at hp'
  simp only [results, h]
  simp [hp', asAddr, run_loadVar_row w g t ty cs (0, 0) d hB hu hd hi]) hdf hR
end Go

namespace Go.Grow
open Go.RowKit
section
variable {P : Program} {ops : Array Oper} {md : Region.Mode} {w₀ : World}

def upon (P : Program) (w : World) (v : Value) : Result Next → Prop
 | .ok (.value u) w' => w' = w ∧ u = v
 | .ok .skip w' => w' = w ∧ v = undef
 | .ok (.enter f args) w' => w' = w ∧ Calls P f args w (fun e w'' => e = .returned v ∧ ∃ Y, w'' = w.ext Y)
 | _ => False
def at_ (P : Program) (o : Oper) (a : Act) (w : World) (v : Value) : Prop := upon P w v ((execOp a.eval o).run P w)
def grow (P : Program) (o : Oper) (a : Act) (w₀ : World) (next : Act → Prop) : Prop := ∃ v, (∀ X, at_ P o a (w₀.ext X) v) ∧ next (a.put o.dst v)
attribute [go_sem] upon at_ grow

end

def left (c : Nat → Bool) (As : List Nat) : Nat := (As.filter fun i => !c i).length
section
variable {P : Program} {ops : Array Oper} {md : Region.Mode} {w₀ : World}
end
end Go.Grow

namespace Go.First
open Go.RowKit
section
variable {P : Program} {ops : Array Oper} {md : Region.Mode} {C : World → Prop} {Q : Exit → Act → World → Prop}

def upon (w : World) (v : Value) : Result Next → Prop
 | .ok (.value u) w' => w' = w ∧ u = v
 | .ok .skip w' => w' = w ∧ v = undef
 | _ => False
def at_ (P : Program) (o : Oper) (a : Act) (w : World) (v : Value) : Prop := upon w v ((execOp a.eval o).run P w)
attribute [go_sem] upon at_

def YieldsC (P : Program) (ops : Array Oper) (C : World → Prop) (o : Oper) (v : Value) (a : Act) : Prop :=
 (Region.wanted o (yielded ops a.tmps) = true ∧ ∀ w, C w → at_ P o a w v) ∨ (Region.wanted o (yielded ops a.tmps) = false ∧ v = undef)
theorem YieldsC.wpOp {i : Nat} {o : Oper} {v : Value} {a : Act} (hi : ops[i]? = some o) (hy : YieldsC P ops C o v a) {K : Act → World → Prop} {w : World} (hC : C w) (h : K (a.put o.dst v) w) : wpOp P ops Q i K a w := by
 unfold Go.wpOp
 simp only [hi]
 rcases hy with ⟨hw, hv⟩ | ⟨hw, rfl⟩
 ·simp only [hw, if_true]
  refine .inl ?_
  have h3 := hv w hC
  unfold at_ at h3
  unfold Oper.wp
  generalize (execOp a.eval o).run P w = r at h3
  cases r with
  | ok n w' =>
   cases n <;> simp only [upon] at h3 <;> simp only [Oper.upon]
   case value u => obtain ⟨rfl, rfl⟩ := h3; exact h
   case skip => obtain ⟨rfl, rfl⟩ := h3; exact h
  | halt x w' => simp only [upon] at h3
 ·simp only [hw, Bool.false_eq_true, if_false]; exact h
theorem YieldsC.of_same {o : Oper} {v : Value} {a a' : Act} (hy : YieldsC P ops C o v a) (he : execOp a'.eval o = execOp a.eval o)
  (hw : Region.wanted o (yielded ops a'.tmps) = Region.wanted o (yielded ops a.tmps)) : YieldsC P ops C o v a' := by
 unfold YieldsC at_ at *
 rw [he, hw]
 exact hy
theorem wpOp_put {j : Nat} {oi oj : Oper} {v : Value} (hj : ops[j]? = some oj) (hap : oi.apart ops oj = true)
  (hsi : ∀ cs b, oi.op ≠ .select cs b) (hsj : ∀ cs b, oj.op ≠ .select cs b)
  (hQ : ∀ c a w, Q (.panic c) (a.put oi.dst v) w → Q (.panic c) a w) {K : Act → World → Prop} {a : Act} {w : World}
  (hy : YieldsC P ops C oi v a) (h : Go.wpOp P ops Q j K (a.put oi.dst v) w) :
  Go.wpOp P ops Q j (fun a' w' => YieldsC P ops C oi v a' ∧ K (a'.put oi.dst v) w') a w := by
 obtain ⟨h1, h2, h3⟩ := Oper.apart_spec hap
 have keep : ∀ (a : Act), YieldsC P ops C oi v a → ∀ u, YieldsC P ops C oi v (a.put oj.dst u) := fun a hy u =>
  hy.of_same (execOp_put oi hsi a oj.dst u h3) (wanted_put oi a oj.dst u h3)
 have keepD : ∀ d, YieldsC P ops C oi v { a with defers := d :: a.defers } := fun d => hy.of_same rfl rfl
 unfold Go.wpOp at *
 simp only [hj] at *
 rw [wanted_put oj a oi.dst v h1] at h
 split
 ·rename_i hw
  simp only [hw, if_true] at h
  rcases h with h | ⟨hasks, hlets⟩
  case inr => exact .inr ⟨by unfold Oper.asks at *; rw [execOp_put oj hsj a oi.dst v h1] at hasks; exact hasks, hlets⟩
  refine .inl ?_
  unfold Oper.wp at *
  rw [execOp_put oj hsj a oi.dst v h1] at h
  generalize (execOp a.eval oj).run P w = r at *
  cases r with
  | ok n w' =>
   cases n <;> simp only [Oper.upon] at h ⊢
   case value u => exact ⟨keep a hy u, by rw [← Act.put_comm a v u h2]; exact h⟩
   case skip => exact ⟨keep a hy _, by rw [← Act.put_comm a v undef h2]; exact h⟩
   case defer d =>
    refine ⟨keep _ (keepD d) _, ?_⟩
    rw [← Act.put_comm _ v undef h2, ← Act.put_defers]
    exact h
   case enter f args =>
    refine Calls.mono h fun e w'' he => ?_
    cases e with
    | returned u => exact ⟨keep a hy u, by rw [← Act.put_comm a v u h2]; exact he⟩
    | panicked c => exact hQ _ _ _ he
    | outgrown => exact he
   case row row args => exact Rows.mono h fun u w'' he => ⟨keep a hy u, by rw [← Act.put_comm a v u h2]; exact he⟩
  | halt x w' =>
   cases x <;> simp only [Oper.upon] at h ⊢
   case panic u => exact hQ _ _ _ h
 ·rename_i hw
  simp only [hw] at h
  exact ⟨keep a hy _, by rw [← Act.put_comm a v undef h2]; exact h⟩

def needB (md : Region.Mode) (ops : Array Oper) (Vs Ps : List Nat) (listed : Array Bool) : Bool :=
 Vs.any fun i => (List.range ops.size).all fun k => !listed.getD k false || k == i || Ps.contains k || !((ops.getD k default).after.any fun e => Region.binds md e && e.on == i)
def shut (md : Region.Mode) (ops : Array Oper) (listed : Array Bool) : Prop :=
 ∀ k ok, ops[k]? = some ok → listed.getD k false = true → ∀ e ∈ ok.after, Region.binds md e = true → listed.getD e.on false = true
theorem needB_of {Vs Ps : List Nat} {i : Nat} {listed : Array Bool} (hi : i ∈ Vs) (h : ∀ k ok, ops[k]? = some ok → listed.getD k false = true → k ≠ i → ∀ e ∈ ok.after, Region.binds md e = true → e.on ≠ i) : needB md ops Vs Ps listed = true := by
 refine List.any_eq_true.2 ⟨i, hi, List.all_eq_true.2 fun k hk => ?_⟩
 have hk' : k < ops.size := List.mem_range.1 hk
 have hg : ops.getD k default = ops[k] := by simp [Array.getD_eq_getD_getElem?, hk']
 cases hl : listed.getD k false
 ·simp
 ·by_cases hki : k = i
  ·simp [hki]
  ·simp only [Bool.not_true, Bool.false_or, Bool.or_eq_true, beq_iff_eq, hki, false_or, Bool.not_eq_true', hg]
   refine .inr ?_
   rw [Bool.eq_false_iff]
   intro ha
   obtain ⟨e, he, hb⟩ := Array.any_eq_true'.1 ha
   simp only [Bool.and_eq_true, beq_iff_eq] at hb
   exact h k _ (by simp [hk']) hl hki e he hb.1 hb.2

theorem needB_pure {Vs Ps : List Nat} {i : Nat} {listed : Array Bool} (hi : Ps.contains i = true) (h : needB md ops Vs Ps listed = true) : needB md ops Vs Ps (listed.setIfInBounds i true) = true := by
 obtain ⟨v, hv, ha⟩ := List.any_eq_true.1 h
 refine List.any_eq_true.2 ⟨v, hv, List.all_eq_true.2 fun k hk => ?_⟩
 have := List.all_eq_true.1 ha k hk
 by_cases hik : i = k
 ·subst hik
  rw [hi]
  simp
 ·rw [getD_set_ne false hik]
  exact this
def anyC (P : Program) (md : Region.Mode) (ops : Array Oper) (Le : World → World → Prop) (Vs Ps : List Nat) (Q : Exit → Act → World → Prop) : Nat → Array Bool → Act → World → Prop
 | 0, listed, a, w => Region.ready md ops listed = [] ∧ Q .normal a w
 | fuel + 1, listed, a, w => (Region.ready md ops listed = [] → Q .normal a w) ∧ ∀ i ∈ Region.ready md ops listed, wpOp P ops Q i (fun a' w' => (needB md ops Vs Ps (listed.setIfInBounds i true) = true → Le w w') ∧ anyC P md ops Le Vs Ps Q fuel (listed.setIfInBounds i true) a' w') a w
theorem wpAny_of_anyC {Le : World → World → Prop} {Vs Ps : List Nat} : ∀ (fuel : Nat) (listed : Array Bool) (a : Act) (w : World), anyC P md ops Le Vs Ps Q fuel listed a w → wpAny P md ops Q fuel listed a w
 | 0, _, _, _, h => h
 | fuel + 1, _, _, _, h => ⟨h.1, fun i hi => wpOp_mono (fun a' w' h' => wpAny_of_anyC fuel _ a' w' h'.2) (h.2 i hi)⟩
theorem anyC_first {Le : World → World → Prop} (hrefl : ∀ w, Le w w) (htrans : ∀ w w' w'', Le w w' → Le w' w'' → Le w w'') {Vs Ps : List Nat} {i : Nat} {oi : Oper} {v : Value} (hi : ops[i]? = some oi) (hiV : i ∈ Vs) (hsel : ∀ (j : Nat) (o : Oper) cs b, ops[j]? = some o → o.op ≠ .select cs b)
  (hQ : ∀ c a w, Q (.panic c) (a.put oi.dst v) w → Q (.panic c) a w) :
  ∀ (fuel : Nat) (listed : Array Bool) (a : Act) (w : World), i < listed.size →
   (∀ k ok, ops[k]? = some ok → listed.getD k false = true → k ≠ i → ∀ e ∈ ok.after, Region.binds md e = true → e.on ≠ i) →
   (∀ j oj, ops[j]? = some oj → j ≠ i → listed.getD j true = false → (∀ e ∈ oj.after, Region.binds md e = true → e.on ≠ i) → oi.apart ops oj = true) →
   i ∈ Region.ready md ops listed → YieldsC P ops (Le w) oi v a →
   anyC P md ops Le Vs Ps Q fuel (listed.setIfInBounds i true) (a.put oi.dst v) w → anyC P md ops Le Vs Ps Q (fuel + 1) listed a w := by
 intro fuel
 induction fuel with
 | zero =>
  intro listed a w _ _ _ hr hy H
  refine ⟨fun h => (by rw [h] at hr; cases hr), fun j hj => ?_⟩
  by_cases hji : j = i
  ·subst hji; exact hy.wpOp hi (hrefl w) ⟨fun _ => hrefl w, H⟩
  ·have := ready_mono hj hji
   rw [H.1] at this
   cases this
 | succ fuel ih =>
  intro listed a w hlt hno hfree hr hy H
  refine ⟨fun h => (by rw [h] at hr; cases hr), fun j hj => ?_⟩
  by_cases hji : j = i
  ·subst hji; exact hy.wpOp hi (hrefl w) ⟨fun _ => hrefl w, H⟩
  ·have h1 := H.2 j (ready_mono hj hji)
   obtain ⟨hjun, oj, hoj, hall⟩ := mem_ready.1 hj
   have hun := (mem_ready.1 hr).1
   have hnot : ∀ e ∈ oj.after, Region.binds md e = true → e.on ≠ i := fun e he hb heq => by
    have h1 := hall e he hb
    rw [heq, getD_both hun] at h1
    cases h1
   have h2 := wpOp_put hoj (hfree j oj hoj hji hjun hnot) (fun cs b => hsel i oi cs b hi) (fun cs b => hsel j oj cs b hoj) hQ hy h1
   have hfree' : ∀ k ok, ops[k]? = some ok → k ≠ i → (listed.setIfInBounds j true).getD k true = false →
     (∀ e ∈ ok.after, Region.binds md e = true → e.on ≠ i) → oi.apart ops ok = true := fun k ok hk hki hun hno => by
    refine hfree k ok hk hki ?_ hno
    by_cases hjk : j = k
    ·subst hjk; exact hjun
    ·rw [getD_set_ne true hjk] at hun; exact hun
   have hno' : ∀ k ok, ops[k]? = some ok → (listed.setIfInBounds j true).getD k false = true → k ≠ i → ∀ e ∈ ok.after, Region.binds md e = true → e.on ≠ i := fun k ok hk hl hki e he hb => by
    by_cases hjk : j = k
    ·subst hjk; rw [hoj] at hk; injection hk with hk; subst hk; exact hnot e he hb
    ·rw [getD_set_ne false hjk] at hl; exact hno k ok hk hl hki e he hb
   have hrdy := ready_mono hr (Ne.symm hji)
   refine wpOp_mono (fun a' w' h3 => ?_) h2
   obtain ⟨h3y, h3l, h4⟩ := h3
   rw [Array.setIfInBounds_comm _ _ (Ne.symm hji)] at h4 h3l
   have hle : Le w w' := h3l (needB_of hiV fun k ok hk hl hki => by
    rw [getD_set_ne false (Ne.symm hki)] at hl
    exact hno' k ok hk hl hki)
   exact ⟨fun _ => hle, ih (listed.setIfInBounds j true) a' w' (by simpa using hlt) hno' hfree' hrdy
    (by
     rcases h3y with ⟨hw, hv⟩ | ⟨hw, rfl⟩
     ·exact .inl ⟨hw, fun w'' h'' => hv w'' (htrans _ _ _ hle h'')⟩
     ·exact .inr ⟨hw, rfl⟩) h4⟩

theorem anyC_first_pure {Le : World → World → Prop} (hrefl : ∀ w, Le w w) {Vs Ps : List Nat} {i : Nat} {oi : Oper} {v : Value} (hi : ops[i]? = some oi) (hiP : Ps.contains i = true) (hsel : ∀ (j : Nat) (o : Oper) cs b, ops[j]? = some o → o.op ≠ .select cs b)
  (hQ : ∀ c a w, Q (.panic c) (a.put oi.dst v) w → Q (.panic c) a w) :
  ∀ (fuel : Nat) (listed : Array Bool) (a : Act) (w : World), i < listed.size →
   (∀ k ok, ops[k]? = some ok → listed.getD k false = true → k ≠ i → ∀ e ∈ ok.after, Region.binds md e = true → e.on ≠ i) →
   (∀ j oj, ops[j]? = some oj → j ≠ i → listed.getD j true = false → (∀ e ∈ oj.after, Region.binds md e = true → e.on ≠ i) → oi.apart ops oj = true) →
   i ∈ Region.ready md ops listed → YieldsC P ops (fun _ => True) oi v a →
   anyC P md ops Le Vs Ps Q fuel (listed.setIfInBounds i true) (a.put oi.dst v) w → anyC P md ops Le Vs Ps Q (fuel + 1) listed a w := by
 intro fuel
 induction fuel with
 | zero =>
  intro listed a w _ _ _ hr hy H
  refine ⟨fun h => (by rw [h] at hr; cases hr), fun j hj => ?_⟩
  by_cases hji : j = i
  ·subst hji; exact hy.wpOp hi trivial ⟨fun _ => hrefl w, H⟩
  ·have := ready_mono hj hji
   rw [H.1] at this
   cases this
 | succ fuel ih =>
  intro listed a w hlt hno hfree hr hy H
  refine ⟨fun h => (by rw [h] at hr; cases hr), fun j hj => ?_⟩
  by_cases hji : j = i
  ·subst hji; exact hy.wpOp hi trivial ⟨fun _ => hrefl w, H⟩
  ·have h1 := H.2 j (ready_mono hj hji)
   obtain ⟨hjun, oj, hoj, hall⟩ := mem_ready.1 hj
   have hun := (mem_ready.1 hr).1
   have hnot : ∀ e ∈ oj.after, Region.binds md e = true → e.on ≠ i := fun e he hb heq => by
    have h1 := hall e he hb
    rw [heq, getD_both hun] at h1
    cases h1
   have h2 := wpOp_put hoj (hfree j oj hoj hji hjun hnot) (fun cs b => hsel i oi cs b hi) (fun cs b => hsel j oj cs b hoj) hQ hy h1
   have hfree' : ∀ k ok, ops[k]? = some ok → k ≠ i → (listed.setIfInBounds j true).getD k true = false →
     (∀ e ∈ ok.after, Region.binds md e = true → e.on ≠ i) → oi.apart ops ok = true := fun k ok hk hki hun hno => by
    refine hfree k ok hk hki ?_ hno
    by_cases hjk : j = k
    ·subst hjk; exact hjun
    ·rw [getD_set_ne true hjk] at hun; exact hun
   have hno' : ∀ k ok, ops[k]? = some ok → (listed.setIfInBounds j true).getD k false = true → k ≠ i → ∀ e ∈ ok.after, Region.binds md e = true → e.on ≠ i := fun k ok hk hl hki e he hb => by
    by_cases hjk : j = k
    ·subst hjk; rw [hoj] at hk; injection hk with hk; subst hk; exact hnot e he hb
    ·rw [getD_set_ne false hjk] at hl; exact hno k ok hk hl hki e he hb
   have hrdy := ready_mono hr (Ne.symm hji)
   refine wpOp_mono (fun a' w' h3 => ?_) h2
   obtain ⟨h3y, h3l, h4⟩ := h3
   rw [Array.setIfInBounds_comm _ _ (Ne.symm hji)] at h4 h3l
   exact ⟨fun hne => h3l (by
    rw [← Array.setIfInBounds_comm _ _ (Ne.symm hji)]
    rw [Array.setIfInBounds_comm _ _ (Ne.symm hji)]
    exact needB_pure hiP hne), ih (listed.setIfInBounds j true) a' w' (by simpa using hlt) hno' hfree' hrdy h3y h4⟩

def only (Q : Act → World → Prop) : Exit → Act → World → Prop
 | .normal, a, w => Q a w
 | _, _, _ => False

def wpF (P : Program) (ops : Array Oper) (Le : World → World → Prop) (Q : Act → World → Prop) : List (Bool × Bool × Oper) → Act → World → Prop
 | [], a, w => Q a w
 | (true, true, o) :: rest, a, w => if Region.wanted o (yielded ops a.tmps) then ∃ v, (∀ w', Le w w' → at_ P o a w' v) ∧ wpF P ops Le Q rest (a.put o.dst v) w else wpF P ops Le Q rest (a.put o.dst undef) w
 | (true, false, o) :: rest, a, w => if Region.wanted o (yielded ops a.tmps) then ∃ v, (∀ w', at_ P o a w' v) ∧ wpF P ops Le Q rest (a.put o.dst v) w else wpF P ops Le Q rest (a.put o.dst undef) w
 | (false, need, o) :: rest, a, w => wpList P ops (only fun a' w' => (need = true → Le w w') ∧ wpF P ops Le Q rest a' w') [o] a w
section
variable {Le : World → World → Prop}
theorem wpF_nil {Q : Act → World → Prop} {a : Act} {w : World} (h : Q a w) : wpF P ops Le Q [] a w := h
theorem wpF_pure {Q : Act → World → Prop} {a : Act} {w : World} {o : Oper} {rest : List (Bool × Bool × Oper)}
  (h : ∀ K : Act → World → Prop, (∀ a w, wpF P ops Le Q rest a w → K a w) → if Region.wanted o (yielded ops a.tmps) then ∃ v, (∀ w', at_ P o a w' v) ∧ K (a.put o.dst v) w else K (a.put o.dst undef) w) : wpF P ops Le Q ((true, false, o) :: rest) a w :=
 h _ (fun _ _ h => h)
theorem wpF_free {Q : Act → World → Prop} {a : Act} {w : World} {o : Oper} {rest : List (Bool × Bool × Oper)}
  (h : ∀ K : Act → World → Prop, (∀ a w, wpF P ops Le Q rest a w → K a w) → if Region.wanted o (yielded ops a.tmps) then ∃ v, (∀ w', Le w w' → at_ P o a w' v) ∧ K (a.put o.dst v) w else K (a.put o.dst undef) w) : wpF P ops Le Q ((true, true, o) :: rest) a w :=
 h _ (fun _ _ h => h)
theorem wpF_must {Q : Act → World → Prop} {a : Act} {w : World} {o : Oper} {b : Bool} {rest : List (Bool × Bool × Oper)}
  (h : ∀ K : Act → World → Prop, (∀ a w', (b = true → Le w w') → wpF P ops Le Q rest a w' → K a w') → wpList P ops (only K) [o] a w) : wpF P ops Le Q ((false, b, o) :: rest) a w :=
 h _ (fun _ _ h1 h2 => ⟨h1, h2⟩)
end

def orderB (md : Region.Mode) (ops : Array Oper) (Vs Ps : List Nat) : List (Bool × Bool × Nat) → Array Bool → Bool
 | [], listed => (Region.ready md ops listed).isEmpty
 | (true, true, k) :: ks, listed => (Region.ready md ops listed).contains k && Vs.contains k && Region.free md ops listed k && orderB md ops Vs Ps ks (listed.setIfInBounds k true)
 | (true, false, k) :: ks, listed => (Region.ready md ops listed).contains k && Ps.contains k && Region.free md ops listed k && orderB md ops Vs Ps ks (listed.setIfInBounds k true)
 | (false, need, k) :: ks, listed => decide (Region.ready md ops listed = [k]) && (need || !needB md ops Vs Ps (listed.setIfInBounds k true)) && orderB md ops Vs Ps ks (listed.setIfInBounds k true)

theorem unlisted_shut {i : Nat} {listed : Array Bool} (hs : shut md ops listed) (hun : listed.getD i false = false) :
  ∀ k ok, ops[k]? = some ok → listed.getD k false = true → k ≠ i → ∀ e ∈ ok.after, Region.binds md e = true → e.on ≠ i := fun k ok hk hl hki e he hb heq => by
 have := hs k ok hk hl e he hb
 rw [heq, hun] at this
 cases this
theorem needB_shut {Vs : List Nat} {i : Nat} {listed : Array Bool} (hi : i ∈ Vs) (hs : shut md ops listed) (hun : listed.getD i false = false) :
  ∀ k ok, ops[k]? = some ok → listed.getD k false = true → k ≠ i → ∀ e ∈ ok.after, Region.binds md e = true → e.on ≠ i := fun k ok hk hl hki e he hb heq => by
 have := hs k ok hk hl e he hb
 rw [heq, hun] at this
 cases this
theorem shut_set {listed : Array Bool} {i : Nat} (hs : shut md ops listed) (hr : i ∈ Region.ready md ops listed) : shut md ops (listed.setIfInBounds i true) := fun k ok hk hl e he hb => by
 obtain ⟨_, o, ho, hall⟩ := mem_ready.1 hr
 by_cases hik : i = k
 ·subst hik
  rw [ho] at hk; injection hk with hk; subst hk
  exact getD_set_true (hall e he hb)
 ·rw [getD_set_ne false hik] at hl
  exact getD_set_true (hs k ok hk hl e he hb)
theorem anyC_order {Le : World → World → Prop} (hrefl : ∀ w, Le w w) (htrans : ∀ w w' w'', Le w w' → Le w' w'' → Le w w'') {Vs Ps : List Nat} {Qf : Act → World → Prop} (hsel : Region.noSelect ops = true) :
  ∀ (ks : List (Bool × Bool × Nat)) (listed : Array Bool) (a : Act) (w : World), listed.size = ops.size → shut md ops listed → orderB md ops Vs Ps ks listed = true →
   wpF P ops Le Qf (ks.map fun k => (k.1, k.2.1, ops.getD k.2.2 default)) a w → anyC P md ops Le Vs Ps (only Qf) ks.length listed a w
 | [], listed, a, w, _, _, hB, h => ⟨by simpa [orderB] using hB, h⟩
 | (true, true, k) :: ks, listed, a, w, hsz, hs, hB, h => by
  simp only [orderB, Bool.and_eq_true] at hB
  obtain ⟨⟨⟨hr, hV⟩, hf⟩, hB'⟩ := hB
  have hr' : k ∈ Region.ready md ops listed := by simpa using hr
  have hV' : k ∈ Vs := by simpa using hV
  obtain ⟨hun, o, ho, _⟩ := mem_ready.1 hr'
  have hlt : k < ops.size := (Array.getElem?_eq_some_iff.1 ho).1
  have hog : ops.getD k default = o := by simp [Array.getD_eq_getD_getElem?, ho]
  have hno := needB_shut hV' hs (getD_both hun)
  simp only [List.map_cons, hog, wpF] at h
  have hst : ∃ v, YieldsC P ops (Le w) o v a ∧ wpF P ops Le Qf (ks.map fun k => (k.1, k.2.1, ops.getD k.2.2 default)) (a.put o.dst v) w := by
   by_cases hw : Region.wanted o (yielded ops a.tmps) = true
   ·simp only [hw, if_true] at h
    obtain ⟨v, h1, h2⟩ := h
    exact ⟨v, .inl ⟨hw, h1⟩, h2⟩
   ·simp only [hw] at h
    exact ⟨undef, .inr ⟨by simpa using hw, rfl⟩, h⟩
  obtain ⟨v, hy, hK⟩ := hst
  exact anyC_first hrefl htrans ho hV' (Region.noSelect_spec hsel) (fun _ _ _ h => h) ks.length listed a w (by omega) hno (Region.free_spec ho hf) hr' hy
   (anyC_order hrefl htrans hsel ks _ _ w (by simpa using hsz) (shut_set hs hr') hB' hK)
 | (true, false, k) :: ks, listed, a, w, hsz, hs, hB, h => by
  simp only [orderB, Bool.and_eq_true] at hB
  obtain ⟨⟨⟨hr, hV⟩, hf⟩, hB'⟩ := hB
  have hr' : k ∈ Region.ready md ops listed := by simpa using hr
  obtain ⟨hun, o, ho, _⟩ := mem_ready.1 hr'
  have hlt : k < ops.size := (Array.getElem?_eq_some_iff.1 ho).1
  have hog : ops.getD k default = o := by simp [Array.getD_eq_getD_getElem?, ho]
  have hno := unlisted_shut hs (getD_both hun)
  simp only [List.map_cons, hog, wpF] at h
  have hst : ∃ v, YieldsC P ops (fun _ => True) o v a ∧ wpF P ops Le Qf (ks.map fun k => (k.1, k.2.1, ops.getD k.2.2 default)) (a.put o.dst v) w := by
   by_cases hw : Region.wanted o (yielded ops a.tmps) = true
   ·simp only [hw, if_true] at h
    obtain ⟨v, h1, h2⟩ := h
    exact ⟨v, .inl ⟨hw, fun w' _ => h1 w'⟩, h2⟩
   ·simp only [hw] at h
    exact ⟨undef, .inr ⟨by simpa using hw, rfl⟩, h⟩
  obtain ⟨v, hy, hK⟩ := hst
  exact anyC_first_pure hrefl ho hV (Region.noSelect_spec hsel) (fun _ _ _ h => h) ks.length listed a w (by omega) hno (Region.free_spec ho hf) hr' hy
   (anyC_order hrefl htrans hsel ks _ _ w (by simpa using hsz) (shut_set hs hr') hB' hK)
 | (false, b, k) :: ks, listed, a, w, hsz, hs, hB, h => by
  simp only [orderB, Bool.and_eq_true, decide_eq_true_eq] at hB
  obtain ⟨⟨hr, hn⟩, hB'⟩ := hB
  have hr' : k ∈ Region.ready md ops listed := by rw [hr]; simp
  obtain ⟨hun, o, ho, _⟩ := mem_ready.1 hr'
  have hog : ops.getD k default = o := by simp [Array.getD_eq_getD_getElem?, ho]
  refine ⟨fun h => (by rw [h] at hr; cases hr), fun j hj => ?_⟩
  rw [hr] at hj
  simp only [List.mem_singleton] at hj
  subst hj
  have hnext : ∀ a' w', ((b = true → Le w w') ∧ wpF P ops Le Qf (ks.map fun k => (k.1, k.2.1, ops.getD k.2.2 default)) a' w') →
    (needB md ops Vs Ps (listed.setIfInBounds j true) = true → Le w w') ∧ anyC P md ops Le Vs Ps (only Qf) ks.length (listed.setIfInBounds j true) a' w' := fun a' w' ⟨h1, h2⟩ => by
   refine ⟨fun hne => h1 ?_, anyC_order hrefl htrans hsel ks _ a' w' (by simpa using hsz) (shut_set hs hr') hB' h2⟩
   rw [hne] at hn
   simpa using hn
  simp only [List.map_cons, hog, wpF, wpList] at h
  unfold wpOp
  simp only [ho]
  split
  ·rename_i hw
   simp only [hw, if_true] at h
   rcases h with h | h
   ·refine .inl ?_
    unfold Oper.wp at *
    generalize (execOp a.eval o).run P w = r at *
    cases r with
    | ok n w' =>
     cases n <;> simp only [Oper.upon] at h ⊢ <;>
      first
       | exact hnext _ _ h
       | exact Calls.mono h (fun e w'' he => by cases e <;> first | exact hnext _ _ he | exact he.elim | exact he)
       | exact Rows.mono h (fun _ _ he => hnext _ _ he)
    | halt x w' => cases x <;> simp only [Oper.upon] at h ⊢ <;> first | exact h.elim | exact h
   ·obtain ⟨_, _, _, hf⟩ := h; exact hf.elim
  ·rename_i hw
   simp only [hw] at h
   exact hnext _ _ h

theorem wp_region_first {id : Nat} {Q : Exit → Act → World → Prop} {a : Act} {w : World} {l : List Oper} (Le : World → World → Prop) (hrefl : ∀ w, Le w w) (htrans : ∀ w w' w'', Le w w' → Le w' w'' → Le w w'') (Vs Ps : List Nat) (ks : List (Bool × Bool × Nat)) (hm : P.follows .mixedOrders = true)
  (hB : (Region.noSelect l.toArray && decide (ks.length = l.length) && orderB .any l.toArray Vs Ps ks (Array.replicate l.length false)) = true)
  (h : wpF P l.toArray Le (Q .normal) (ks.map fun k => (k.1, k.2.1, l.getD k.2.2 default)) a { w with drawn := w.drawn + 1 }) : (Code.region id l.toArray true).wp P Q a w := by
 simp only [Bool.and_eq_true, decide_eq_true_eq] at hB
 obtain ⟨⟨hsel, hlen⟩, hB⟩ := hB
 have hgd : ∀ k, l.toArray.getD k default = l.getD k default := fun k => by simp [Array.getD_eq_getD_getElem?, List.getD_eq_getElem?_getD]
 refine Code.wp_mono (Q := only (Q .normal)) (fun e a w q => by cases e <;> first | exact q | exact q.elim) ?_
 refine wp_region_any hm ?_
 have hl : l.toArray.size = l.length := by simp
 have := anyC_order (P := P) (md := .any) hrefl htrans (Vs := Vs) (Ps := Ps) (Qf := Q .normal) hsel ks (Array.replicate l.length false) a { w with drawn := w.drawn + 1 } (by simp)
  (fun k ok _ hl => (by rw [getD_replicate_false] at hl; cases hl)) hB (by simpa only [hgd] using h)
 rw [hlen] at this
 rw [hl]
 exact wpAny_of_anyC _ _ _ _ this
def Grown (w w' : World) : Prop := ∃ X : Ext, w' = w.ext X
theorem Grown.refl (w : World) : Grown w w := ⟨⟨#[], w.drawn⟩, by simp [World.ext]⟩
theorem Grown.ext (w : World) (X : Ext) : Grown w (w.ext X) := ⟨X, rfl⟩
theorem Grown.cat (w : World) (X Y : Ext) : Grown (w.ext X) (w.ext (X.cat Y)) := ⟨Y, (World.ext_ext w X Y).symm⟩
theorem grown_all {w : World} {p : World → Prop} : (∀ w', Grown w w' → p w') ↔ ∀ X : Ext, p (w.ext X) := ⟨fun h X => h _ ⟨X, rfl⟩, fun h w' ⟨X, e⟩ => e ▸ h X⟩
theorem wp_region_first_ext {id : Nat} {Q : Exit → Act → World → Prop} {a : Act} {w : World} {l : List Oper} (Vs Ps : List Nat) (ks : List (Bool × Bool × Nat)) (hm : P.follows .mixedOrders = true)
  (hB : (Region.noSelect l.toArray && decide (ks.length = l.length) && orderB .any l.toArray Vs Ps ks (Array.replicate l.length false)) = true)
  (h : ∀ X, wpF P l.toArray Grown (Q .normal) (ks.map fun k => (k.1, k.2.1, l.getD k.2.2 default)) a (w.ext X)) : (Code.region id l.toArray true).wp P Q a w := by
 have hw₁ : ({ w with drawn := w.drawn + 1 } : World) = w.ext ⟨#[], w.drawn + 1⟩ := by simp [World.ext]
 exact wp_region_first _ Grown.refl (fun w w' w'' ⟨X, hX⟩ ⟨Y, hY⟩ => ⟨X.cat Y, by rw [hY, hX, World.ext_ext]⟩) Vs Ps ks hm hB (hw₁ ▸ h _)
attribute [go_sem] only grown_all
end
end Go.First
abbrev Go.wfp := @Go.First.wpF_pure
abbrev Go.wff := @Go.First.wpF_free

namespace Go.Proofs.YtjhcgnmibnjocaaGreat
open Go.RowKit
theorem quiet_skip {P : Program} {ops : Array Oper} {C : World → Prop} {Q : Act → Prop} {a b : Act} {o : Oper} {rest : List Oper} (h : Region.wanted o (yielded ops a.tmps) = false) (hb : a.put o.dst undef = b) (hk : wpQuiet P ops C Q rest b) : wpQuiet P ops C Q (o :: rest) a :=
 wpQuiet_step fun K hK => by rw [h]; exact hb ▸ hK _ (hb ▸ hk)
theorem quiet_skipN {P : Program} {ops : Array Oper} {C : World → Prop} {Q : Act → Prop} {a : Act} {o : Oper} {rest : List Oper} (h : Region.wanted o (yielded ops a.tmps) = false) (hk : ∀ K : Act → Prop, (∀ a, wpQuiet P ops C Q rest a → K a) → K (a.put o.dst undef)) : wpQuiet P ops C Q (o :: rest) a :=
 quiet_skip h rfl (hk _ fun _ h => h)
end Go.Proofs.YtjhcgnmibnjocaaGreat

namespace Go.Proofs.YtjhcgnmibnjocaaGreat
open Go.RowKit
structure Only (w w' : World) (g : Nat) : Prop where
 os : w'.os = w.os
 tape : w'.tape = w.tape
 output : w'.output = w.output
 size : w.heap.size ≤ w'.heap.size
 block : ∀ k, k < w.heap.size → k ≠ g → w'.heap[k]? = w.heap[k]?
theorem Only.refl (w : World) (g : Nat) : Only w w g := ⟨rfl, rfl, rfl, Nat.le_refl _, fun _ _ _ => rfl⟩
theorem Only.trans {w w' w'' : World} {g : Nat} (h : Only w w' g) (k : Only w' w'' g) : Only w w'' g :=
 ⟨k.os.trans h.os, k.tape.trans h.tape, k.output.trans h.output, Nat.le_trans h.size k.size, fun i hi hg => (k.block i (Nat.lt_of_lt_of_le hi h.size) hg).trans (h.block i hi hg)⟩
theorem Only.of_below {w w' : World} {g : Nat} (h : Below w.heap.size w w') : Only w w' g := ⟨h.os, h.tape, h.output, h.size, fun k hk _ => h.block k hk⟩
theorem Only.below {w w' : World} {g B : Nat} (h : Only w w' g) (hB : B ≤ g) (hs : B ≤ w.heap.size) : Below B w w' := ⟨h.os, h.tape, h.output, h.size, fun k hk => h.block k (by omega) (by omega)⟩
theorem Only.setCell (w : World) (g i : Nat) (u : Value) : Only w (w.setCell ⟨g, i, none⟩ u) g := ⟨rfl, rfl, rfl, by simp, fun k hk hg => Below.heap_setCell w _ _ k hg⟩
theorem Only.alloc {w W : World} {g : Nat} (h : Only w W g) (o : Obj) : Only w (W.alloc o) g := h.trans (Only.of_below (Below.alloc (Below.refl _ _) (Nat.le_refl _) o))
theorem Only.ext {w W : World} {g : Nat} (h : Only w W g) (X : Ext) : Only w (W.ext X) g := h.trans (Only.of_below (World.below_ext W X))
theorem Only.set_ {w W : World} {g : Nat} (h : Only w W g) {p : Addr} (hp : p.block = g ∨ w.heap.size ≤ p.block) (u : Value) : Only w (W.setCell p u) g :=
 ⟨h.os, h.tape, h.output, by simpa using h.size, fun k hk hg => (Below.heap_setCell W p u k (by omega)).trans (h.block k hk hg)⟩
theorem Blk.made (w : World) (o : Obj) (t : TypeId) (cs : Array Value) : Blk ((w.alloc o).alloc (.cells cs t)) (w.heap.size + 1) t cs := by
 have := Blk.new (w.alloc o) t cs
 rwa [World.size_alloc] at this
theorem Blk.only {w w' : World} {g k : Nat} {t : TypeId} {cs : Array Value} (h : Blk w k t cs) (ho : Only w w' g) (hne : k ≠ g) : Blk w' k t cs := (ho.block k (Blk.lt h) hne).trans h
end Go.Proofs.YtjhcgnmibnjocaaGreat

namespace Go.Proofs.YtjhcgnmibnjocaaGreat
theorem own : ownKnob Tryz.checked.prog.godebug = none := rfl
set_option maxRecDepth 100000 in
theorem laidOut : laidOutB Tryz.prog = true := by kernel_rfl
end Go.Proofs.YtjhcgnmibnjocaaGreat

namespace Go.Proofs.YtjhcgnmibnjocaaGreat
open Go.RowKit
theorem wp_region_only (p : Nat) {P : Program} {id : Nat} {Q : Exit → Act → World → Prop} {a : Act} {w : World} {l : List Oper} (Vs Ps : List Nat) (ks : List (Bool × Bool × Nat)) (hm : P.follows .mixedOrders = true)
  (hB : (Region.noSelect l.toArray && decide (ks.length = l.length) && First.orderB .any l.toArray Vs Ps ks (Array.replicate l.length false)) = true)
  (h : ∀ X, First.wpF P l.toArray (fun w w' => Only w w' p) (Q .normal) (ks.map fun k => (k.1, k.2.1, l.getD k.2.2 default)) a (w.ext X)) : (Code.region id l.toArray true).wp P Q a w := by
 have hw₁ : ({ w with drawn := w.drawn + 1 } : World) = w.ext ⟨#[], w.drawn + 1⟩ := by simp [World.ext]
 exact First.wp_region_first _ (fun w => Only.refl w p) (fun w w' w'' h h' => h.trans h') Vs Ps ks hm hB (hw₁ ▸ h _)
theorem first_read {P : Program} {ops : Array Oper} {Le : World → World → Prop} {Q : Act → World → Prop} {a : Act} {w : World} {o : Oper} {rest : List (Bool × Bool × Oper)} {v : Value} (hg : o.guard = none) (hv : ∀ w', Le w w' → First.at_ P o a w' v)
  (hk : ∀ K : Act → World → Prop, (∀ a w, First.wpF P ops Le Q rest a w → K a w) → K (a.put o.dst v) w) : First.wpF P ops Le Q ((true, true, o) :: rest) a w :=
 First.wpF_free fun K hK => by
  rw [if_pos (by unfold Region.wanted; rw [hg])]
  exact ⟨v, hv, hk K hK⟩
end Go.Proofs.YtjhcgnmibnjocaaGreat

namespace Go.First
open Go.RowKit
variable {P : Program} {md : Region.Mode} {ops : Array Oper}
def after (ks : List (Bool × Bool × Nat)) (listed : Array Bool) : Array Bool := ks.foldl (fun l k => l.setIfInBounds k.2.2 true) listed
def orderP (md : Region.Mode) (ops : Array Oper) (Vs Ps : List Nat) : List (Bool × Bool × Nat) → Array Bool → Bool
 | [], listed => true
 | (true, true, k) :: ks, listed => (Region.ready md ops listed).contains k && Vs.contains k && Region.free md ops listed k && orderP md ops Vs Ps ks (listed.setIfInBounds k true)
 | (true, false, k) :: ks, listed => (Region.ready md ops listed).contains k && Ps.contains k && Region.free md ops listed k && orderP md ops Vs Ps ks (listed.setIfInBounds k true)
 | (false, need, k) :: ks, listed => decide (Region.ready md ops listed = [k]) && (need || !needB md ops Vs Ps (listed.setIfInBounds k true)) && orderP md ops Vs Ps ks (listed.setIfInBounds k true)
theorem must_op {Le : World → World → Prop} {Vs Ps : List Nat} {Qf R : Act → World → Prop} {j : Nat} {o : Oper} {b : Bool} {listed : Array Bool} {fuel : Nat} {a : Act} {w : World} (ho : ops[j]? = some o)
  (hn : (b || !needB md ops Vs Ps (listed.setIfInBounds j true)) = true) (hR : ∀ a' w', R a' w' → anyC P md ops Le Vs Ps (only Qf) fuel (listed.setIfInBounds j true) a' w') (h : wpF P ops Le R [(false, b, o)] a w) :
  wpOp P ops (only Qf) j (fun a' w' => (needB md ops Vs Ps (listed.setIfInBounds j true) = true → Le w w') ∧ anyC P md ops Le Vs Ps (only Qf) fuel (listed.setIfInBounds j true) a' w') a w := by
 have hnext : ∀ a' w', ((b = true → Le w w') ∧ R a' w') →
   (needB md ops Vs Ps (listed.setIfInBounds j true) = true → Le w w') ∧ anyC P md ops Le Vs Ps (only Qf) fuel (listed.setIfInBounds j true) a' w' := fun a' w' ⟨h1, h2⟩ => by
  refine ⟨fun hne => h1 ?_, hR _ _ h2⟩
  rw [hne] at hn
  simpa using hn
 simp only [wpF, wpList] at h
 unfold wpOp
 simp only [ho]
 split
 ·rename_i hw
  simp only [hw, if_true] at h
  rcases h with h | h
  ·refine .inl ?_
   unfold Oper.wp at *
   generalize (execOp a.eval o).run P w = r at *
   cases r with
   | ok n w' =>
    cases n <;> simp only [Oper.upon] at h ⊢ <;>
     first
      | exact hnext _ _ h
      | exact Calls.mono h (fun e w'' he => by cases e <;> first | exact hnext _ _ he | exact he.elim | exact he)
      | exact Rows.mono h (fun _ _ he => hnext _ _ he)
   | halt x w' => cases x <;> simp only [Oper.upon] at h ⊢ <;> first | exact h.elim | exact h
  ·obtain ⟨_, _, _, hf⟩ := h; exact hf.elim
 ·rename_i hw
  simp only [hw] at h
  exact hnext _ _ h
theorem anyC_part {Le : World → World → Prop} (hrefl : ∀ w, Le w w) (htrans : ∀ w w' w'', Le w w' → Le w' w'' → Le w w'') {Vs Ps : List Nat} {Qf : Act → World → Prop} (hsel : Region.noSelect ops = true) (fuel : Nat) {R : Act → World → Prop} :
  ∀ (ks : List (Bool × Bool × Nat)) (listed : Array Bool) (a : Act) (w : World), listed.size = ops.size → shut md ops listed → orderP md ops Vs Ps ks listed = true →
   ((after ks listed).size = ops.size → shut md ops (after ks listed) → ∀ a w, R a w → anyC P md ops Le Vs Ps (only Qf) fuel (after ks listed) a w) →
   wpF P ops Le R (ks.map fun k => (k.1, k.2.1, ops.getD k.2.2 default)) a w → anyC P md ops Le Vs Ps (only Qf) (fuel + ks.length) listed a w
 | [], listed, a, w, hsz, hs, hB, hR, h => hR hsz hs a w h
 | (true, true, k) :: ks, listed, a, w, hsz, hs, hB, hR, h => by
  simp only [orderP, Bool.and_eq_true] at hB
  obtain ⟨⟨⟨hr, hV⟩, hf⟩, hB'⟩ := hB
  have hr' : k ∈ Region.ready md ops listed := by simpa using hr
  have hV' : k ∈ Vs := by simpa using hV
  obtain ⟨hun, o, ho, _⟩ := mem_ready.1 hr'
  have hlt : k < ops.size := (Array.getElem?_eq_some_iff.1 ho).1
  have hog : ops.getD k default = o := by simp [Array.getD_eq_getD_getElem?, ho]
  have hno := needB_shut hV' hs (getD_both hun)
  simp only [List.map_cons, hog, wpF] at h
  have hst : ∃ v, YieldsC P ops (Le w) o v a ∧ wpF P ops Le R (ks.map fun k => (k.1, k.2.1, ops.getD k.2.2 default)) (a.put o.dst v) w := by
   by_cases hw : Region.wanted o (yielded ops a.tmps) = true
   ·simp only [hw, if_true] at h
    obtain ⟨v, h1, h2⟩ := h
    exact ⟨v, .inl ⟨hw, h1⟩, h2⟩
   ·simp only [hw] at h
    exact ⟨undef, .inr ⟨by simpa using hw, rfl⟩, h⟩
  obtain ⟨v, hy, hK⟩ := hst
  exact anyC_first hrefl htrans ho hV' (Region.noSelect_spec hsel) (fun _ _ _ h => h) (fuel + ks.length) listed a w (by omega) hno (Region.free_spec ho hf) hr' hy
   (anyC_part hrefl htrans hsel fuel ks _ _ w (by simpa using hsz) (shut_set hs hr') hB' hR hK)
 | (true, false, k) :: ks, listed, a, w, hsz, hs, hB, hR, h => by
  simp only [orderP, Bool.and_eq_true] at hB
  obtain ⟨⟨⟨hr, hV⟩, hf⟩, hB'⟩ := hB
  have hr' : k ∈ Region.ready md ops listed := by simpa using hr
  obtain ⟨hun, o, ho, _⟩ := mem_ready.1 hr'
  have hlt : k < ops.size := (Array.getElem?_eq_some_iff.1 ho).1
  have hog : ops.getD k default = o := by simp [Array.getD_eq_getD_getElem?, ho]
  have hno := unlisted_shut hs (getD_both hun)
  simp only [List.map_cons, hog, wpF] at h
  have hst : ∃ v, YieldsC P ops (fun _ => True) o v a ∧ wpF P ops Le R (ks.map fun k => (k.1, k.2.1, ops.getD k.2.2 default)) (a.put o.dst v) w := by
   by_cases hw : Region.wanted o (yielded ops a.tmps) = true
   ·simp only [hw, if_true] at h
    obtain ⟨v, h1, h2⟩ := h
    exact ⟨v, .inl ⟨hw, fun w' _ => h1 w'⟩, h2⟩
   ·simp only [hw] at h
    exact ⟨undef, .inr ⟨by simpa using hw, rfl⟩, h⟩
  obtain ⟨v, hy, hK⟩ := hst
  exact anyC_first_pure hrefl ho hV (Region.noSelect_spec hsel) (fun _ _ _ h => h) (fuel + ks.length) listed a w (by omega) hno (Region.free_spec ho hf) hr' hy
   (anyC_part hrefl htrans hsel fuel ks _ _ w (by simpa using hsz) (shut_set hs hr') hB' hR hK)
 | (false, b, k) :: ks, listed, a, w, hsz, hs, hB, hR, h => by
  simp only [orderP, Bool.and_eq_true, decide_eq_true_eq] at hB
  obtain ⟨⟨hr, hn⟩, hB'⟩ := hB
  have hr' : k ∈ Region.ready md ops listed := by rw [hr]; simp
  obtain ⟨hun, o, ho, _⟩ := mem_ready.1 hr'
  have hog : ops.getD k default = o := by simp [Array.getD_eq_getD_getElem?, ho]
  refine ⟨fun h => (by rw [h] at hr; cases hr), fun j hj => ?_⟩
  rw [hr] at hj
  simp only [List.mem_singleton] at hj
  subst hj
  rw [List.map_cons, hog] at h
  exact must_op ho hn (fun a' w' h' => anyC_part hrefl htrans hsel fuel ks _ a' w' (by simpa using hsz) (shut_set hs hr') hB' hR h') h
inductive Tr where
 | leaf (ks : List (Bool × Bool × Nat))
 | fork (ks : List (Bool × Bool × Nat)) (b : Bool) (k : Nat) (t : Tr) (b' : Bool) (k' : Nat) (t' : Tr)
def Tr.fuel : Tr → Nat
 | .leaf ks => ks.length
 | .fork ks _ _ t _ _ _ => t.fuel + 1 + ks.length
def Tr.okB (md : Region.Mode) (ops : Array Oper) (Vs Ps : List Nat) : Tr → Array Bool → Bool
 | .leaf ks, listed => orderB md ops Vs Ps ks listed
 | .fork ks b k t b' k' t', listed => orderP md ops Vs Ps ks listed && decide (Region.ready md ops (after ks listed) = [k, k']) && (b || !needB md ops Vs Ps ((after ks listed).setIfInBounds k true)) && (b' || !needB md ops Vs Ps ((after ks listed).setIfInBounds k' true))
   && decide (t'.fuel = t.fuel) && t.okB md ops Vs Ps ((after ks listed).setIfInBounds k true) && t'.okB md ops Vs Ps ((after ks listed).setIfInBounds k' true)
def Both (p q : Prop) : Prop := p ∧ q
theorem Both.mk {p q : Prop} (h : p) (h' : q) : Both p q := ⟨h, h'⟩
def wpT (P : Program) (ops : Array Oper) (Le : World → World → Prop) (Q : Act → World → Prop) (at' : Nat → Oper) : Tr → Act → World → Prop
 | .leaf ks, a, w => wpF P ops Le Q (ks.map fun k => (k.1, k.2.1, at' k.2.2)) a w
 | .fork ks b k t b' k' t', a, w => wpF P ops Le (fun a w => Both (wpF P ops Le (wpT P ops Le Q at' t) [(false, b, at' k)] a w) (wpF P ops Le (wpT P ops Le Q at' t') [(false, b', at' k')] a w)) (ks.map fun k => (k.1, k.2.1, at' k.2.2)) a w
theorem anyC_tree {Le : World → World → Prop} (hrefl : ∀ w, Le w w) (htrans : ∀ w w' w'', Le w w' → Le w' w'' → Le w w'') {Vs Ps : List Nat} {Qf : Act → World → Prop} (hsel : Region.noSelect ops = true) :
  ∀ (t : Tr) (listed : Array Bool) (a : Act) (w : World), listed.size = ops.size → shut md ops listed → t.okB md ops Vs Ps listed = true →
   wpT P ops Le Qf (fun k => ops.getD k default) t a w → anyC P md ops Le Vs Ps (only Qf) t.fuel listed a w
 | .leaf ks, listed, a, w, hsz, hs, hB, h => anyC_order hrefl htrans hsel ks listed a w hsz hs hB h
 | .fork ks b k t b' k' t', listed, a, w, hsz, hs, hB, h => by
  simp only [Tr.okB, Bool.and_eq_true, decide_eq_true_eq] at hB
  obtain ⟨⟨⟨⟨⟨⟨hP, hr⟩, hn⟩, hn'⟩, hf⟩, ht⟩, ht'⟩ := hB
  refine anyC_part hrefl htrans hsel (t.fuel + 1) ks listed a w hsz hs hP ?_ h
  intro hsz2 hs2 a1 w1 hb
  obtain ⟨h1, h2⟩ := hb
  have hk : k ∈ Region.ready md ops (after ks listed) := by rw [hr]; simp
  have hk' : k' ∈ Region.ready md ops (after ks listed) := by rw [hr]; simp
  refine ⟨fun h => (by rw [h] at hr; cases hr), fun j hj => ?_⟩
  rw [hr] at hj
  simp only [List.mem_cons, List.not_mem_nil, or_false] at hj
  rcases hj with rfl | rfl
  ·obtain ⟨hun, o, ho, _⟩ := mem_ready.1 hk
   simp only [show ops.getD j default = o by simp [Array.getD_eq_getD_getElem?, ho]] at h1
   exact must_op ho (by simpa using hn) (fun a' w' h' => anyC_tree hrefl htrans hsel t _ a' w' (by simpa using hsz2) (shut_set hs2 hk) ht h') h1
  ·obtain ⟨hun, o, ho, _⟩ := mem_ready.1 hk'
   simp only [show ops.getD j default = o by simp [Array.getD_eq_getD_getElem?, ho]] at h2
   rw [← hf]
   exact must_op ho (by simpa using hn') (fun a' w' h' => anyC_tree hrefl htrans hsel t' _ a' w' (by simpa using hsz2) (shut_set hs2 hk') ht' h') h2
theorem wp_region_tree {id : Nat} {Q : Exit → Act → World → Prop} {a : Act} {w : World} {l : List Oper} (Le : World → World → Prop) (hrefl : ∀ w, Le w w) (htrans : ∀ w w' w'', Le w w' → Le w' w'' → Le w w'') (Vs Ps : List Nat) (t : Tr) (hm : P.follows .mixedOrders = true)
  (hB : (Region.noSelect l.toArray && decide (t.fuel = l.length) && t.okB .any l.toArray Vs Ps (Array.replicate l.length false)) = true)
  (h : wpT P l.toArray Le (Q .normal) (fun k => l.getD k default) t a { w with drawn := w.drawn + 1 }) : (Code.region id l.toArray true).wp P Q a w := by
 simp only [Bool.and_eq_true, decide_eq_true_eq] at hB
 obtain ⟨⟨hsel, hlen⟩, hB⟩ := hB
 have hgd : (fun k => l.toArray.getD k default) = (fun k => l.getD k default) := funext fun k => by simp [Array.getD_eq_getD_getElem?, List.getD_eq_getElem?_getD]
 refine Code.wp_mono (Q := only (Q .normal)) (fun e a w q => by cases e <;> first | exact q | exact q.elim) ?_
 refine wp_region_any hm ?_
 have hl : l.toArray.size = l.length := by simp
 have := anyC_tree (P := P) (md := .any) hrefl htrans (Vs := Vs) (Ps := Ps) (Qf := Q .normal) hsel t (Array.replicate l.length false) a { w with drawn := w.drawn + 1 } (by simp)
  (fun k ok _ hl => (by rw [getD_replicate_false] at hl; cases hl)) hB (by rw [hgd]; exact h)
 rw [hlen] at this
 rw [hl]
 exact wpAny_of_anyC _ _ _ _ this
theorem wp_region_tree_ext {P : Program} {id : Nat} {Q : Exit → Act → World → Prop} {a : Act} {w : World} {l : List Oper} (Vs Ps : List Nat) (t : Tr) (hm : P.follows .mixedOrders = true)
  (hB : (Region.noSelect l.toArray && decide (t.fuel = l.length) && t.okB .any l.toArray Vs Ps (Array.replicate l.length false)) = true)
  (h : ∀ X, wpT P l.toArray Grown (Q .normal) (fun k => l.getD k default) t a (w.ext X)) : (Code.region id l.toArray true).wp P Q a w := by
 have hw₁ : ({ w with drawn := w.drawn + 1 } : World) = w.ext ⟨#[], w.drawn + 1⟩ := by simp [World.ext]
 refine wp_region_tree Grown Grown.refl (fun w w' w'' h h' => ?_) Vs Ps t hm hB (hw₁ ▸ h _)
 obtain ⟨X, rfl⟩ := h
 obtain ⟨Y, rfl⟩ := h'
 exact ⟨X.cat Y, World.ext_ext w X Y⟩
end Go.First

namespace Go.Proofs.YtjhcgnmibnjocaaGreat
open Go.RowKit
def ints (l : List Int) : List Value := l.map (Value.int .i64)
theorem ints_length (l : List Int) : (ints l).length = l.length := by simp [ints]
theorem ints_get {l : List Int} {j : Nat} {x : Int} (h : l[j]? = some x) : (ints l)[j]? = some (.int .i64 x) := by simp [ints, h]
theorem ints_append (l m : List Int) : ints (l ++ m) = ints l ++ ints m := by simp [ints]
theorem reads_len {w : World} {B : Nat} {A : Option Addr} {n : Nat} {l : List Int} (h : Reads w B 1 A n (ints l)) : l.length = n := by have := h.1; rw [ints_length] at this; omega
def hasB (l : List Int) (x : Int) : Bool := l.any (fun y => y == x)
theorem hasB_mem {l : List Int} {x : Int} : hasB l x = true ↔ x ∈ l := by simp [hasB]
theorem hasB_not {l : List Int} {x : Int} : hasB l x = false ↔ x ∉ l := by
 cases h : hasB l x with
 | true => simp [hasB_mem.1 h]
 | false => simp only [true_iff]; intro hm; rw [hasB_mem.2 hm] at h; cases h
theorem infoI64 : (Tryz.prog.info? 3).map (fun i => (i.zero, i.size, i.bytes)) = some (some (.int .i64 0), 1, 8) := by kernel_rfl
set_option maxHeartbeats 1000000 in
theorem index_any (A : Option Addr) (n c : Nat) (l : List Int) (x : Int) (w : World) (hr : Reads w w.heap.size 1 A n (ints l)) (hn : n ≤ 9223372036854775807) :
  Calls Tryz.prog 81 #[.slice A n c, .int .i64 x] w fun e w' => (∃ k : Int, e = .returned (.int .i64 k) ∧ decide (0 ≤ k) = hasB l x) ∧ w' = w := by
 have hl := reads_len hr
 go_enter Tryz.func81, Tryz.ntmps81
 go_wp2
 go_loopw [8] (fun s wr => ∃ j : Nat, j ≤ n ∧ s = .int .i64 (j : Int) ∧ (∀ (i : Nat) (y : Int), i < j → l[i]? = some y → y ≠ x) ∧ wr = w) (fun s _ => ((n : Int) - intOf s).toNat)
 case atStart => exact ⟨0, by omega, rfl, fun i y hi => by omega, rfl⟩
 case round =>
  obtain ⟨j, hj, rfl, hno, rfl⟩ := hrel
  by_cases hlt : j < n
  ·obtain ⟨b, o, rfl, hbb, hc⟩ := hr.plain (by omega) (by omega)
   have hg : l[j]? = some l[j] := List.getElem?_eq_getElem (by omega)
   have m1 := hc _ _ (ints_get hg)
   have hlj : (j : Int) < n := by omega
   by_cases hx : l[j] = x
   ·have hH : hasB l x = true := hasB_mem.2 (hx ▸ List.getElem_mem _)
    rw [hx] at m1
    have hH := hide hH
    clear hc hr hno hg
    go_wp2
    go_ret
    exact ⟨⟨_, rfl, by rw [hH.out]; simp⟩, rfl⟩
   ·have hb : (x == l[j]) = false := by simp; exact fun h => hx h.symm
    have HN := hide (fun (i : Nat) (y : Int) (hi : i < j + 1) (h : l[i]? = some y) => show y ≠ x from by
     rcases Nat.lt_or_ge i j with h' | h'
     ·exact hno i y h' h
     ·obtain rfl : i = j := by omega
      rw [hg] at h; cases h; exact hx)
    clear hno hg hc
    generalize l[j] = y at *
    have hb' : (x = y) = False := eq_false (fun h => hx h.symm)
    go_wp2
    go_roundw
    case rel => exact ⟨j + 1, by omega, by go_num, HN.out, by trivial⟩
    case measure => simp [intOf]; omega
  ·obtain rfl : j = n := by omega
   have hH : hasB l x = false := hasB_not.2 fun hm => by
    obtain ⟨i, hi, h⟩ := List.getElem_of_mem hm
    exact hno i _ (by omega) (List.getElem?_eq_getElem hi) h
   have hH := hide hH
   clear hno
   go_wp2
   go_ret
   exact ⟨⟨-1, rfl, by rw [hH.out]; simp⟩, rfl⟩
theorem has_any (A : Option Addr) (n c : Nat) (l : List Int) (x : Int) (w : World) (hr : Reads w w.heap.size 1 A n (ints l)) (hn : n ≤ 9223372036854775807) :
  Calls Tryz.prog 50 #[.slice A n c, .int .i64 x] w fun e w' => e = .returned (.bool (hasB l x)) ∧ w' = w := by
 go_enter Tryz.func50, Tryz.ntmps50
 go_wp2_with (go_at_call 81; (with_reducible refine (index_any _ _ _ _ _ _ hr hn).mono ?_); rintro e w1 ⟨⟨k, rfl, hk⟩, rfl⟩)
 go_ret
 exact ⟨rfl, rfl⟩
theorem clone_any (A : Option Addr) (n c : Nat) (l : List Int) (w : World) (hr : Reads w w.heap.size 1 A n (ints l)) (hn : n * 8 ≤ 140737488355328) :
  Calls Tryz.prog 65 #[.slice A n c] w fun e w' => (∃ v, e = .returned v ∧ w'.ownsRow w.heap.size 3 1 v n (ints l)) ∧ Below w.heap.size w w' := by
 have hl := reads_len hr
 obtain ⟨i0, hi, hz0, hz1, hz2⟩ := info_parts infoI64
 have q : ∀ (w : World) (a : Option Addr) (n c n' c' : Nat), (binOp .eql 28 (.slice a n c) (.slice none n' c')).run Tryz.prog w = .ok (.bool a.isNone) w := fun w a n c n' c' => Lib.run_eql_slice_nil w _ _ a n c n' c' Tryz.underlying28
 cases A with
 | none =>
  obtain rfl : n = 0 := by
   rcases Nat.eq_zero_or_pos n with h | h
   ·exact h
   ·obtain ⟨_, e, _⟩ := hr.2 h; cases e
  obtain rfl : l = [] := List.eq_nil_of_length_eq_zero hl
  go_enter Tryz.func65, Tryz.ntmps65
  go_wp2
  go_ret
  exact ⟨⟨_, rfl, World.ownsRow_nil _ _ _ _⟩, Below.refl _ _⟩
 | some ad =>
  have hc : ∀ j u, (ints l)[j]? = some u → (w.alloc (.cells #[] 3)).cell? (ad.add j) = some u := fun j u hu => by
   have hn0 : 0 < n := by
    have := (List.getElem?_eq_some_iff.1 hu).1
    rw [ints_length] at this
    omega
   obtain ⟨ad', e, hb, h⟩ := hr.2 hn0
   cases e
   rw [World.cell?_alloc_lt w _ _ (by rw [block_of_add]; exact hb)]
   exact h j u hu
  go_enter Tryz.func65, Tryz.ntmps65
  go_wp2_with (at_builtin; refine wpList_append_own _ rfl _ _ 28 rfl w.heap.size 3 i0 (.int .i64 0) 1 8 Tryz.underlying28 hi hz0 hz1 hz2 rfl (by decide) _ _ _ rfl (World.ownsRow_made w #[] 0 (Nat.le_refl _) (Nat.zero_le _) rfl) ad n c (ints l) rfl ?qc1 ?qc2 ?qc3 ?qc4 ?qc5 ?qc6 ?_)
  case qc1 => simp [ints_length, hl]
  case qc2 => exact hc
  case qc3 => intro u hu; simp only [ints, List.mem_map] at hu; obtain ⟨x, _, rfl⟩ := hu; rfl
  case qc4 => unfold maxLen; omega
  case qc5 => omega
  case qc6 => simp
  intro v' w1 hown hgrow hnil
  go_wp2
  go_ret
  exact ⟨⟨v', rfl, by simpa using hown⟩, ((Below.refl _ w).alloc (Nat.le_refl _) _).grown hgrow (by simp) (by intro k hk; simp [Value.ownBlock] at hk; omega)⟩
end Go.Proofs.YtjhcgnmibnjocaaGreat

namespace Go.Proofs.YtjhcgnmibnjocaaGreat
open Go.RowKit
def rowsV {α : Type} (f : α → List Value) (l : List α) : List Value := l.flatMap f
section
variable {α : Type} {f : α → List Value} {k : Nat}
theorem rowsV_length (hf : ∀ x, (f x).length = k) (l : List α) : (rowsV f l).length = l.length * k := by
 induction l with
 | nil => simp [rowsV]
 | cons p l ih =>
  simp only [rowsV, List.flatMap_cons, List.length_append, List.length_cons] at *
  rw [ih, hf, Nat.add_mul]
  omega
theorem rowsV_get (hf : ∀ x, (f x).length = k) : ∀ (l : List α) (i : Nat) (x : α), l[i]? = some x → ∀ j v, (f x)[j]? = some v → (rowsV f l)[i * k + j]? = some v
 | q :: l, 0, p, h, j, v, hv => by
  simp only [List.getElem?_cons_zero, Option.some.injEq] at h
  subst h
  have hk : j < (f q).length := (List.getElem?_eq_some_iff.1 hv).1
  have e : rowsV f (q :: l) = f q ++ rowsV f l := rfl
  rw [e, Nat.zero_mul, Nat.zero_add, List.getElem?_append_left hk, hv]
 | q :: l, i + 1, p, h, j, v, hv => by
  have := rowsV_get hf l i p (by simpa using h) j v hv
  have e : rowsV f (q :: l) = f q ++ rowsV f l := rfl
  have hl : (f q).length = k := hf q
  have h2 : (i + 1) * k + j - k = i * k + j := by rw [Nat.succ_mul]; omega
  rw [e, List.getElem?_append_right (by rw [hl, Nat.succ_mul]; omega), hl, h2]
  exact this
theorem rowsV_row (hf : ∀ x, (f x).length = k) (hk0 : 0 < k) (n : Nat) (g : Nat → α) (j : Nat) (u : Value) (h : (rowsV f ((List.range n).map g))[j]? = some u) : ∃ i m, i < n ∧ m < k ∧ j = i * k + m ∧ (f (g i))[m]? = some u := by
 have hj : j < n * k := by
  rcases Nat.lt_or_ge j (n * k) with h' | h'
  ·exact h'
  ·rw [List.getElem?_eq_none (by rw [rowsV_length hf]; simpa using h')] at h; cases h
 have hd : j / k < n := Nat.div_lt_of_lt_mul (by rw [Nat.mul_comm]; exact hj)
 have hg : ((List.range n).map g)[j / k]? = some (g (j / k)) := by rw [List.getElem?_map, List.getElem?_range hd]; rfl
 have hm : j % k < k := Nat.mod_lt _ hk0
 have hl : j % k < (f (g (j / k))).length := by rw [hf]; exact hm
 have hc := List.getElem?_eq_getElem hl
 have := rowsV_get hf _ _ _ hg _ _ hc
 have hjj : j / k * k + j % k = j := by rw [Nat.mul_comm]; exact Nat.div_add_mod j k
 rw [hjj, h] at this
 exact ⟨j / k, j % k, hd, hm, hjj.symm, hc.trans this.symm⟩
end
section
open Go.ChangeShapes Go.WideShapes Go.ChangeAt
variable {H : Type} {enc : TypeId × Value → H} {w : World} {base : Nat} {held : Bool}
theorem ints_trod {fuel : Nat} {cs : List Value} {x : DataW H × List MemPlace} (h : DataW.trod enc Tryz.prog w base (fun _ => true) held fuel 28 cs = some x) :
  ∃ A n c l, cs = [.slice A n c] ∧ n ≤ c ∧ c ≤ maxLen ∧ Reads w w.heap.size 1 A n (ints l) ∧ (∀ y ∈ l, -9223372036854775808 ≤ y ∧ y ≤ 9223372036854775807) ∧ (n = 0 ∨ ∃ es sp, x.1 = .slice es sp ∧ n ≤ es.length + sp.length) := by
 rcases Deep.open_slice Tryz.underlying28 h with ⟨hcs, hx⟩ | ⟨a, n, c, m, k, D, Pl, hcs, _, hle, hcap, hmm, hx, hcell⟩
 ·exact ⟨none, 0, 0, [], hcs, by omega, by unfold maxLen; omega, Reads.none_, (fun q hq => by cases hq), .inl rfl⟩
 ·simp only [if_true] at hmm
  have hint : ∀ i, i < n → ∃ y : Int, w.cell? (a.add i) = some (.int .i64 y) ∧ -9223372036854775808 ≤ y ∧ y ≤ 9223372036854775807 := fun i hi => by
   obtain ⟨cs', h1, h2⟩ := hcell i (by omega)
   rw [show Tryz.prog.cellsOf 3 = 1 by kernel_rfl, Nat.mul_one] at h1
   obtain ⟨_, hlen, hc⟩ := World.cells?_some h1
   obtain ⟨y, rfl, _, hw⟩ := DataW.trod_int Tryz.underlying3 h2
   simp [Lit.wf, IntKind.min, IntKind.max, IntKind.signed, IntKind.bits] at hw
   have := hc 0 (by omega)
   rw [add_of_add] at this
   exact ⟨y, by simpa using this, hw⟩
  obtain ⟨f, hf⟩ := Deep.choose_lt hint
  refine ⟨some a, n, c, (List.range n).map f, hcs, by omega, by omega, ⟨by rw [ints_length]; simp, fun hn => ⟨a, rfl, ?_, fun j u hu => ?_⟩⟩, fun q hq => ?_, .inr ?_⟩
  ·have := World.block_lt_of_cell? _ _ (hf 0 hn).1
   rwa [block_of_add] at this
  ·simp only [ints, List.map_map, List.getElem?_map] at hu
   by_cases hj : j < n
   ·rw [List.getElem?_range hj] at hu
    simp at hu
    rw [← hu]
    exact (hf j hj).1
   ·rw [List.getElem?_eq_none (by simpa using hj)] at hu
    cases hu
  ·obtain ⟨i, hi, rfl⟩ := List.mem_map.1 hq
   exact (hf i (by simpa using hi)).2
  ·subst hx
   exact ⟨_, _, rfl, by simp⟩
set_option maxRecDepth 100000 in
theorem ints_bytes : Tryz.prog.bytesOf 3 = 8 := by kernel_rfl
set_option maxRecDepth 100000 in
theorem ints_weight {d : DataW H} {n : Nat} (hw : ∀ z ∈ d.weights Tryz.prog 28, z ≤ reachBytes) (hn : n = 0 ∨ ∃ es sp, d = .slice es sp ∧ n ≤ es.length + sp.length) : n * 8 ≤ 140737488351232 := by
 rcases hn with rfl | ⟨es, sp, rfl, hle⟩
 ·omega
 ·have := hw ((es.length + sp.length) * 8) (by simp [DataW.weights, Tryz.underlying28, ints_bytes])
  have h2 : reachBytes = 140737488351232 := by decide
  omega
theorem weights_at {ts : List TypeId} {ds : List (DataW H)} (h : (DataW.weightsEach Tryz.prog ts ds).all (· ≤ reachBytes) = true) {j : Nat} {t : TypeId} {d : DataW H} (ht : ts[j]? = some t) (hd : ds[j]? = some d) : ∀ z ∈ d.weights Tryz.prog t, z ≤ reachBytes := fun z hz => by
 have := List.all_eq_true.1 h _ (DataW.weights_mem_each ht hd z hz)
 simpa using this
theorem weights_part {P : Program} {e : TypeId} : ∀ {l : List (DataW H)} {d : DataW H}, d ∈ l → ∀ z ∈ d.weights P e, z ∈ DataW.weightsAll P e l
 | x :: l, d, hd, z, hz => by
  rw [DataW.weightsAll, List.mem_append]
  rcases List.mem_cons.1 hd with rfl | h
  ·exact .inl hz
  ·exact .inr (weights_part h z hz)
end
end Go.Proofs.YtjhcgnmibnjocaaGreat

namespace Go
open Go.RowKit Go.ChangeShapes Go.WideShapes Go.ChangeAt Go.Proofs
def u8s (l : List Nat) : List Value := l.map fun (n : Nat) => Value.int .u8 (n : Int)
theorem u8s_append (l m : List Nat) : u8s (l ++ m) = u8s l ++ u8s m := by simp [u8s]
theorem u8s_length (l : List Nat) : (u8s l).length = l.length := by simp [u8s]
theorem u8s_get (l : List Nat) (i : Nat) : (u8s l)[i]? = l[i]?.map fun (n : Nat) => Value.int .u8 (n : Int) := by simp [u8s]
def strOf (l : List Nat) : ByteArray := strOfNums (l.map fun (n : Nat) => (n : Int))
theorem strOf_toList (l : List Nat) : (strOf l).toList = l.map UInt8.ofNat := by
 unfold strOf
 rw [Lib.strOfNums_toList]
 simp [Lib.bytesOf, Function.comp_def]
theorem strOf_size (l : List Nat) : (strOf l).size = l.length := by simp [strOf, strOfNums_size]
theorem strOf_inj {l m : List Nat} (hl : ∀ x ∈ l, x < 256) (hm : ∀ x ∈ m, x < 256) (h : (strOf l).toList = (strOf m).toList) : l = m := by
 rw [strOf_toList, strOf_toList] at h
 have : ∀ k : List Nat, (∀ x ∈ k, x < 256) → (k.map UInt8.ofNat).map UInt8.toNat = k := fun k hk => by
  rw [List.map_map]
  conv => rhs; rw [← List.map_id k]
  exact List.map_congr_left fun x hx => by simp [Nat.mod_eq_of_lt (hk x hx)]
 have h2 := congrArg (List.map UInt8.toNat) h
 rwa [this l hl, this m hm] at h2
theorem conv_bytes {P : Program} {w : World} {B n : Nat} {src dst e : TypeId} {A : Option Addr} {l : List Nat} (h : Reads w B 1 A n (u8s l)) (hs : P.underlying src = some (.slice e)) (he : P.underlying e = some (.int .u8)) (hd : P.underlying dst = some .string) (c : Nat) :
  (convert src dst (.slice A n c)).run P w = .ok (.string (strOf l)) w := by
 have hl : l.length = n := by have := h.1; rw [u8s_length] at this; omega
 by_cases hn : n = 0
 ·subst hn
  obtain rfl : l = [] := List.length_eq_zero_iff.1 hl
  have e0 : strOf [] = ByteArray.empty := rfl
  rw [e0]
  cases A with
  | none => exact run_convert_bytes_nil w src e hs he 0 c dst hd
  | some a =>
   rw [run_convert_bytes_string w src dst e (some a) 0 c hs he hd]
   simp [Conv.bytesToString, loadCells]
   rfl
 ·obtain ⟨b, o, rfl, _, hc⟩ := h.plain (by omega) (by omega)
  exact run_convert_bytes_arg w src e hs he b o n c (l.map fun (n : Nat) => (n : Int)) (by simp [hl]) (fun i hi => by
   have hi' : i < l.length := by omega
   rw [hc i _ (by rw [u8s_get, List.getElem?_eq_getElem hi']; rfl)]
   simp [List.getD, hi']) dst hd
def numsOf (s : ByteArray) : List Nat := s.data.toList.map UInt8.toNat
theorem numsOf_strOf {l : List Nat} (hl : ∀ x ∈ l, x < 256) : numsOf (strOf l) = l := by
 unfold numsOf strOf strOfNums
 simp only [List.map_map]
 conv => rhs; rw [← List.map_id l]
 exact List.map_congr_left fun x hx => by
  have := hl x hx
  show (UInt8.ofNat (Int.toNat (x : Int))).toNat = x
  rw [Int.toNat_natCast, UInt8.toNat_ofNat']
  omega
theorem numsOf_length (s : ByteArray) : (numsOf s).length = s.size := by
 show (s.data.toList.map UInt8.toNat).length = s.data.size
 rw [List.length_map, Array.length_toList]
theorem bytesWorld_below (w : World) (e : TypeId) (s : ByteArray) : Below w.heap.size w (Lib.bytesWorld w e s) :=
 ⟨rfl, rfl, rfl, by rw [Lib.bytesWorld_size]; omega, fun k hk => Lib.bytesWorld_at_old w e s k hk⟩
noncomputable def bytesExt (w : World) (e : TypeId) (s : ByteArray) : Ext := Classical.choose (World.ext_of_below (bytesWorld_below w e s))
theorem bytesExt_eq (w : World) (e : TypeId) (s : ByteArray) : Lib.bytesWorld w e s = w.ext (bytesExt w e s) := Classical.choose_spec (World.ext_of_below (bytesWorld_below w e s))
@[simp] theorem bytesExt_size (w : World) (e : TypeId) (s : ByteArray) : (bytesExt w e s).blocks.size = 1 := by
 have h := Lib.bytesWorld_size w e s
 rw [bytesExt_eq, World.size_ext] at h
 omega
end Go

namespace Go.Proofs.YtjhcgnmibnjocaaGreat
open Go.RowKit

theorem grown_alloc (w : World) (o : Obj) : First.Grown w (w.alloc o) := World.ext_of_below (Below.alloc (Below.refl _ _) (Nat.le_refl _) o)
def be : Nat → Nat → List Nat
 | 0, _ => []
 | k + 1, n => be k (n / 256) ++ [n % 256]
theorem be_length : ∀ k n, (be k n).length = k
 | 0, _ => rfl
 | k + 1, n => by simp [be, be_length k]
theorem be_get : ∀ k n j, j < k → (be k n)[j]? = some (n / 256 ^ (k - 1 - j) % 256)
 | 0, _, _, h => by omega
 | k + 1, n, j, h => by
  simp only [be]
  by_cases hj : j < k
  ·rw [List.getElem?_append_left (by rw [be_length]; exact hj), be_get k _ j hj, Nat.div_div_eq_div_mul, show k + 1 - 1 - j = (k - 1 - j) + 1 by omega, Nat.pow_succ']
  ·have : j = k := by omega
   subst this
   rw [List.getElem?_append_right (by rw [be_length]; exact Nat.le_refl _), be_length]
   simp
theorem be_take_succ (k n j : Nat) (h : j < k) : (be k n).take (j + 1) = (be k n).take j ++ [n / 256 ^ (k - 1 - j) % 256] := by
 rw [List.take_add_one, be_get k n j h]; rfl
theorem be_lt : ∀ k n, ∀ x ∈ be k n, x < 256
 | 0, _, x, h => by simp [be] at h
 | k + 1, n, x, h => by
  simp only [be, List.mem_append, List.mem_singleton] at h
  rcases h with h | rfl
  ·exact be_lt k _ x h
  ·omega
def longN (n : Nat) : Nat := if h : n = 0 then 0 else longN (n / 256) + 1
termination_by n
decreasing_by omega
theorem longN_zero : longN 0 = 0 := by rw [longN]; rfl
theorem longN_pos {n : Nat} (h : 0 < n) : longN n = longN (n / 256) + 1 := by rw [longN, dif_neg (by omega)]
theorem longN_le : ∀ (k n : Nat), n < 256 ^ k → longN n ≤ k
 | 0, n, h => by
  have : n = 0 := by simpa using h
  subst this
  rw [longN_zero]
  exact Nat.le_refl _
 | k + 1, n, h => by
  by_cases h0 : n = 0
  ·subst h0
   rw [longN_zero]
   omega
  ·rw [longN_pos (by omega)]
   have := longN_le k (n / 256) (by rw [Nat.pow_succ] at h; omega)
   omega
theorem lt_longN (n : Nat) : n < 256 ^ longN n := by
 induction n using Nat.strongRecOn with
 | ind n ih =>
  by_cases h0 : n = 0
  ·subst h0
   rw [longN_zero]
   exact Nat.one_pos
  ·rw [longN_pos (by omega), Nat.pow_succ]
   have := ih (n / 256) (by omega)
   omega
def numB (n : Nat) : List Nat := if n < 248 then [n] else (247 + longN n) :: be (longN n) n
theorem numB_length (n : Nat) : (numB n).length = if n < 248 then 1 else longN n + 1 := by
 unfold numB
 split
 ·rfl
 ·simp [be_length]
theorem numB_le (n : Nat) (h : n < 18446744073709551616) : (numB n).length ≤ 9 := by
 rw [numB_length]
 split
 ·omega
 ·have := longN_le 8 n (by omega)
  omega
theorem numB_lt (n : Nat) (h : n < 18446744073709551616) : ∀ x ∈ numB n, x < 256 := by
 intro x hx
 unfold numB at hx
 split at hx
 ·simp at hx
  omega
 ·have := longN_le 8 n (by omega)
  rcases List.mem_cons.1 hx with rfl | hx
  ·omega
  ·exact be_lt _ _ x hx
def zig (a : Int) : Nat := if 0 ≤ a then (2 * a).toNat else (-2 * a - 1).toNat
theorem zig_lt (a : Int) (h : -9223372036854775808 ≤ a ∧ a ≤ 9223372036854775807) : zig a < 18446744073709551616 := by
 unfold zig
 split <;> omega

def Row (w : World) (base : Nat) (v : Value) (xs : List Nat) : Prop := w.ownsRow base 5 1 v xs.length (u8s xs)
theorem Row.nil (w : World) (base : Nat) : Row w base (.slice none 0 0) [] := ⟨rfl, .inl ⟨rfl, rfl⟩⟩
theorem Row.keep {w w' : World} {base : Nat} {v : Value} {xs : List Nat} (h : Row w base v xs) (hk : ∀ k, k < w.heap.size → v.ownBlock = some k → w'.heap[k]? = w.heap[k]?) : Row w' base v xs := by
 refine ⟨h.1, ?_⟩
 rcases h.2 with h1 | ⟨g, cap, cur, rfl, h2, h3, h4⟩
 ·exact .inl h1
 ·exact .inr ⟨g, cap, cur, rfl, h2, (hk g (blk_lt h3) rfl).trans h3, h4⟩
theorem Row.below {w w' : World} {base : Nat} {v : Value} {xs : List Nat} (h : Row w base v xs) (hb : Below w.heap.size w w') : Row w' base v xs := h.keep fun k hk _ => hb.block k hk
theorem Row.ge {w : World} {base : Nat} {v : Value} {xs : List Nat} (h : Row w base v xs) {k : Nat} (hk : v.ownBlock = some k) : base ≤ k ∧ k < w.heap.size := by
 rcases h.2 with ⟨rfl, _⟩ | ⟨g, cap, cur, rfl, h2, h3, h4⟩
 ·cases hk
 ·cases hk
  exact ⟨h2, blk_lt h3⟩
theorem Row.base {w : World} {base base' : Nat} {v : Value} {xs : List Nat} (h : Row w base v xs) (hb : base' ≤ base) : Row w base' v xs := own_base h hb
theorem Row.slice {w : World} {base : Nat} {v : Value} {xs : List Nat} (h : Row w base v xs) : ∃ A cap, v = .slice A xs.length cap ∧ xs.length ≤ cap ∧ cap ≤ maxLen ∧ (A = none → cap = 0) ∧ Reads w w.heap.size 1 A xs.length (u8s xs) := by
 rcases h.2 with ⟨rfl, h0⟩ | ⟨g, cap, cur, rfl, h2, h3, h4, h5, _⟩
 ·refine ⟨none, 0, by rw [h0], by omega, by unfold maxLen; omega, fun _ => rfl, ?_⟩
  rw [h0]
  have : xs = [] := List.eq_nil_of_length_eq_zero h0
  subst this
  exact Reads.none_
 ·exact ⟨some ⟨g, 0, none⟩, cap, rfl, h4, h5, (fun e => by cases e), Reads.of_own h⟩

theorem Row.shape {w : World} {base : Nat} {v : Value} {xs : List Nat} (h : Row w base v xs) : ∃ A n c, v = .slice A n c := by
 obtain ⟨A, c, e, -⟩ := h.slice
 exact ⟨A, _, c, e⟩
structure Chg (w w' : World) (v v' : Value) : Prop where
 os : w'.os = w.os
 tape : w'.tape = w.tape
 output : w'.output = w.output
 size : w.heap.size ≤ w'.heap.size
 block : ∀ k, k < w.heap.size → v.ownBlock ≠ some k → w'.heap[k]? = w.heap[k]?
 lies : v'.ownBlock = v.ownBlock ∨ ∃ b, v'.ownBlock = some b ∧ w.heap.size ≤ b
theorem Chg.refl (w : World) (v : Value) : Chg w w v v := ⟨rfl, rfl, rfl, Nat.le_refl _, fun _ _ _ => rfl, .inl rfl⟩
theorem Chg.trans {w w' w'' : World} {v v' v'' : Value} (h : Chg w w' v v') (k : Chg w' w'' v' v'') : Chg w w'' v v'' := by
 refine ⟨k.os.trans h.os, k.tape.trans h.tape, k.output.trans h.output, Nat.le_trans h.size k.size, fun i hi hv => ?_, ?_⟩
 ·refine (k.block i (Nat.lt_of_lt_of_le hi h.size) ?_).trans (h.block i hi hv)
  rcases h.lies with e | ⟨b, e, hb⟩
  ·rw [e]; exact hv
  ·rw [e]
   intro e'
   cases e'
   omega
 ·rcases k.lies with e | ⟨b, e, hb⟩
  ·rw [e]; exact h.lies
  ·exact .inr ⟨b, e, Nat.le_trans h.size hb⟩
theorem Chg.of_below {w w' : World} {v : Value} (h : Below w.heap.size w w') : Chg w w' v v := ⟨h.os, h.tape, h.output, h.size, fun k hk _ => h.block k hk, .inl rfl⟩
theorem Chg.below {w w' : World} {base : Nat} {v v' : Value} {xs : List Nat} (h : Chg w w' v v') (hr : Row w base v xs) (hb : base ≤ w.heap.size) : Below base w w' :=
 ⟨h.os, h.tape, h.output, h.size, fun k hk => h.block k (by omega) fun e => by have := (hr.ge e).1; omega⟩

theorem Row.chg {w w' : World} {b : Nat} {u v v' : Value} {ys : List Nat} (hu : Row w b u ys) (hc : Chg w w' v v') (hne : ∀ k, u.ownBlock = some k → v.ownBlock ≠ some k) : Row w' b u ys :=
 hu.keep fun k hk e => hc.block k hk (hne k e)
def les (j n : Nat) : List Nat := (List.range j).map fun i => n / 256 ^ i % 256
theorem les_length (j n : Nat) : (les j n).length = j := by simp [les]
theorem les_succ (j n : Nat) : les (j + 1) n = les j n ++ [n / 256 ^ j % 256] := by simp [les, List.range_succ]
theorem les_get {j n i : Nat} (h : i < j) : (les j n)[i]? = some (n / 256 ^ i % 256) := by simp [les, h]
theorem Row.at_ {w : World} {base : Nat} {v : Value} {xs : List Nat} (h : Row w base v xs) (h0 : 0 < xs.length) : ∃ g cap, v = .slice (some ⟨g, 0, none⟩) xs.length cap ∧ g < w.heap.size ∧ base ≤ g ∧ xs.length ≤ cap ∧ cap ≤ maxLen ∧ ∀ (i x : Nat), xs[i]? = some x → w.cell? ⟨g, i, none⟩ = some (.int .u8 (x : Int)) := by
 rcases h.2 with ⟨rfl, e⟩ | ⟨g, cap, cur, rfl, h2, h3, h4, h5, h6, h7⟩
 ·omega
 ·refine ⟨g, cap, rfl, blk_lt h3, h2, h4, h5, fun i x hi => ?_⟩
  have := Row.slice h
  have hc : w.cell? ⟨g, i, none⟩ = cur[i]? := blk_cell h3 i
  rw [hc]
  have hi2 : (u8s xs)[i]? = some (.int .u8 (x : Int)) := by rw [u8s_get, hi]; rfl
  rw [← h7, List.getElem?_take] at hi2
  split at hi2
  ·simpa using hi2
  ·cases hi2
theorem Row.cell {w : World} {base L n c : Nat} {xs : List Nat} (h : Row w base (.slice (some ⟨L, 0, none⟩) n c) xs) {i x : Nat} (hi : xs[i]? = some x) : w.cell? ⟨L, i, none⟩ = some (.int .u8 (x : Int)) := by
 obtain ⟨g, cap, e, _, _, _, _, hc⟩ := h.at_ (by have := (List.getElem?_eq_some_iff.1 hi).1; omega)
 simp only [Value.slice.injEq, Option.some.injEq, Addr.mk.injEq] at e
 rw [e.1.1]
 exact hc i x hi
structure Wrt (w : World) (base g : Nat) (t : TypeId) (v : Value) (xs : List Nat) : Prop where
 blk : Blk w g t #[v]
 row : Row w base v xs
 ne : v.ownBlock ≠ some g
 ge : base ≤ g
structure Chw (w w' : World) (g : Nat) (v v' : Value) : Prop where
 os : w'.os = w.os
 tape : w'.tape = w.tape
 output : w'.output = w.output
 size : w.heap.size ≤ w'.heap.size
 block : ∀ k, k < w.heap.size → k ≠ g → v.ownBlock ≠ some k → w'.heap[k]? = w.heap[k]?
 lies : v'.ownBlock = v.ownBlock ∨ ∃ b, v'.ownBlock = some b ∧ w.heap.size ≤ b
theorem Chw.trans {w w' w'' : World} {g : Nat} {v v' v'' : Value} (h : Chw w w' g v v') (k : Chw w' w'' g v' v'') : Chw w w'' g v v'' := by
 refine ⟨k.os.trans h.os, k.tape.trans h.tape, k.output.trans h.output, Nat.le_trans h.size k.size, fun i hi hg hv => ?_, ?_⟩
 ·refine (k.block i (Nat.lt_of_lt_of_le hi h.size) hg ?_).trans (h.block i hi hg hv)
  rcases h.lies with e | ⟨b, e, hb⟩
  ·rw [e]; exact hv
  ·rw [e]
   intro e'
   cases e'
   omega
 ·rcases k.lies with e | ⟨b, e, hb⟩
  ·rw [e]; exact h.lies
  ·exact .inr ⟨b, e, Nat.le_trans h.size hb⟩
theorem Chw.of_below {w w' : World} {g : Nat} {v : Value} (h : Below w.heap.size w w') : Chw w w' g v v := ⟨h.os, h.tape, h.output, h.size, fun k hk _ _ => h.block k hk, .inl rfl⟩
theorem Chw.below {w w' : World} {base g : Nat} {t : TypeId} {v v' : Value} {xs : List Nat} (h : Chw w w' g v v') (hr : Wrt w base g t v xs) : Below base w w' :=
 ⟨h.os, h.tape, h.output, h.size, fun k hk => h.block k (by have := hr.ge; have := hr.blk.lt; omega) (by have := hr.ge; omega) fun e => by have := (hr.row.ge e).1; omega⟩
theorem Wrt.below {w w' : World} {base g : Nat} {t : TypeId} {v : Value} {xs : List Nat} (h : Wrt w base g t v xs) (hb : Below w.heap.size w w') : Wrt w' base g t v xs :=
 ⟨h.blk.below hb h.blk.lt, h.row.below hb, h.ne, h.ge⟩
theorem Blk.chw {w w' : World} {k g : Nat} {t : TypeId} {cs : Array Value} {v v' : Value} (h : Blk w k t cs) (hc : Chw w w' g v v') (h1 : k ≠ g) (h2 : v.ownBlock ≠ some k) : Blk w' k t cs := (hc.block k h.lt h1 h2).trans h
theorem Row.far {w : World} {base : Nat} {v : Value} {xs : List Nat} (h : Row w base v xs) {k : Nat} (hk : w.heap.size ≤ k) : v.ownBlock ≠ some k := fun e => by
 have := (h.ge e).2
 omega
theorem Wrt.chg {w w1 : World} {base g : Nat} {t : TypeId} {v v' : Value} {xs : List Nat} (h : Wrt w base g t v xs) (hc : Chg w w1 v v') : Blk w1 g t #[v] := (hc.block g h.blk.lt h.ne).trans h.blk
theorem Chg.ne {w w1 : World} {base g : Nat} {t : TypeId} {v v' : Value} {xs : List Nat} (h : Wrt w base g t v xs) (hc : Chg w w1 v v') : v'.ownBlock ≠ some g := by
 rcases hc.lies with e | ⟨b, e, hb⟩
 ·rw [e]; exact h.ne
 ·rw [e]
  intro e'
  cases e'
  have := h.blk.lt
  omega
theorem Wrt.set_ {w w1 : World} {base g : Nat} {t : TypeId} {v v' : Value} {xs ys : List Nat} (h : Wrt w base g t v xs) (hc : Chg w w1 v v') (hr : Row w1 base v' ys) :
  Wrt (w1.setCell ⟨g, 0, none⟩ v') base g t v' ys ∧ Chw w (w1.setCell ⟨g, 0, none⟩ v') g v v' := by
 refine ⟨⟨(h.chg hc).set_to rfl, ownsRow_setCell_other hr (hc.ne h) v', hc.ne h, h.ge⟩, ?_⟩
 refine ⟨hc.os, hc.tape, hc.output, ?_, fun k hk hg hv => ?_, hc.lies⟩
 ·simpa using hc.size
 ·exact (Below.heap_setCell w1 _ _ k hg).trans (hc.block k hk hv)

theorem app_byte {P : Program} {w : World} {ops : Array Oper} {rest : List Oper} {o : Oper} {a : Act} {Q : Exit → Act → World → Prop} (hgd : o.guard = none) (s x : Operand) (t : TypeId)
  (ho : o.op = .call { callee := .builtin .append, args := #[s, x], argTypes := #[t, t] }) (ht : P.underlying t = some (.slice 5)) (hinfo : (P.info? 5).map (fun i => (i.zero, i.size, i.bytes)) = some (some (.int .u8 0), 1, 1))
  (base : Nat) (v : Value) (xs : List Nat) (y : Nat) (b : Int) (hy : b = (y : Int)) (hs : a.eval s = v) (hown : Row w base v xs) (B : Nat) (hB : B = w.heap.size) (hx : a.eval x = .slice (some ⟨B, 0, none⟩) 1 1) (hlen : xs.length + 1 ≤ 140737488355328) (hbase : base ≤ w.heap.size)
  (h : ∀ v' w', Row w' base v' (xs ++ [y]) → Chg w w' v v' → wpList P ops Q rest (a.put o.dst v') w') :
  wpList P ops Q (o :: rest) a (w.alloc (.cells #[.int .u8 b] 5)) := by
 subst hy hB
 obtain ⟨i0, hi, hz0, hz1, hz2⟩ := info_parts hinfo
 refine wpList_append_own_at (w.alloc (.cells #[.int .u8 (y : Int)] 5)) hgd s x t ho base 5 i0 (.int .u8 0) 1 1 ht hi hz0 hz1 hz2 rfl (by decide) v xs.length (u8s xs) hs (Row.keep hown fun k hk _ => Below.heap_alloc w _ k hk) ⟨w.heap.size, 0, none⟩ 1 1 [.int .u8 (y : Int)] hx rfl (cell_one_new _ _ _) (fun u hu => by simp at hu; subst hu; rfl) (by unfold maxLen; omega) (by omega) (by simp; omega) fun v' w' h1 h2 h3 h4 => h v' w' ?_ ?_
 ·unfold Row
  rw [List.length_append, u8s_append]
  exact h1
 ·refine ⟨h2.os, h2.tape, h2.output, ?_, fun k hk hv => ?_, ?_⟩
  ·have := h2.size
   simp at this
   omega
  ·exact (h2.block k (by simp; omega) (Ne.symm hv)).trans (Below.heap_alloc w _ k hk)
  ·rcases h4 with e | e
   ·exact .inl e
   ·exact .inr ⟨_, e, by simp⟩
theorem app_row {P : Program} {w : World} {ops : Array Oper} {rest : List Oper} {o : Oper} {a : Act} {Q : Exit → Act → World → Prop} (hgd : o.guard = none) (s x : Operand) (t : TypeId)
  (ho : o.op = .call { callee := .builtin .append, args := #[s, x], argTypes := #[t, t] }) (ht : P.underlying t = some (.slice 5)) (hinfo : (P.info? 5).map (fun i => (i.zero, i.size, i.bytes)) = some (some (.int .u8 0), 1, 1))
  (base : Nat) (v : Value) (xs ys : List Nat) (A : Option Addr) (m c : Nat) (hs : a.eval s = v) (hown : Row w base v xs) (hx : a.eval x = .slice A m c) (hm : m = ys.length) (hr : Reads w w.heap.size 1 A m (u8s ys)) (hnil : A = none → c = 0) (hlen : xs.length + m ≤ 140737488355328) (hbase : base ≤ w.heap.size)
  (h : ∀ v' w', Row w' base v' (xs ++ ys) → Chg w w' v v' → wpList P ops Q rest (a.put o.dst v') w') :
  wpList P ops Q (o :: rest) a w := by
 subst hm
 obtain ⟨i0, hi, hz0, hz1, hz2⟩ := info_parts hinfo
 cases A with
 | none =>
  have h0 : ys.length = 0 := by
   rcases Nat.eq_zero_or_pos ys.length with e | e
   ·exact e
   ·obtain ⟨_, e', _⟩ := hr.2 e
    cases e'
  have hy : ys = [] := List.eq_nil_of_length_eq_zero h0
  subst hy
  obtain rfl := hnil rfl
  refine wpList_plain hgd fun K hK' => ?_
  have hrun := run_append_owned_none (P := P) w base t o.type 5 i0 1 ht hi v xs.length (u8s xs) hown
  unfold Oper.wp
  simp [execOp, ho, resolve, invoke, builtin, hs, hx, hrun, Result.andThen]
  exact hK' _ _ (h v w (by simpa using hown) (Chg.refl _ _))
 | some ad =>
  refine wpList_append_own_at w hgd s x t ho base 5 i0 (.int .u8 0) 1 1 ht hi hz0 hz1 hz2 rfl (by decide) v xs.length (u8s xs) hs hown ad ys.length c (u8s ys) hx (by rw [u8s_length, Nat.mul_one]) (fun j u hu => ?_) (fun u hu => ?_) (by unfold maxLen; omega) (by omega) hbase fun v' w' h1 h2 h3 h4 => h v' w' ?_ ?_
  ·obtain ⟨ad', e, _, hc⟩ := hr.2 (by have := (List.getElem?_eq_some_iff.1 hu).1; rw [u8s_length] at this; omega)
   cases e
   exact hc j u hu
  ·obtain ⟨y, _, rfl⟩ := List.mem_map.1 hu
   rfl
  ·unfold Row
   rw [List.length_append, u8s_append]
   exact h1
  ·refine ⟨h2.os, h2.tape, h2.output, h2.size, fun k hk hv => h2.block k hk (Ne.symm hv), ?_⟩
   rcases h4 with e | e
   ·exact .inl e
   ·exact .inr ⟨_, e, Nat.le_refl _⟩
end Go.Proofs.YtjhcgnmibnjocaaGreat

namespace Go.Proofs.YtjhcgnmibnjocaaGreat
open Go.RowKit
def num (l : List Nat) : Nat := l.foldl (fun n x => n * 256 + x) 0
theorem num_acc : ∀ (l : List Nat) (a : Nat), l.foldl (fun n x => n * 256 + x) a = a * 256 ^ l.length + num l
 | [], a => by simp [num]
 | x :: l, a => by
  unfold num
  simp only [List.foldl_cons, List.length_cons]
  rw [num_acc l (a * 256 + x), num_acc l (0 * 256 + x), Nat.pow_succ, Nat.add_mul, Nat.zero_mul, Nat.zero_add, Nat.mul_assoc, Nat.mul_comm 256, Nat.add_assoc]
theorem num_cons (x : Nat) (l : List Nat) : num (x :: l) = x * 256 ^ l.length + num l := by
 show l.foldl _ (0 * 256 + x) = _
 rw [num_acc, Nat.zero_mul, Nat.zero_add]
theorem num_snoc (l : List Nat) (x : Nat) : num (l ++ [x]) = num l * 256 + x := by simp [num]
theorem num_lt : ∀ l : List Nat, (∀ x ∈ l, x < 256) → num l < 256 ^ l.length
 | [], _ => by simp [num]
 | x :: l, h => by
  have h1 := num_lt l (fun y hy => h y (by simp [hy]))
  have h2 := h x (by simp)
  rw [num_cons, List.length_cons, Nat.pow_succ]
  have := Nat.mul_le_mul_right (256 ^ l.length) (show x + 1 ≤ 256 by omega)
  rw [Nat.add_mul, Nat.one_mul] at this
  rw [Nat.mul_comm _ 256]
  omega
theorem num_be : ∀ k n, num (be k n) = n % 256 ^ k
 | 0, n => by simp [be, num, Nat.mod_one]
 | k + 1, n => by
  simp only [be]
  rw [num_snoc, num_be k, Nat.pow_succ', Nat.mod_mul]
  omega

end Go.Proofs.YtjhcgnmibnjocaaGreat
