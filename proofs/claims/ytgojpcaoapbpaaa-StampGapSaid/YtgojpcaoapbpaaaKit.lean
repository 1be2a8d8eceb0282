import Derived.Below
import Derived.BigQuiet
import Derived.Deep.QuietTactic
import Derived.WalkKit
import Derived.ProofKit
import Derived.OpenShut
import Derived.ChangeSame
import Derived.Lib.SmallJoins
/-! Worlds that have grown: 'w.ext X' is w with more blocks and more draws. Regions that draw their order, whose calls make new memory alone. -/
namespace Go
open Go.RowKit
set_option linter.unusedVariables false
set_option linter.unusedSimpArgs false
structure Ext where
  blocks : Array Obj
  draws : Nat
  deriving Inhabited
def World.ext (w : World) (X : Ext) : World := { w with heap := w.heap ++ X.blocks, drawn := X.draws }

theorem World.ext_of_below {w w' : World} (h : Below w.heap.size w w') : ∃ X, w' = w.ext X := by
  refine ⟨⟨w'.heap.extract w.heap.size w'.heap.size, w'.drawn⟩, ?_⟩
  obtain ⟨h1, h2, h3, h4, h5⟩ := h
  cases w'
  simp only [World.ext] at *
  subst h1 h2 h3
  congr 1
  apply Array.ext_getElem?
  intro i
  by_cases hi : i < w.heap.size
  · rw [Array.getElem?_append_left hi]; exact h5 i hi
  · rw [Array.getElem?_append_right (by omega), Array.getElem?_extract]
    by_cases hj : i < Array.size ‹Array Obj›
    · rw [if_pos (by omega)]; congr 1; omega
    · rw [if_neg (by omega), Array.getElem?_eq_none (by omega)]

theorem World.below_ext (w : World) (X : Ext) : Below w.heap.size w (w.ext X) :=
  ⟨rfl, rfl, rfl, by simp [World.ext], fun k hk => by simp only [World.ext]; rw [Array.getElem?_append_left hk]⟩

theorem World.heap_ext {w : World} {X : Ext} {k : Nat} (hk : k < w.heap.size) : (w.ext X).heap[k]? = w.heap[k]? := by
  simp only [World.ext]; rw [Array.getElem?_append_left hk]
@[go_sem] theorem World.cell?_ext {w : World} {X : Ext} {a : Addr} (h : a.block < w.heap.size) : (w.ext X).cell? a = w.cell? a := (World.below_ext w X).cell h
@[go_sem] theorem World.frozen?_ext {w : World} {X : Ext} {a : Addr} (h : a.block < w.heap.size) : (w.ext X).frozen? a = w.frozen? a := (World.below_ext w X).frozen h
@[go_sem] theorem World.size_ext (w : World) (X : Ext) : (w.ext X).heap.size = w.heap.size + X.blocks.size := by simp [World.ext]

/-! Facts on block numbers that the walk's simp cannot see by itself (its discharger goes two steps deep). -/
section
variable (n a b c d e f g h : Nat)
@[go_sem] theorem Ext.lt_1_1 : (n < n + 1 + a) = True := eq_true (by omega)
@[go_sem] theorem Ext.lt_1_2 : (n < n + 1 + a + b) = True := eq_true (by omega)
@[go_sem] theorem Ext.lt_1_3 : (n < n + 1 + a + b + c) = True := eq_true (by omega)
@[go_sem] theorem Ext.lt_1_4 : (n < n + 1 + a + b + c + d) = True := eq_true (by omega)
@[go_sem] theorem Ext.lt_1_5 : (n < n + 1 + a + b + c + d + e) = True := eq_true (by omega)
@[go_sem] theorem Ext.lt_1_6 : (n < n + 1 + a + b + c + d + e + f) = True := eq_true (by omega)
@[go_sem] theorem Ext.lt_1_7 : (n < n + 1 + a + b + c + d + e + f + g) = True := eq_true (by omega)
@[go_sem] theorem Ext.lt_1_8 : (n < n + 1 + a + b + c + d + e + f + g + h) = True := eq_true (by omega)
@[go_sem] theorem Ext.lt_2_1 : (n < n + 2 + a) = True := eq_true (by omega)
@[go_sem] theorem Ext.lt_1_2_1 : (n + 1 < n + 2 + a) = True := eq_true (by omega)
@[go_sem] theorem Ext.lt_2_2 : (n < n + 2 + a + b) = True := eq_true (by omega)
@[go_sem] theorem Ext.lt_1_2_2 : (n + 1 < n + 2 + a + b) = True := eq_true (by omega)
@[go_sem] theorem Ext.lt_2_3 : (n < n + 2 + a + b + c) = True := eq_true (by omega)
@[go_sem] theorem Ext.lt_1_2_3 : (n + 1 < n + 2 + a + b + c) = True := eq_true (by omega)
@[go_sem] theorem Ext.lt_2_4 : (n < n + 2 + a + b + c + d) = True := eq_true (by omega)
@[go_sem] theorem Ext.lt_1_2_4 : (n + 1 < n + 2 + a + b + c + d) = True := eq_true (by omega)
@[go_sem] theorem Ext.lt_2_5 : (n < n + 2 + a + b + c + d + e) = True := eq_true (by omega)
@[go_sem] theorem Ext.lt_1_2_5 : (n + 1 < n + 2 + a + b + c + d + e) = True := eq_true (by omega)
@[go_sem] theorem Ext.lt_2_6 : (n < n + 2 + a + b + c + d + e + f) = True := eq_true (by omega)
@[go_sem] theorem Ext.lt_2_7 : (n < n + 2 + a + b + c + d + e + f + g) = True := eq_true (by omega)
@[go_sem] theorem Ext.lt_2_8 : (n < n + 2 + a + b + c + d + e + f + g + h) = True := eq_true (by omega)
@[go_sem] theorem Ext.lt_3_1 : (n < n + 3 + a) = True := eq_true (by omega)
@[go_sem] theorem Ext.lt_1_3_1 : (n + 1 < n + 3 + a) = True := eq_true (by omega)
@[go_sem] theorem Ext.lt_2_3_1 : (n + 2 < n + 3 + a) = True := eq_true (by omega)
@[go_sem] theorem Ext.lt_3_2 : (n < n + 3 + a + b) = True := eq_true (by omega)
@[go_sem] theorem Ext.lt_1_3_2 : (n + 1 < n + 3 + a + b) = True := eq_true (by omega)
@[go_sem] theorem Ext.lt_2_3_2 : (n + 2 < n + 3 + a + b) = True := eq_true (by omega)
@[go_sem] theorem Ext.lt_3_3 : (n < n + 3 + a + b + c) = True := eq_true (by omega)
@[go_sem] theorem Ext.lt_1_3_3 : (n + 1 < n + 3 + a + b + c) = True := eq_true (by omega)
@[go_sem] theorem Ext.lt_2_3_3 : (n + 2 < n + 3 + a + b + c) = True := eq_true (by omega)
@[go_sem] theorem Ext.lt_3_4 : (n < n + 3 + a + b + c + d) = True := eq_true (by omega)
@[go_sem] theorem Ext.lt_1_3_4 : (n + 1 < n + 3 + a + b + c + d) = True := eq_true (by omega)
@[go_sem] theorem Ext.lt_2_3_4 : (n + 2 < n + 3 + a + b + c + d) = True := eq_true (by omega)
@[go_sem] theorem Ext.lt_3_5 : (n < n + 3 + a + b + c + d + e) = True := eq_true (by omega)
@[go_sem] theorem Ext.lt_1_3_5 : (n + 1 < n + 3 + a + b + c + d + e) = True := eq_true (by omega)
@[go_sem] theorem Ext.lt_2_3_5 : (n + 2 < n + 3 + a + b + c + d + e) = True := eq_true (by omega)
@[go_sem] theorem Ext.lt_3_6 : (n < n + 3 + a + b + c + d + e + f) = True := eq_true (by omega)
@[go_sem] theorem Ext.lt_3_7 : (n < n + 3 + a + b + c + d + e + f + g) = True := eq_true (by omega)
@[go_sem] theorem Ext.lt_3_8 : (n < n + 3 + a + b + c + d + e + f + g + h) = True := eq_true (by omega)
@[go_sem] theorem Ext.lt_4_1 : (n < n + 4 + a) = True := eq_true (by omega)
@[go_sem] theorem Ext.lt_1_4_1 : (n + 1 < n + 4 + a) = True := eq_true (by omega)
@[go_sem] theorem Ext.lt_2_4_1 : (n + 2 < n + 4 + a) = True := eq_true (by omega)
@[go_sem] theorem Ext.lt_3_4_1 : (n + 3 < n + 4 + a) = True := eq_true (by omega)
@[go_sem] theorem Ext.lt_4_2 : (n < n + 4 + a + b) = True := eq_true (by omega)
@[go_sem] theorem Ext.lt_1_4_2 : (n + 1 < n + 4 + a + b) = True := eq_true (by omega)
@[go_sem] theorem Ext.lt_2_4_2 : (n + 2 < n + 4 + a + b) = True := eq_true (by omega)
@[go_sem] theorem Ext.lt_3_4_2 : (n + 3 < n + 4 + a + b) = True := eq_true (by omega)
@[go_sem] theorem Ext.lt_4_3 : (n < n + 4 + a + b + c) = True := eq_true (by omega)
@[go_sem] theorem Ext.lt_1_4_3 : (n + 1 < n + 4 + a + b + c) = True := eq_true (by omega)
@[go_sem] theorem Ext.lt_2_4_3 : (n + 2 < n + 4 + a + b + c) = True := eq_true (by omega)
@[go_sem] theorem Ext.lt_3_4_3 : (n + 3 < n + 4 + a + b + c) = True := eq_true (by omega)
@[go_sem] theorem Ext.lt_4_4 : (n < n + 4 + a + b + c + d) = True := eq_true (by omega)
@[go_sem] theorem Ext.lt_1_4_4 : (n + 1 < n + 4 + a + b + c + d) = True := eq_true (by omega)
@[go_sem] theorem Ext.lt_2_4_4 : (n + 2 < n + 4 + a + b + c + d) = True := eq_true (by omega)
@[go_sem] theorem Ext.lt_3_4_4 : (n + 3 < n + 4 + a + b + c + d) = True := eq_true (by omega)
@[go_sem] theorem Ext.lt_4_5 : (n < n + 4 + a + b + c + d + e) = True := eq_true (by omega)
@[go_sem] theorem Ext.lt_1_4_5 : (n + 1 < n + 4 + a + b + c + d + e) = True := eq_true (by omega)
@[go_sem] theorem Ext.lt_2_4_5 : (n + 2 < n + 4 + a + b + c + d + e) = True := eq_true (by omega)
@[go_sem] theorem Ext.lt_3_4_5 : (n + 3 < n + 4 + a + b + c + d + e) = True := eq_true (by omega)
@[go_sem] theorem Ext.lt_4_6 : (n < n + 4 + a + b + c + d + e + f) = True := eq_true (by omega)
@[go_sem] theorem Ext.lt_4_7 : (n < n + 4 + a + b + c + d + e + f + g) = True := eq_true (by omega)
@[go_sem] theorem Ext.lt_4_8 : (n < n + 4 + a + b + c + d + e + f + g + h) = True := eq_true (by omega)
@[go_sem] theorem Ext.lt_5_1 : (n < n + 5 + a) = True := eq_true (by omega)
@[go_sem] theorem Ext.lt_1_5_1 : (n + 1 < n + 5 + a) = True := eq_true (by omega)
@[go_sem] theorem Ext.lt_2_5_1 : (n + 2 < n + 5 + a) = True := eq_true (by omega)
@[go_sem] theorem Ext.lt_3_5_1 : (n + 3 < n + 5 + a) = True := eq_true (by omega)
@[go_sem] theorem Ext.lt_4_5_1 : (n + 4 < n + 5 + a) = True := eq_true (by omega)
@[go_sem] theorem Ext.lt_5_2 : (n < n + 5 + a + b) = True := eq_true (by omega)
@[go_sem] theorem Ext.lt_1_5_2 : (n + 1 < n + 5 + a + b) = True := eq_true (by omega)
@[go_sem] theorem Ext.lt_2_5_2 : (n + 2 < n + 5 + a + b) = True := eq_true (by omega)
@[go_sem] theorem Ext.lt_3_5_2 : (n + 3 < n + 5 + a + b) = True := eq_true (by omega)
@[go_sem] theorem Ext.lt_4_5_2 : (n + 4 < n + 5 + a + b) = True := eq_true (by omega)
@[go_sem] theorem Ext.lt_5_3 : (n < n + 5 + a + b + c) = True := eq_true (by omega)
@[go_sem] theorem Ext.lt_1_5_3 : (n + 1 < n + 5 + a + b + c) = True := eq_true (by omega)
@[go_sem] theorem Ext.lt_2_5_3 : (n + 2 < n + 5 + a + b + c) = True := eq_true (by omega)
@[go_sem] theorem Ext.lt_3_5_3 : (n + 3 < n + 5 + a + b + c) = True := eq_true (by omega)
@[go_sem] theorem Ext.lt_4_5_3 : (n + 4 < n + 5 + a + b + c) = True := eq_true (by omega)
@[go_sem] theorem Ext.lt_5_4 : (n < n + 5 + a + b + c + d) = True := eq_true (by omega)
@[go_sem] theorem Ext.lt_1_5_4 : (n + 1 < n + 5 + a + b + c + d) = True := eq_true (by omega)
@[go_sem] theorem Ext.lt_2_5_4 : (n + 2 < n + 5 + a + b + c + d) = True := eq_true (by omega)
@[go_sem] theorem Ext.lt_3_5_4 : (n + 3 < n + 5 + a + b + c + d) = True := eq_true (by omega)
@[go_sem] theorem Ext.lt_4_5_4 : (n + 4 < n + 5 + a + b + c + d) = True := eq_true (by omega)
@[go_sem] theorem Ext.lt_5_5 : (n < n + 5 + a + b + c + d + e) = True := eq_true (by omega)
@[go_sem] theorem Ext.lt_1_5_5 : (n + 1 < n + 5 + a + b + c + d + e) = True := eq_true (by omega)
@[go_sem] theorem Ext.lt_2_5_5 : (n + 2 < n + 5 + a + b + c + d + e) = True := eq_true (by omega)
@[go_sem] theorem Ext.lt_3_5_5 : (n + 3 < n + 5 + a + b + c + d + e) = True := eq_true (by omega)
@[go_sem] theorem Ext.lt_4_5_5 : (n + 4 < n + 5 + a + b + c + d + e) = True := eq_true (by omega)
@[go_sem] theorem Ext.lt_5_6 : (n < n + 5 + a + b + c + d + e + f) = True := eq_true (by omega)
@[go_sem] theorem Ext.lt_5_7 : (n < n + 5 + a + b + c + d + e + f + g) = True := eq_true (by omega)
@[go_sem] theorem Ext.lt_5_8 : (n < n + 5 + a + b + c + d + e + f + g + h) = True := eq_true (by omega)
@[go_sem] theorem Ext.lt_6_1 : (n < n + 6 + a) = True := eq_true (by omega)
@[go_sem] theorem Ext.lt_1_6_1 : (n + 1 < n + 6 + a) = True := eq_true (by omega)
@[go_sem] theorem Ext.lt_2_6_1 : (n + 2 < n + 6 + a) = True := eq_true (by omega)
@[go_sem] theorem Ext.lt_3_6_1 : (n + 3 < n + 6 + a) = True := eq_true (by omega)
@[go_sem] theorem Ext.lt_4_6_1 : (n + 4 < n + 6 + a) = True := eq_true (by omega)
@[go_sem] theorem Ext.lt_5_6_1 : (n + 5 < n + 6 + a) = True := eq_true (by omega)
@[go_sem] theorem Ext.lt_6_2 : (n < n + 6 + a + b) = True := eq_true (by omega)
@[go_sem] theorem Ext.lt_1_6_2 : (n + 1 < n + 6 + a + b) = True := eq_true (by omega)
@[go_sem] theorem Ext.lt_2_6_2 : (n + 2 < n + 6 + a + b) = True := eq_true (by omega)
@[go_sem] theorem Ext.lt_3_6_2 : (n + 3 < n + 6 + a + b) = True := eq_true (by omega)
@[go_sem] theorem Ext.lt_4_6_2 : (n + 4 < n + 6 + a + b) = True := eq_true (by omega)
@[go_sem] theorem Ext.lt_5_6_2 : (n + 5 < n + 6 + a + b) = True := eq_true (by omega)
@[go_sem] theorem Ext.lt_6_3 : (n < n + 6 + a + b + c) = True := eq_true (by omega)
@[go_sem] theorem Ext.lt_1_6_3 : (n + 1 < n + 6 + a + b + c) = True := eq_true (by omega)
@[go_sem] theorem Ext.lt_2_6_3 : (n + 2 < n + 6 + a + b + c) = True := eq_true (by omega)
@[go_sem] theorem Ext.lt_3_6_3 : (n + 3 < n + 6 + a + b + c) = True := eq_true (by omega)
@[go_sem] theorem Ext.lt_4_6_3 : (n + 4 < n + 6 + a + b + c) = True := eq_true (by omega)
@[go_sem] theorem Ext.lt_5_6_3 : (n + 5 < n + 6 + a + b + c) = True := eq_true (by omega)
@[go_sem] theorem Ext.lt_6_4 : (n < n + 6 + a + b + c + d) = True := eq_true (by omega)
@[go_sem] theorem Ext.lt_1_6_4 : (n + 1 < n + 6 + a + b + c + d) = True := eq_true (by omega)
@[go_sem] theorem Ext.lt_2_6_4 : (n + 2 < n + 6 + a + b + c + d) = True := eq_true (by omega)
@[go_sem] theorem Ext.lt_3_6_4 : (n + 3 < n + 6 + a + b + c + d) = True := eq_true (by omega)
@[go_sem] theorem Ext.lt_4_6_4 : (n + 4 < n + 6 + a + b + c + d) = True := eq_true (by omega)
@[go_sem] theorem Ext.lt_5_6_4 : (n + 5 < n + 6 + a + b + c + d) = True := eq_true (by omega)
@[go_sem] theorem Ext.lt_6_5 : (n < n + 6 + a + b + c + d + e) = True := eq_true (by omega)
@[go_sem] theorem Ext.lt_1_6_5 : (n + 1 < n + 6 + a + b + c + d + e) = True := eq_true (by omega)
@[go_sem] theorem Ext.lt_2_6_5 : (n + 2 < n + 6 + a + b + c + d + e) = True := eq_true (by omega)
@[go_sem] theorem Ext.lt_3_6_5 : (n + 3 < n + 6 + a + b + c + d + e) = True := eq_true (by omega)
@[go_sem] theorem Ext.lt_4_6_5 : (n + 4 < n + 6 + a + b + c + d + e) = True := eq_true (by omega)
@[go_sem] theorem Ext.lt_5_6_5 : (n + 5 < n + 6 + a + b + c + d + e) = True := eq_true (by omega)
@[go_sem] theorem Ext.lt_6_6 : (n < n + 6 + a + b + c + d + e + f) = True := eq_true (by omega)
@[go_sem] theorem Ext.lt_6_7 : (n < n + 6 + a + b + c + d + e + f + g) = True := eq_true (by omega)
@[go_sem] theorem Ext.lt_6_8 : (n < n + 6 + a + b + c + d + e + f + g + h) = True := eq_true (by omega)
@[go_sem] theorem Ext.le_1 : (n ≤ n + a) = True := eq_true (by omega)
@[go_sem] theorem Ext.le_2 : (n ≤ n + a + b) = True := eq_true (by omega)
@[go_sem] theorem Ext.le_3 : (n ≤ n + a + b + c) = True := eq_true (by omega)
@[go_sem] theorem Ext.le_4 : (n ≤ n + a + b + c + d) = True := eq_true (by omega)
@[go_sem] theorem Ext.le_5 : (n ≤ n + a + b + c + d + e) = True := eq_true (by omega)
@[go_sem] theorem Ext.le_6 : (n ≤ n + a + b + c + d + e + f) = True := eq_true (by omega)
@[go_sem] theorem Ext.le_7 : (n ≤ n + a + b + c + d + e + f + g) = True := eq_true (by omega)
@[go_sem] theorem Ext.le_8 : (n ≤ n + a + b + c + d + e + f + g + h) = True := eq_true (by omega)
end

def Ext.cat (X Y : Ext) : Ext := ⟨X.blocks ++ Y.blocks, Y.draws⟩
@[go_sem] theorem World.ext_ext (w : World) (X Y : Ext) : (w.ext X).ext Y = w.ext (X.cat Y) := by simp [World.ext, Ext.cat]

section
variable {P : Program}
theorem Calls.ext_of {f : FuncId} {args : Array Value} {w : World} {X : Ext} {v : Value}
    (h : Calls P f args (w.ext X) fun e w' => e = .returned v ∧ Below (w.ext X).heap.size (w.ext X) w') : Calls P f args (w.ext X) fun e w'' => e = .returned v ∧ ∃ Y, w'' = w.ext Y :=
  h.mono fun _ _ ⟨he, hb⟩ => ⟨he, World.ext_of_below ((World.below_ext w X).trans (hb.mono (by simp [World.size_ext])))⟩
theorem Calls.ext_same {f : FuncId} {args : Array Value} {w : World} {X : Ext} {v : Value}
    (h : Calls P f args (w.ext X) fun e w' => e = .returned v ∧ w.ext X = w') : Calls P f args (w.ext X) fun e w'' => e = .returned v ∧ ∃ Y, w'' = w.ext Y :=
  h.mono fun _ _ ⟨he, hb⟩ => ⟨he, X, hb.symm⟩

theorem Calls.cat_of {f : FuncId} {args : Array Value} {w : World} {X : Ext} {v : Value}
    (h : Calls P f args (w.ext X) fun e w' => e = .returned v ∧ Below (w.ext X).heap.size (w.ext X) w') : Calls P f args (w.ext X) fun e w'' => e = .returned v ∧ ∃ Y, w'' = w.ext (X.cat Y) :=
  h.mono fun _ _ ⟨he, hb⟩ => ⟨he, by obtain ⟨Y, rfl⟩ := World.ext_of_below hb; exact ⟨Y, World.ext_ext _ _ _⟩⟩
theorem Calls.cat_same {f : FuncId} {args : Array Value} {w : World} {X : Ext} {v : Value}
    (h : Calls P f args (w.ext X) fun e w' => e = .returned v ∧ w.ext X = w') : Calls P f args (w.ext X) fun e w'' => e = .returned v ∧ ∃ Y, w'' = w.ext (X.cat Y) :=
  h.mono fun _ _ ⟨he, hb⟩ => ⟨he, ⟨#[], X.draws⟩, by rw [← hb]; simp [World.ext, Ext.cat]⟩

/-- A region that draws its order, each of whose operations reads old memory alone, its calls making new memory at most. -/
theorem wp_region_ext_lit {id : Nat} {Q : Exit → Act → World → Prop} {a : Act} {w : World} {l : List Oper} (hm : P.follows .mixedOrders = true) (hB : Region.lexB .any l.toArray = true)
    (h : wpQuiet P l.toArray (fun w' => ∃ X, w' = w.ext X) (fun a' => ∀ w', (∃ X, w' = w.ext X) → Q .normal a' w') l a) : (Code.region id l.toArray true).wp P Q a w :=
  wp_region_quiet (C := fun w' => ∃ X, w' = w.ext X) hm hB ⟨⟨#[], w.drawn + 1⟩, by simp [World.ext]⟩ (by simpa using h)
end

theorem blk_cell {w : World} {n : Nat} {cs : Array Value} {t : TypeId} {fr : Nat × Nat} (h : w.heap[n]? = some (.cells cs t fr)) : ∀ o, w.cell? ⟨n, o, none⟩ = cs[o]? := fun o => by simp [World.cell?, h]
theorem blk_frozen {w : World} {n : Nat} {cs : Array Value} {t : TypeId} (h : w.heap[n]? = some (.cells cs t (0, 0))) : ∀ o, w.frozen? ⟨n, o, none⟩ = false := fun o => by simp [World.frozen?, h]
theorem blk_lt {w : World} {n : Nat} {o : Obj} (h : w.heap[n]? = some o) : n < w.heap.size := by
  rcases Nat.lt_or_ge n w.heap.size with h' | h'
  · exact h'
  · rw [Array.getElem?_eq_none h'] at h; cases h
theorem Below.ext {B : Nat} {a w : World} (h : Below B a w) (hB : B ≤ w.heap.size) (X : Ext) : Below B a (w.ext X) := h.trans ((World.below_ext w X).mono hB)

/-! A law: its walk lifted to the given statement's form. -/
section
open Go.ChangeShapes Go.WideShapes Go.ChangeAt
variable {H : Type} {enc : TypeId × Value → H}

theorem trodAll_stays {P : Program} (hl : laidOutB P = true) {W W' : World} {sp : Nat → Bool} :
    ∀ {ts : List TypeId} {vs : List Value} {ds : List (DataW H)} {ps : List MemPlace}, (∀ t ∈ ts, P.readableRec t = true ∧ t < P.types.size) → DataW.TrodAll enc P W 0 (fun _ => true) true ts vs ds ps →
      (∀ p ∈ ps, W.sameAt W' p) → (∀ p ∈ ps, sp p.block = true) → DataW.TrodAll enc P W' 0 sp true ts vs ds ps
  | [], _, _, _, _, h, _, _ => by obtain ⟨rfl, rfl, rfl⟩ := trodAll_nil h; exact trodAll_mk0
  | t :: ts, _, _, _, hr, h, hs, hp => by
    obtain ⟨v, vs', d, ds', p, q, rfl, rfl, rfl, h1, h2⟩ := trodAll_cons h
    exact trodAll_cons_mk (WideElems.Trod_stays hl (hr t (by simp)).1 (hr t (by simp)).2 h1 (fun x hx => hs x (by simp [hx])) (fun x hx => hp x (by simp [hx])))
      (trodAll_stays hl (fun t' ht' => hr t' (by simp [ht'])) h2 (fun x hx => hs x (by simp [hx])) (fun x hx => hp x (by simp [hx])))

theorem trodAll_length {P : Program} {w : World} {base : Nat} {sp : Nat → Bool} {held : Bool} :
    ∀ {ts : List TypeId} {vs : List Value} {ds : List (DataW H)} {ps : List MemPlace}, DataW.TrodAll enc P w base sp held ts vs ds ps → vs.length = ts.length ∧ ds.length = ts.length
  | [], _, _, _, h => by obtain ⟨rfl, rfl, rfl⟩ := trodAll_nil h; exact ⟨rfl, rfl⟩
  | t :: ts, _, _, _, h => by
    obtain ⟨v, vs', d, ds', p, q, rfl, rfl, rfl, h1, h2⟩ := trodAll_cons h
    have := trodAll_length h2
    simp [this.1, this.2]

theorem post_of_below {P : Program} {f : Func} {s : ChangeSpec} {apart fresh handsOn again : Bool} {W W' : World} {args : Array Value} {v : Value} {ds gs : List (DataW H)} {before pa pv : List MemPlace}
    (hW : DataW.Whole enc P f.params.toList s.vars apart W args.toList ds gs before)
    (hres : ∀ (b : Nat) (sp : Nat → Bool) (hd : Bool), DataW.TrodAll enc P W' b sp hd f.resultTypes.toList (v.resultList f.resultTypes.size) (s.fn H (ds ++ gs)).results [])
    (hargs : ∀ sp : Nat → Bool, (∀ p ∈ before, sp p.block = true) → DataW.TrodAll enc P W' 0 sp true f.params.toList args.toList (s.fn H (ds ++ gs)).args pa)
    (hvars : ∀ sp : Nat → Bool, (∀ p ∈ before, sp p.block = true) → DataW.TrodVars enc P W' sp s.vars (s.fn H (ds ++ gs)).vars pv)
    (hps : before = pa ++ pv) (hb : Below W.heap.size W W')
    (hok : ∀ (j : Nat) (t : TypeId) (r : Value), f.resultTypes[j]? = some t → (v.resultList f.resultTypes.size)[j]? = some r → Value.okWide P W' .any 0 t r) :
    s.post enc P f apart fresh handsOn again W args v W' := by
  have hlt : ∀ p ∈ before, p.block < W.heap.size := fun p hp => hW.lt p hp
  have hold : ∀ p ∈ before, (fun b => decide (b < W.heap.size)) p.block = true := fun p hp => by simpa using hlt p hp
  refine ⟨ds, gs, before, [], pa, pv, hW, hres _ _ _, hargs _ hold, hvars _ hold, World.keptBut_mono (fun p hp => ⟨hp, ?_⟩) (hb.frame (· ∈ before)), fun _ => ?_⟩
  · rw [hps, List.mem_append] at hp
    exact Or.inr hp
  · obtain ⟨_, _, _, _, _, hz, hn⟩ := hW
    refine ⟨hok, _, _, ([] ++ pa) ++ pv, ⟨[] ++ pa, pv, trodAll_append (hargs _ (fun _ _ => rfl)) (hres _ _ _), hvars _ (fun _ _ => rfl), rfl, ?_, ?_⟩, ?_⟩
    · intro b off hp
      have hin : MemPlace.cell b off ∈ before := by rw [hps]; simpa using hp
      rw [hb.frozen (hlt _ hin)]
      exact hz b off hin
    · intro ha
      have := hn ha
      rw [hps] at this
      simpa using this
    · intro p hp _
      rw [hps]
      simpa using hp

theorem list1 {α : Type} {l : List α} (h : l.length = 1) : ∃ a, l = [a] := by
  match l, h with | [a], _ => exact ⟨a, rfl⟩
theorem list2 {α : Type} {l : List α} (h : l.length = 2) : ∃ a b, l = [a, b] := by
  match l, h with | [a, b], _ => exact ⟨a, b, rfl⟩
theorem list3 {α : Type} {l : List α} (h : l.length = 3) : ∃ a b c, l = [a, b, c] := by
  match l, h with | [a, b, c], _ => exact ⟨a, b, c, rfl⟩
theorem list4 {α : Type} {l : List α} (h : l.length = 4) : ∃ a b c d, l = [a, b, c, d] := by
  match l, h with | [a, b, c, d], _ => exact ⟨a, b, c, d, rfl⟩
theorem list5 {α : Type} {l : List α} (h : l.length = 5) : ∃ a b c d e, l = [a, b, c, d, e] := by
  match l, h with | [a, b, c, d, e], _ => exact ⟨a, b, c, d, e, rfl⟩
theorem list6 {α : Type} {l : List α} (h : l.length = 6) : ∃ a b c d e f, l = [a, b, c, d, e, f] := by
  match l, h with | [a, b, c, d, e, f], _ => exact ⟨a, b, c, d, e, f, rfl⟩

/-- What a law's walk must show: called with arguments that read, it returns true, and what was there stays. -/
def LawWalk (enc : TypeId × Value → H) (P : Program) (f : FuncId) (fn : Func) : Prop :=
  ∀ (W : World) (base : Nat) (args : Array Value) (ds : List (DataW H)) (ps : List MemPlace),
    (∀ (j : Nat) t v, fn.params[j]? = some t → args[j]? = some v → Value.okWide P W .any base t v) →
    DataW.TrodAll enc P W 0 (fun _ => true) true fn.params.toList args.toList ds ps → (∀ p ∈ ps, p.block < W.heap.size) → W.noneFrozen ps →
    Calls P f args W fun e W' => e = .returned (.bool true) ∧ Below W.heap.size W W'

theorem law_lifted {C : Checked} {os : Os} {f : FuncId} {fn : Func} {s : ChangeSpec} {tb : TypeId}
    (own : ownKnob C.prog.godebug = none) (started : os.Started) (noInit : C.prog.inits.idxOf? f = none) (hfn : C.prog.funcs[f]? = some fn)
    (hl : laidOutB C.prog = true) (hr : (fn.params.toList.all fun t => C.prog.readableRec t && decide (t < C.prog.types.size)) = true)
    (hres : fn.resultTypes = #[tb]) (hb : C.prog.underlying tb = some .bool) (hv : s.vars = [])
    (hs : ∀ ds : List (DataW H), ds.length = fn.params.size → s.fn H ds = { results := [.lit (.bool true)], args := ds })
    (witness : ∃ (w : World) (tape : Tape) (i : Input), w.os = os ∧ (w.forCall tape i).Shaped C.prog ∧ i.vars = [] ∧ Input.okWide C.prog (w.forCall tape i) .any w.heap.size f i ∧
      s.pre6 enc C.prog fn [] false (w.forCall tape i).memory i.args ∧ Assume.holds {} C.prog (lone (Frame.enter C.prog f i.args .normal) [] (w.forCall tape i)))
    (walk : LawWalk enc C.prog f fn) :
    ReturnsInHanded {} C os f .any (s.pre6 enc C.prog fn [] false) (s.post enc C.prog fn false true false false) := by
  refine returnsInHanded_of_change own started noInit hfn witness ?_
  intro W base args ds gs before hval hW _ _
  have hW' := hW
  have hlt : ∀ p ∈ before, p.block < W.heap.size := fun p hp => hW'.lt p hp
  obtain ⟨p, q, hA, hV, hpq, hfz, hnd⟩ := hW
  rw [hv] at hV
  obtain ⟨rfl, rfl⟩ := trodVars_none hV
  simp only [List.append_nil] at hpq
  subst hpq
  have hlen := trodAll_length hA
  have hfn' := hs ds (by rw [hlen.2]; simp)
  refine (walk W base args ds before hval hA hlt hfz).mono fun e W' ⟨he, hg⟩ => ?_
  subst he
  refine ⟨_, rfl, post_of_below (pa := before) (pv := []) hW' ?_ ?_ ?_ (by simp) hg ?_⟩
  · intro b sp hd
    rw [List.append_nil, hfn', hres]
    exact trodAll_mk1 (shut_bool hb true)
  · intro sp hsp
    rw [List.append_nil, hfn']
    have hr' : ∀ t ∈ fn.params.toList, C.prog.readableRec t = true ∧ t < C.prog.types.size := fun t ht => by
      have := List.all_eq_true.1 hr t ht
      simpa using this
    exact trodAll_stays hl hr' hA (fun x hx => hg.same (hlt x hx)) hsp
  · intro sp _
    rw [hv, List.append_nil, hfn']
    rfl
  · exact ok_one hres rfl (okWide_bool_mk hb true)
end
end Go
