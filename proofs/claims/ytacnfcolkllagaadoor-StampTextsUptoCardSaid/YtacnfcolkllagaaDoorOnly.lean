import Derived.Test.YtacnfcolkllagaaDoorKit
/-! Only one old block is changed. -/
namespace Go.Proofs.YtacnfcolkllagaaDoor
open Go.RowKit
set_option linter.unusedVariables false
set_option linter.unusedSimpArgs false
/-- Only one old block is changed. -/
structure Only (w w' : World) (g : Nat) : Prop where
  os : w'.os = w.os
  tape : w'.tape = w.tape
  output : w'.output = w.output
  size : w.heap.size ≤ w'.heap.size
  block : ∀ k, k < w.heap.size → k ≠ g → w'.heap[k]? = w.heap[k]?
theorem Only.refl (w : World) (g : Nat) : Only w w g := ⟨rfl, rfl, rfl, Nat.le_refl _, fun _ _ _ => rfl⟩
theorem Only.trans {w w' w'' : World} {g : Nat} (h : Only w w' g) (k : Only w' w'' g) : Only w w'' g :=
  ⟨k.os.trans h.os, k.tape.trans h.tape, k.output.trans h.output, Nat.le_trans h.size k.size, fun i hi hg => (k.block i (Nat.lt_of_lt_of_le hi h.size) hg).trans (h.block i hi hg)⟩
theorem Only.of_below {w w' : World} {g : Nat} (h : Below w.heap.size w w') : Only w w' g := ⟨h.os, h.tape, h.output, h.size, fun k hk _ => h.block k hk⟩
theorem Only.below {w w' : World} {g B : Nat} (h : Only w w' g) (hB : B ≤ g) (hs : B ≤ w.heap.size) : Below B w w' := ⟨h.os, h.tape, h.output, h.size, fun k hk => h.block k (by omega) (by omega)⟩
theorem Only.setCell (w : World) (g i : Nat) (u : Value) : Only w (w.setCell ⟨g, i, none⟩ u) g := ⟨rfl, rfl, rfl, by simp, fun k hk hg => Below.heap_setCell w _ _ k hg⟩
theorem Only.alloc {w W : World} {g : Nat} (h : Only w W g) (o : Obj) : Only w (W.alloc o) g := h.trans (Only.of_below (Below.alloc (Below.refl _ _) (Nat.le_refl _) o))
theorem Only.ext {w W : World} {g : Nat} (h : Only w W g) (X : Ext) : Only w (W.ext X) g := h.trans (Only.of_below (World.below_ext W X))
theorem Only.set_ {w W : World} {g : Nat} (h : Only w W g) {p : Addr} (hp : p.block = g ∨ w.heap.size ≤ p.block) (u : Value) : Only w (W.setCell p u) g :=
  ⟨h.os, h.tape, h.output, by simpa using h.size, fun k hk hg => (Below.heap_setCell W p u k (by omega)).trans (h.block k hk hg)⟩
theorem Blk.made (w : World) (o : Obj) (t : TypeId) (cs : Array Value) : Blk ((w.alloc o).alloc (.cells cs t)) (w.heap.size + 1) t cs := by
  have := Blk.new (w.alloc o) t cs
  rwa [World.size_alloc] at this
theorem Blk.only {w w' : World} {g k : Nat} {t : TypeId} {cs : Array Value} (h : Blk w k t cs) (ho : Only w w' g) (hne : k ≠ g) : Blk w' k t cs := (ho.block k (Blk.lt h) hne).trans h
end Go.Proofs.YtacnfcolkllagaaDoor
