import Derived.Test.YtmfbidhnafpkdaaDoorChecked
import Derived.Test.YtmfbidhnafpkdaaDoorOnly
import Derived.Lib.SliceRun
/-! Rows of ints; slices.Index, Contains, Clone at them. -/
namespace Go.Proofs.YtmfbidhnafpkdaaDoor
open Go.RowKit
set_option linter.unusedVariables false
set_option linter.unusedSimpArgs false
def ints (l : List Int) : List Value := l.map (Value.int .i64)
theorem ints_length (l : List Int) : (ints l).length = l.length := by simp [ints]
theorem ints_get {l : List Int} {j : Nat} {x : Int} (h : l[j]? = some x) : (ints l)[j]? = some (.int .i64 x) := by simp [ints, h]
theorem ints_take (l : List Int) (k : Nat) : (ints l).take k = ints (l.take k) := by simp [ints, List.map_take]
theorem ints_append (l m : List Int) : ints (l ++ m) = ints l ++ ints m := by simp [ints]
theorem reads_len {w : World} {B : Nat} {A : Option Addr} {n : Nat} {l : List Int} (h : Reads w B 1 A n (ints l)) : l.length = n := by have := h.1; rw [ints_length] at this; omega
def hasB (l : List Int) (x : Int) : Bool := l.any (fun y => y == x)
theorem hasB_mem {l : List Int} {x : Int} : hasB l x = true ↔ x ∈ l := by simp [hasB]
theorem hasB_not {l : List Int} {x : Int} : hasB l x = false ↔ x ∉ l := by
  cases h : hasB l x with
  | true => simp [hasB_mem.1 h]
  | false => simp only [true_iff]; intro hm; rw [hasB_mem.2 hm] at h; cases h
theorem infoI64 : (Tryd.prog.info? 3).map (fun i => (i.zero, i.size, i.bytes)) = some (some (.int .i64 0), 1, 8) := by kernel_rfl
end Go.Proofs.YtmfbidhnafpkdaaDoor
