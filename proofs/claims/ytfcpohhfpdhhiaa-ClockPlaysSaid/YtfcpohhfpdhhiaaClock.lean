import Derived.Test.YtfcpohhfpdhhiaaStamp
import Derived.Test.YtfcpohhfpdhhiaaSkip
/-! Clocks: what they answer. -/
namespace Go.Proofs.Ytfcpohhfpdhhiaa
open Go.RowKit
set_option linter.unusedVariables false
set_option linter.unusedSimpArgs false
structure Ck where
  a : Int
  b : Int
  c : Int
  off : Int
  up : Int
  mark : Int
structure Ck.ok (k : Ck) : Prop where
  a : 0 ≤ k.a ∧ k.a ≤ 4611686018427387904
  b : 0 ≤ k.b ∧ k.b ≤ 4294967295
  c : 0 ≤ k.c ∧ k.c ≤ 4294967295
  off : 0 ≤ k.off ∧ k.off ≤ 1099511627776
  up : 0 ≤ k.up ∧ k.up ≤ 4611686018427387904
  mark : 0 ≤ k.mark ∧ k.mark ≤ 4294967295
def Ck.cells (k : Ck) : Array Value := #[.int .i64 k.a, .int .u32 k.b, .int .u32 k.c, .int .i64 k.off, .int .i64 k.up, .int .u32 k.mark]
structure Ans where
  x : Int
  y : Int
  z : Int
  e : Int
  k : Ck
def Ans.st (r : Ans) : Value := .agg #[.int .i64 r.x, .int .u32 r.y, .int .u32 r.z]
def setP (k : Ck) (a b : Int) : Ans := if k.up < a then ⟨0, 0, 0, 22, k⟩ else ⟨a, b, k.mark, 0, { k with a := a, b := b, c := 0 }⟩
def giveP (k : Ck) (phys ta tb : Int) : Ans := if ta < phys then setP k phys 0 else if nextE ta tb ≠ 0 then ⟨0, 0, 0, nextE ta tb, k⟩ else setP k (nextW ta tb) (nextT ta tb)
def badP (phys : Int) : Prop := phys < 0 ∨ 4611686018427387904 < phys
instance (phys : Int) : Decidable (badP phys) := by unfold badP; infer_instance
def nowP (k : Ck) (phys : Int) : Ans := if badP phys then ⟨0, 0, 0, 1, k⟩ else giveP k phys k.a k.b
def updP (k : Ck) (phys ia ib ic : Int) : Ans := if badP phys then ⟨0, 0, 0, 1, k⟩ else if rightB ia = false then ⟨0, 0, 0, 1, k⟩ else if k.off < ia - phys then ⟨0, 0, 0, 21, k⟩
  else if 0 < cmpI ia ib ic k.a k.b k.c then giveP k phys ia ib else giveP k phys k.a k.b
def raiseP (k : Ck) (u : Int) : Int × Ck := if u < k.up ∨ 4611686018427387904 < u then (1, k) else (0, { k with up := u })
theorem next_ok {a b : Int} (h : 0 ≤ a ∧ a ≤ 4611686018427387904) (hb : 0 ≤ b ∧ b ≤ 4294967295) :
    (0 ≤ nextW a b ∧ nextW a b ≤ 4611686018427387904) ∧ (0 ≤ nextT a b ∧ nextT a b ≤ 4294967295) ∧ (nextE a b = 0 ∨ nextE a b = 20) ∧ (nextE a b = 0 → a < nextW a b ∨ (a = nextW a b ∧ b < nextT a b)) := by
  have hr := rightB_mk h
  unfold nextW nextT nextE
  simp only [hr, if_true]
  by_cases h1 : b = 4294967295
  · by_cases h2 : a = 4611686018427387904
    · simp [h1, h2]
    · simp [h1, h2]
      omega
  · simp [h1]
    omega
theorem setP_ok {k : Ck} (hk : k.ok) {a b : Int} (ha : 0 ≤ a ∧ a ≤ 4611686018427387904) (hb : 0 ≤ b ∧ b ≤ 4294967295) : (setP k a b).k.ok ∧ (setP k a b).k.off = k.off ∧ (setP k a b).k.up = k.up ∧ (setP k a b).k.mark = k.mark := by
  unfold setP
  split
  · exact ⟨hk, rfl, rfl, rfl⟩
  · exact ⟨⟨ha, hb, by simp, hk.off, hk.up, hk.mark⟩, rfl, rfl, rfl⟩
theorem giveP_ok {k : Ck} (hk : k.ok) {phys ta tb : Int} (hp : ¬badP phys) (ha : 0 ≤ ta ∧ ta ≤ 4611686018427387904) (hb : 0 ≤ tb ∧ tb ≤ 4294967295) : (giveP k phys ta tb).k.ok ∧ (giveP k phys ta tb).k.off = k.off ∧ (giveP k phys ta tb).k.up = k.up ∧ (giveP k phys ta tb).k.mark = k.mark := by
  unfold badP at hp
  obtain ⟨h1, h2, h3, h4⟩ := next_ok ha hb
  unfold giveP
  split
  · exact setP_ok hk (by omega) (by omega)
  · split
    · exact ⟨hk, rfl, rfl, rfl⟩
    · exact setP_ok hk h1 h2
theorem nowP_ok {k : Ck} (hk : k.ok) (phys : Int) : (nowP k phys).k.ok ∧ (nowP k phys).k.off = k.off ∧ (nowP k phys).k.up = k.up ∧ (nowP k phys).k.mark = k.mark := by
  unfold nowP
  split
  · exact ⟨hk, rfl, rfl, rfl⟩
  · exact giveP_ok hk ‹_› hk.a hk.b
theorem updP_ok {k : Ck} (hk : k.ok) (phys ia ib ic : Int) (hb : 0 ≤ ib ∧ ib ≤ 4294967295) : (updP k phys ia ib ic).k.ok ∧ (updP k phys ia ib ic).k.off = k.off ∧ (updP k phys ia ib ic).k.up = k.up ∧ (updP k phys ia ib ic).k.mark = k.mark := by
  unfold updP
  split
  · exact ⟨hk, rfl, rfl, rfl⟩
  · split
    · exact ⟨hk, rfl, rfl, rfl⟩
    · rename_i hr
      have hr' : rightB ia = true := by simpa using hr
      split
      · exact ⟨hk, rfl, rfl, rfl⟩
      · split
        · exact giveP_ok hk ‹_› (rightB_true hr') hb
        · exact giveP_ok hk ‹_› hk.a hk.b
theorem raiseP_ok {k : Ck} (hk : k.ok) (u : Int) : (raiseP k u).2.ok := by
  unfold raiseP
  split
  · exact hk
  · exact ⟨hk.a, hk.b, hk.c, hk.off, by have := hk.up; simp only; omega, hk.mark⟩
/-- Only one old block is changed. -/
structure Only (w w' : World) (g : Nat) : Prop where
  os : w'.os = w.os
  tape : w'.tape = w.tape
  output : w'.output = w.output
  size : w.heap.size ≤ w'.heap.size
  block : ∀ k, k < w.heap.size → k ≠ g → w'.heap[k]? = w.heap[k]?
theorem Only.refl (w : World) (g : Nat) : Only w w g := ⟨rfl, rfl, rfl, Nat.le_refl _, fun _ _ _ => rfl⟩
theorem Only.trans {w w' w'' : World} {g : Nat} (h : Only w w' g) (k : Only w' w'' g) : Only w w'' g :=
  ⟨k.os.trans h.os, k.tape.trans h.tape, k.output.trans h.output, Nat.le_trans h.size k.size, fun i hi hg => (k.block i (Nat.lt_of_lt_of_le hi h.size) hg).trans (h.block i hi hg)⟩
theorem Only.of_below {w w' : World} {g : Nat} (h : Below w.heap.size w w') : Only w w' g := ⟨h.os, h.tape, h.output, h.size, fun k hk _ => h.block k hk⟩
theorem Only.below {w w' : World} {g B : Nat} (h : Only w w' g) (hB : B ≤ g) (hs : B ≤ w.heap.size) : Below B w w' := ⟨h.os, h.tape, h.output, h.size, fun k hk => h.block k (by omega) (by omega)⟩
theorem Only.setCell (w : World) (g i : Nat) (u : Value) : Only w (w.setCell ⟨g, i, none⟩ u) g := ⟨rfl, rfl, rfl, by simp, fun k hk hg => Below.heap_setCell w _ _ k hg⟩
theorem Only.alloc {w W : World} {g : Nat} (h : Only w W g) (o : Obj) : Only w (W.alloc o) g := h.trans (Only.of_below (Below.alloc (Below.refl _ _) (Nat.le_refl _) o))
theorem Only.ext {w W : World} {g : Nat} (h : Only w W g) (X : Ext) : Only w (W.ext X) g := h.trans (Only.of_below (World.below_ext W X))
theorem Only.set_ {w W : World} {g : Nat} (h : Only w W g) {p : Addr} (hp : p.block = g ∨ w.heap.size ≤ p.block) (u : Value) : Only w (W.setCell p u) g :=
  ⟨h.os, h.tape, h.output, by simpa using h.size, fun k hk hg => (Below.heap_setCell W p u k (by omega)).trans (h.block k hk hg)⟩
theorem Blk.made (w : World) (o : Obj) (t : TypeId) (cs : Array Value) : Blk ((w.alloc o).alloc (.cells cs t)) (w.heap.size + 1) t cs := by
  have := Blk.new (w.alloc o) t cs
  rwa [World.size_alloc] at this
theorem Blk.only {w w' : World} {g k : Nat} {t : TypeId} {cs : Array Value} (h : Blk w k t cs) (ho : Only w w' g) (hne : k ≠ g) : Blk w' k t cs := (ho.block k (Blk.lt h) hne).trans h
end Go.Proofs.Ytfcpohhfpdhhiaa
