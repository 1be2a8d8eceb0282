import Derived.Test.YtjhcgnmibnjocaaGreatY31
/-! Messages and steps that were handed in. -/
namespace Go.Proofs.YtjhcgnmibnjocaaGreat
open Go.RowKit Go.Maps
set_option linter.unusedVariables false
set_option linter.unusedSimpArgs false
theorem len8 {α : Type} : ∀ (D : List α), D.length = 8 → ∃ a b c d e f g h, D = [a, b, c, d, e, f, g, h]
 | [a, b, c, d, e, f, g, h], _ => ⟨a, b, c, d, e, f, g, h, rfl⟩
theorem len6 {α : Type} : ∀ (D : List α), D.length = 6 → ∃ a b c d e f, D = [a, b, c, d, e, f]
 | [a, b, c, d, e, f], _ => ⟨a, b, c, d, e, f, rfl⟩
theorem len5 {α : Type} : ∀ (D : List α), D.length = 5 → ∃ a b c d e, D = [a, b, c, d, e]
 | [a, b, c, d, e], _ => ⟨a, b, c, d, e, rfl⟩
theorem len14 {α : Type} : ∀ (D : List α), D.length = 14 → ∃ a b c d e f g h i j k l m n, D = [a, b, c, d, e, f, g, h, i, j, k, l, m, n]
 | [a, b, c, d, e, f, g, h, i, j, k, l, m, n], _ => ⟨a, b, c, d, e, f, g, h, i, j, k, l, m, n, rfl⟩
structure RVw where
 v : Vi
 A : Option Addr
 c : Nat
def RVw.cells (x : RVw) : List Value := [.int .i64 x.v.e, .int .i64 x.v.p, .slice x.A x.v.l.length x.c]
structure RVw.ok (w : World) (x : RVw) : Prop where
 rd : Reads w w.heap.size 1 x.A x.v.l.length (ints x.v.l)
 ok : x.v.ok
 n : x.v.l.length ≤ 17592186044416
structure RMg where
 m : Mg
 A : Option Addr
 c : Nat
 B : Option Addr
 d : Nat
def RMg.cells (x : RMg) : List Value := [.int .i64 x.m.k, .int .i64 x.m.e, .int .i64 x.m.v.e, .int .i64 x.m.v.p, .slice x.A x.m.v.l.length x.c, .int .i64 x.m.i, .int .i64 x.m.s, .slice x.B x.m.log.length x.d]
structure RMg.ok (w : World) (x : RMg) : Prop where
 v : RVw.ok w ⟨x.m.v, x.A, x.c⟩
 log : Ents0 w (fun k => w.heap.size ≤ k) x.B x.m.log.length x.m.log
 n : x.m.log.length ≤ 17592186044416
 i : I64 x.m.k ∧ I64 x.m.e ∧ I64 x.m.i ∧ I64 x.m.s
structure ROp where
 kind : Int
 v : RVw
 u : Value
 t : List Nat
 f : Int
 m : RMg
def ROp.cells (x : ROp) : List Value := .int .i64 x.kind :: (x.v.cells ++ x.u :: .int .i64 x.f :: x.m.cells)
instance : Inhabited ROp := ⟨⟨0, ⟨Vi.none, none, 0⟩, .slice none 0 0, [], 0, ⟨⟨0, 0, Vi.none, 0, 0, []⟩, none, 0, none, 0⟩⟩⟩
structure ROp.ok (w : World) (x : ROp) : Prop where
 v : x.v.ok w
 b : Bsl w (fun k => w.heap.size ≤ k) x.u x.t
 n : x.t.length ≤ 140737488351232
 m : x.m.ok w
 f : I64 x.f
theorem ROp.len (x : ROp) : x.cells.length = 14 := rfl
section
open Go.ChangeShapes Go.WideShapes Go.ChangeAt
variable {H : Type} {enc : TypeId × Value → H} {w : World} {base : Nat} {held : Bool}
set_option maxRecDepth 100000 in
theorem vw_open {cs : List Value} {y : DataW H × List MemPlace} {n : Nat} (h : DataW.trod enc Tryz.prog w base (fun _ => true) held n 30 cs = some y) (hw : ∀ z ∈ y.1.weights Tryz.prog 30, z ≤ reachBytes) :
  ∃ q : RVw, cs = q.cells ∧ q.ok w := by
 obtain ⟨xs, n, rfl, rfl, hl, hxl, hf⟩ := DataW.trod_struct Tryz.underlying30 h
 rw [show Tryz.prog.cellsOf 30 = 3 by kernel_rfl] at hl
 obtain ⟨v0, v1, v2, rfl⟩ := list3 hl
 obtain ⟨y0, y1, y2, rfl⟩ := list3 hxl
 have q1 : Tryz.prog.cellsOf 3 = 1 := by kernel_rfl
 have q2 : Tryz.prog.cellsOf 28 = 1 := by kernel_rfl
 have g0 := hf 0 _ rfl
 have g1 := hf 1 _ rfl
 have g2 := hf 2 _ rfl
 simp [q1] at g0 g1
 simp [q2] at g2
 obtain ⟨a0, e0, rfl, w0⟩ := DataW.trod_int Tryz.underlying3 g0
 obtain ⟨a1, e1, rfl, w1⟩ := DataW.trod_int Tryz.underlying3 g1
 obtain ⟨A, m, c, l, e2, _, _, hr, hl64, hb⟩ := ints_trod g2
 simp at e0 e1 e2
 subst e0 e1 e2
 (simp [Lit.wf, IntKind.min, IntKind.max, IntKind.signed, IntKind.bits] at w0)
 (simp [Lit.wf, IntKind.min, IntKind.max, IntKind.signed, IntKind.bits] at w1)
 have hb2 := ints_weight (d := y2.1) (fun z hz => hw z (by
  simp only [DataW.weights, Tryz.underlying30, List.map_cons, List.map_nil, DataW.weightsEach, List.nil_append]
  simp only [List.mem_append]
  exact .inl hz)) hb
 have hn := reads_len hr
 subst hn
 exact ⟨⟨⟨a0, a1, l⟩, A, c⟩, rfl, hr, ⟨w0, w1, hl64⟩, by show l.length ≤ _; omega⟩
end
end Go.Proofs.YtjhcgnmibnjocaaGreat
