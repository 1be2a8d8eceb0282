import Derived.Test.YtjhcgnmibnjocaaY31
/-! Messages and steps that were handed in. -/
namespace Go.Proofs.Ytjhcgnmibnjocaa
open Go.RowKit Go.Maps
set_option linter.unusedVariables false
set_option linter.unusedSimpArgs false
theorem len8 {α : Type} : ∀ (D : List α), D.length = 8 → ∃ a b c d e f g h, D = [a, b, c, d, e, f, g, h]
  | [a, b, c, d, e, f, g, h], _ => ⟨a, b, c, d, e, f, g, h, rfl⟩
theorem len6 {α : Type} : ∀ (D : List α), D.length = 6 → ∃ a b c d e f, D = [a, b, c, d, e, f]
  | [a, b, c, d, e, f], _ => ⟨a, b, c, d, e, f, rfl⟩
theorem len5 {α : Type} : ∀ (D : List α), D.length = 5 → ∃ a b c d e, D = [a, b, c, d, e]
  | [a, b, c, d, e], _ => ⟨a, b, c, d, e, rfl⟩
theorem len14 {α : Type} : ∀ (D : List α), D.length = 14 → ∃ a b c d e f g h i j k l m n, D = [a, b, c, d, e, f, g, h, i, j, k, l, m, n]
  | [a, b, c, d, e, f, g, h, i, j, k, l, m, n], _ => ⟨a, b, c, d, e, f, g, h, i, j, k, l, m, n, rfl⟩
/-- A view of the law: what it says, where its members lie. -/
structure RVw where
  v : Vi
  A : Option Addr
  c : Nat
def RVw.cells (x : RVw) : List Value := [.int .i64 x.v.e, .int .i64 x.v.p, .slice x.A x.v.l.length x.c]
structure RVw.ok (w : World) (x : RVw) : Prop where
  rd : Reads w w.heap.size 1 x.A x.v.l.length (ints x.v.l)
  ok : x.v.ok
  n : x.v.l.length ≤ 17592186044416
/-- A message of the law. -/
structure RMg where
  m : Mg
  A : Option Addr
  c : Nat
  B : Option Addr
  d : Nat
def RMg.cells (x : RMg) : List Value := [.int .i64 x.m.k, .int .i64 x.m.e, .int .i64 x.m.v.e, .int .i64 x.m.v.p, .slice x.A x.m.v.l.length x.c, .int .i64 x.m.i, .int .i64 x.m.s, .slice x.B x.m.log.length x.d]
structure RMg.ok (w : World) (x : RMg) : Prop where
  v : RVw.ok w ⟨x.m.v, x.A, x.c⟩
  log : Ents0 w (fun k => w.heap.size ≤ k) x.B x.m.log.length x.m.log
  n : x.m.log.length ≤ 17592186044416
  i : I64 x.m.k ∧ I64 x.m.e ∧ I64 x.m.i ∧ I64 x.m.s
/-- A step of the law. -/
structure ROp where
  kind : Int
  v : RVw
  u : Value
  t : List Nat
  f : Int
  m : RMg
def ROp.cells (x : ROp) : List Value := .int .i64 x.kind :: (x.v.cells ++ x.u :: .int .i64 x.f :: x.m.cells)
instance : Inhabited ROp := ⟨⟨0, ⟨Vi.none, none, 0⟩, .slice none 0 0, [], 0, ⟨⟨0, 0, Vi.none, 0, 0, []⟩, none, 0, none, 0⟩⟩⟩
structure ROp.ok (w : World) (x : ROp) : Prop where
  v : x.v.ok w
  b : Bsl w (fun k => w.heap.size ≤ k) x.u x.t
  n : x.t.length ≤ 140737488351232
  m : x.m.ok w
  f : I64 x.f
theorem ROp.len (x : ROp) : x.cells.length = 14 := rfl
section
open Go.ChangeShapes Go.WideShapes Go.ChangeAt
variable {H : Type} {enc : TypeId × Value → H} {w : World} {base : Nat} {held : Bool}
set_option maxRecDepth 100000 in
theorem vw_open {cs : List Value} {y : DataW H × List MemPlace} {n : Nat} (h : DataW.trod enc Try.prog w base (fun _ => true) held n 31 cs = some y) (hw : ∀ z ∈ y.1.weights Try.prog 31, z ≤ reachBytes) :
    ∃ q : RVw, cs = q.cells ∧ q.ok w := by
  obtain ⟨xs, n, rfl, rfl, hl, hxl, hf⟩ := DataW.trod_struct Try.underlying31 h
  rw [show Try.prog.cellsOf 31 = 3 by kernel_rfl] at hl
  obtain ⟨v0, v1, v2, rfl⟩ := list3 hl
  obtain ⟨y0, y1, y2, rfl⟩ := list3 hxl
  have q1 : Try.prog.cellsOf 3 = 1 := by kernel_rfl
  have q2 : Try.prog.cellsOf 29 = 1 := by kernel_rfl
  have g0 := hf 0 _ rfl
  have g1 := hf 1 _ rfl
  have g2 := hf 2 _ rfl
  simp [q1] at g0 g1
  simp [q2] at g2
  obtain ⟨a0, e0, rfl, w0⟩ := DataW.trod_int Try.underlying3 g0
  obtain ⟨a1, e1, rfl, w1⟩ := DataW.trod_int Try.underlying3 g1
  obtain ⟨A, m, c, l, e2, _, _, hr, hl64, hb⟩ := ints_trod g2
  simp at e0 e1 e2
  subst e0 e1 e2
  (simp [Lit.wf, IntKind.min, IntKind.max, IntKind.signed, IntKind.bits] at w0)
  (simp [Lit.wf, IntKind.min, IntKind.max, IntKind.signed, IntKind.bits] at w1)
  have hb2 := ints_weight (d := y2.1) (fun z hz => hw z (by
    simp only [DataW.weights, Try.underlying31, List.map_cons, List.map_nil, DataW.weightsEach, List.nil_append]
    simp only [List.mem_append]
    exact .inl hz)) hb
  have hn := reads_len hr
  subst hn
  exact ⟨⟨⟨a0, a1, l⟩, A, c⟩, rfl, hr, ⟨w0, w1, hl64⟩, by show l.length ≤ _; omega⟩
set_option maxRecDepth 100000 in
theorem msg_open {cs : List Value} {y : DataW H × List MemPlace} {n : Nat} (h : DataW.trod enc Try.prog w base (fun _ => true) held n 35 cs = some y) (hw : ∀ z ∈ y.1.weights Try.prog 35, z ≤ reachBytes) :
    ∃ q : RMg, cs = q.cells ∧ q.ok w := by
  obtain ⟨xs, n, rfl, rfl, hl, hxl, hf⟩ := DataW.trod_struct Try.underlying35 h
  rw [show Try.prog.cellsOf 35 = 8 by kernel_rfl] at hl
  obtain ⟨v0, v1, v2, v3, v4, v5, v6, v7, rfl⟩ := len8 _ hl
  obtain ⟨y0, y1, y2, y3, y4, y5, rfl⟩ := len6 _ hxl
  have q1 : Try.prog.cellsOf 3 = 1 := by kernel_rfl
  have q2 : Try.prog.cellsOf 31 = 3 := by kernel_rfl
  have q3 : Try.prog.cellsOf 33 = 1 := by kernel_rfl
  have g0 := hf 0 _ rfl
  have g1 := hf 1 _ rfl
  have g2 := hf 2 _ rfl
  have g3 := hf 3 _ rfl
  have g4 := hf 4 _ rfl
  have g5 := hf 5 _ rfl
  simp [q1] at g0 g1 g3 g4
  simp [q2] at g2
  simp [q3] at g5
  simp only [DataW.weights, Try.underlying35, List.map_cons, List.map_nil, DataW.weightsEach, List.nil_append, List.mem_append] at hw
  obtain ⟨a0, e0, rfl, w0⟩ := DataW.trod_int Try.underlying3 g0
  obtain ⟨a1, e1, rfl, w1⟩ := DataW.trod_int Try.underlying3 g1
  obtain ⟨⟨v, A, c⟩, e2, hv⟩ := vw_open g2 (fun z hz => hw z (by simp [hz]))
  obtain ⟨a3, e3, rfl, w3⟩ := DataW.trod_int Try.underlying3 g3
  obtain ⟨a4, e4, rfl, w4⟩ := DataW.trod_int Try.underlying3 g4
  obtain ⟨B, d, l, e5, hE, hn⟩ := ents_open g5 (fun z hz => hw z (by simp [hz]))
  simp [RVw.cells] at e0 e1 e2 e3 e4 e5
  obtain ⟨rfl, rfl, rfl⟩ := e2
  subst e0 e1 e3 e4 e5
  (simp [Lit.wf, IntKind.min, IntKind.max, IntKind.signed, IntKind.bits] at w0)
  (simp [Lit.wf, IntKind.min, IntKind.max, IntKind.signed, IntKind.bits] at w1)
  (simp [Lit.wf, IntKind.min, IntKind.max, IntKind.signed, IntKind.bits] at w3)
  (simp [Lit.wf, IntKind.min, IntKind.max, IntKind.signed, IntKind.bits] at w4)
  exact ⟨⟨⟨a0, a1, v, a3, a4, l⟩, A, c, B, d⟩, rfl, hv, hE, hn, w0, w1, w3, w4⟩
set_option maxRecDepth 100000 in
theorem rop_open (cs : List Value) (y : DataW H × List MemPlace) (n : Nat) (h : DataW.trod enc Try.prog w base (fun _ => true) held n 37 cs = some y) (hw : ∀ z ∈ y.1.weights Try.prog 37, z ≤ reachBytes) :
    ∃ q : ROp, cs = q.cells ∧ q.ok w := by
  obtain ⟨xs, n, rfl, rfl, hl, hxl, hf⟩ := DataW.trod_struct Try.underlying37 h
  rw [show Try.prog.cellsOf 37 = 14 by kernel_rfl] at hl
  obtain ⟨v0, v1, v2, v3, v4, v5, v6, v7, v8, v9, v10, v11, v12, v13, rfl⟩ := len14 _ hl
  obtain ⟨y0, y1, y2, y3, y4, rfl⟩ := len5 _ hxl
  have q1 : Try.prog.cellsOf 3 = 1 := by kernel_rfl
  have q2 : Try.prog.cellsOf 31 = 3 := by kernel_rfl
  have q3 : Try.prog.cellsOf 32 = 1 := by kernel_rfl
  have q4 : Try.prog.cellsOf 35 = 8 := by kernel_rfl
  have g0 := hf 0 _ rfl
  have g1 := hf 1 _ rfl
  have g2 := hf 2 _ rfl
  have g3 := hf 3 _ rfl
  have g4 := hf 4 _ rfl
  simp [q1] at g0 g3
  simp [q2] at g1
  simp [q3] at g2
  simp [q4] at g4
  simp only [DataW.weights, Try.underlying37, List.map_cons, List.map_nil, DataW.weightsEach, List.nil_append, List.mem_append] at hw
  obtain ⟨a0, e0, rfl, w0⟩ := DataW.trod_int Try.underlying3 g0
  obtain ⟨⟨v, A, c⟩, e1, hv⟩ := vw_open g1 (fun z hz => hw z (by simp [hz]))
  obtain ⟨u, t, e2, hB, hn⟩ := bsl_open g2 (fun z hz => hw z (by simp [hz]))
  obtain ⟨a3, e3, rfl, w3⟩ := DataW.trod_int Try.underlying3 g3
  obtain ⟨⟨m, A', c', B, d⟩, e4, hm⟩ := msg_open g4 (fun z hz => hw z (by simp [hz]))
  simp [RVw.cells, RMg.cells] at e0 e1 e2 e3 e4
  obtain ⟨rfl, rfl, rfl⟩ := e1
  obtain ⟨rfl, rfl, rfl, rfl, rfl, rfl, rfl, rfl⟩ := e4
  subst e0 e2 e3
  (simp [Lit.wf, IntKind.min, IntKind.max, IntKind.signed, IntKind.bits] at w0)
  (simp [Lit.wf, IntKind.min, IntKind.max, IntKind.signed, IntKind.bits] at w3)
  exact ⟨⟨a0, ⟨v, A, c⟩, v4, t, a3, ⟨m, A', c', B, d⟩⟩, rfl, hv, hB, hn, hm, w3⟩
set_option maxRecDepth 100000 in
theorem rops_open {W : World} {base : Nat} {d : DataW H} {p : List MemPlace} {v : Value} (hv : Value.okWide Try.prog W .any base 22 v) (h : DataW.Trod enc Try.prog W 0 (fun _ => true) true 22 v d p) (hw : ∀ z ∈ d.weights Try.prog 22, z ≤ reachBytes) :
    ∃ A n c l, v = .slice A n c ∧ n ≤ c ∧ c ≤ maxLen ∧ Reads W W.heap.size 14 A n (rowsV ROp.cells l) ∧ l.length = n ∧ ∀ x ∈ l, x.ok W := by
  obtain ⟨A, n, c, rfl⟩ := okWide_slice Try.underlying22 hv
  obtain ⟨fuel, hf⟩ := h
  obtain ⟨A', n', c', l, hcs, h1, h2, _, h3, h4, h5, _⟩ := slice_trod (f := ROp.cells) (k := 14) (ok := fun q => q.ok W) (by omega) ROp.len Try.underlying22 (by kernel_rfl) rop_open hf hw
  simp [Value.cells] at hcs
  obtain ⟨rfl, rfl, rfl⟩ := hcs
  exact ⟨_, _, _, l, rfl, h1, h2, h3, h5, h4⟩
end
end Go.Proofs.Ytjhcgnmibnjocaa
