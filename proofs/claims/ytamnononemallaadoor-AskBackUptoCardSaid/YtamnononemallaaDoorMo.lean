import Derived.Test.YtamnononemallaaDoorGD
import Derived.Test.YtamnononemallaaDoorGA
import Derived.Test.YtamnononemallaaDoorPq3
import Derived.Deep.Slices
/-! Arguments as they are read: labels, rules, a text; what their bound gives. -/
namespace Go.Proofs.YtamnononemallaaDoor
open Go.RowKit
set_option linter.unusedVariables false
set_option linter.unusedSimpArgs false
section
open Go.ChangeShapes Go.WideShapes Go.ChangeAt Go.Joins
variable {H : Type} {enc : TypeId × Value → H} {w : World} {base : Nat} {held : Bool} {spare : Nat → Bool}
set_option maxRecDepth 100000 in
theorem str_open3 {W : World} {base : Nat} {d : DataW H} {p : List MemPlace} {v : Value} {sp : Nat → Bool} (hv : Value.okWide Tryd.prog W .any base 9 v) (h : DataW.Trod enc Tryd.prog W 0 sp true 9 v d p) : ∃ s : ByteArray, v = .string s ∧ s.size ≤ maxLen ∧ d = .lit (.string s.data.toList) := by
  obtain ⟨s, rfl⟩ := okWide_string Tryd.underlying9 hv
  obtain ⟨fuel, hf⟩ := h
  obtain ⟨a, e, hx, w⟩ := DataW.trod_string Tryd.underlying9 hf
  simp [Value.cells] at e
  subst e
  exact ⟨_, rfl, w, congrArg Prod.fst hx⟩
set_option maxRecDepth 100000 in
theorem rul_trod {fuel : Nat} {cs : List Value} {x : DataW H × List MemPlace} (h : DataW.trod enc Tryd.prog w base spare held fuel 59 cs = some x) : ∃ it : Rul, cs = it.cells ∧ it.ok ∧ x.1 = .agg [.lit (.string it.a.data.toList), .lit (.int .i64 it.op), .lit (.string it.b.data.toList)] := by
  obtain ⟨xs, n, rfl, rfl, hl, hxl, hf⟩ := DataW.trod_struct Tryd.underlying59 h
  rw [show Tryd.prog.cellsOf 59 = 3 by kernel_rfl] at hl
  obtain ⟨v0, v1, v2, rfl⟩ := list3 hl
  obtain ⟨y0, y1, y2, rfl⟩ := list3 hxl
  have q5 : Tryd.prog.cellsOf 9 = 1 := by kernel_rfl
  have q1 : Tryd.prog.cellsOf 3 = 1 := by kernel_rfl
  have g0 := hf 0 _ rfl
  have g1 := hf 1 _ rfl
  have g2 := hf 2 _ rfl
  simp [q5, q1] at g0
  simp [q5, q1] at g1
  simp [q5, q1] at g2
  obtain ⟨a0, e0, rfl, w0⟩ := DataW.trod_string Tryd.underlying9 g0
  obtain ⟨a1, e1, rfl, w1⟩ := DataW.trod_int Tryd.underlying3 g1
  obtain ⟨a2, e2, rfl, w2⟩ := DataW.trod_string Tryd.underlying9 g2
  simp at e0 e1 e2
  subst e0 e1 e2
  simp [Lit.wf, IntKind.min, IntKind.max, IntKind.signed, IntKind.bits] at w1
  exact ⟨⟨a0, a1, a2⟩, rfl, ⟨w0, w2, w1⟩, by simp⟩
set_option maxRecDepth 100000 in
theorem ruls_open {W : World} {base : Nat} {d : DataW H} {p : List MemPlace} {v : Value} (hv : Value.okWide Tryd.prog W .any base 22 v) (h : DataW.Trod enc Tryd.prog W 0 (fun _ => true) true 22 v d p) :
    ∃ l, Rz W v l ∧ (∀ x ∈ l, x.ok) ∧ (l = [] ∨ ∃ es sp, d = .slice es sp ∧ es.length = l.length ∧ ∀ (i : Nat) (x : Rul), l[i]? = some x → es[i]? = some (.agg [.lit (.string x.a.data.toList), .lit (.int .i64 x.op), .lit (.string x.b.data.toList)])) := by
  obtain ⟨A, n, c, rfl⟩ := okWide_slice Tryd.underlying22 hv
  obtain ⟨fuel, hf⟩ := h
  rcases Deep.open_slice Tryd.underlying22 hf with ⟨hcs, hx⟩ | ⟨a, len, cap, m, k, D, Pl, hcs, _, hle, hcap, hmm, hx, hcell⟩
  · simp [Value.cells] at hcs
    obtain ⟨rfl, rfl, rfl⟩ := hcs
    exact ⟨[], Rz.nil _, (fun q hq => by cases hq), .inl rfl⟩
  · simp [Value.cells] at hcs
    obtain ⟨rfl, rfl, rfl⟩ := hcs
    simp only [if_true] at hmm
    have hd : d = .slice ((List.range n).map D) ((List.range (m - n)).map fun j => D (n + j)) := congrArg Prod.fst hx
    have hint : ∀ i, i < n → ∃ q : Rul, (∀ k u, q.cells[k]? = some u → W.cell? (a.add (i * 3 + k)) = some u) ∧ q.ok ∧ D i = .agg [.lit (.string q.a.data.toList), .lit (.int .i64 q.op), .lit (.string q.b.data.toList)] := fun i hi => by
      obtain ⟨cs', h1, h2⟩ := hcell i (by omega)
      rw [show Tryd.prog.cellsOf 59 = 3 by kernel_rfl] at h1
      obtain ⟨_, hlen, hc⟩ := World.cells?_some h1
      obtain ⟨q, rfl, hq, hD⟩ := rul_trod h2
      refine ⟨q, fun k u hu => ?_, hq, hD⟩
      have hk : k < 3 := (List.getElem?_eq_some_iff.1 hu).1
      have := hc k hk
      rw [add_of_add] at this
      rw [this, hu]
    obtain ⟨f, hf⟩ := Deep.choose_lt hint
    refine ⟨(List.range n).map f, ⟨some a, c, by simp, by simp; omega, by omega, (fun e => by cases e), ⟨by rw [rsV_length], fun hn => ⟨a, rfl, ?_, fun j u hu => ?_⟩⟩⟩, fun q hq => ?_, .inr ⟨_, _, hd, by simp, fun i x hx => ?_⟩⟩
    · have hn' : 0 < n := by simpa using hn
      have := World.block_lt_of_cell? _ _ ((hf 0 hn').1 0 _ rfl)
      rwa [block_of_add] at this
    · have hn' : 0 < n := by simpa using hn
      obtain ⟨i, k, hi, hk, rfl, hc⟩ := rowsV_row Rul.len (by omega) n f j u hu
      exact (hf i hi).1 k u hc
    · obtain ⟨i, hi, rfl⟩ := List.mem_map.1 hq
      exact (hf i (by simpa using hi)).2.1
    · have hi : i < n := by have := (List.getElem?_eq_some_iff.1 hx).1; simpa using this
      rw [List.getElem?_map, List.getElem?_range hi] at hx ⊢
      cases hx
      rw [Option.map_some, (hf i hi).2.2]
theorem rul_bytes : Tryd.prog.bytesOf 59 = 40 := by kernel_rfl
theorem ruls_weight {d : DataW H} {l : List Rul} (hw : ∀ z ∈ d.weights Tryd.prog 22, z ≤ reachBytes) (hn : l = [] ∨ ∃ es sp, d = .slice es sp ∧ es.length = l.length ∧ ∀ (i : Nat) (x : Rul), l[i]? = some x → es[i]? = some (.agg [.lit (.string x.a.data.toList), .lit (.int .i64 x.op), .lit (.string x.b.data.toList)])) : l.length * 40 ≤ 140737488351232 := by
  rcases hn with rfl | ⟨es, sp, rfl, hle, _⟩
  · simp
  · have := hw ((es.length + sp.length) * 40) (by simp [DataW.weights, Tryd.underlying22, rul_bytes])
    have h2 : reachBytes = 140737488351232 := by decide
    omega
def szR : List Rul → Nat
  | [] => 0
  | x :: l => x.a.size + 2 * x.b.size + 5 + szR l
theorem rulB_len (x : Rul) : (rulB x).length + 1 ≤ x.a.size + 2 * x.b.size + 5 := by
  have h := qB_len x.b.data.toList
  have e := Lib.size_eq x.b
  have e1 := Lib.size_eq x.a
  have e2 := sgO_len x.op
  simp only [rulB, qL, List.length_cons, List.length_append, List.length_nil]
  omega
theorem rjt_szR : ∀ l : List Rul, (rjt l).length ≤ szR l
  | [] => Nat.le_refl _
  | x :: l => by
    have ih := rjt_szR l
    have h := rulB_len x
    simp only [rjt, szR, List.length_cons, List.length_append]
    omega
theorem rj_szR : ∀ l : List Rul, (rj l).length ≤ szR l
  | [] => Nat.le_refl _
  | x :: l => by
    have ih := rjt_szR l
    have h := rulB_len x
    simp only [rj, szR, List.length_append]
    omega
theorem szR_mem : ∀ {l : List Rul} {x : Rul}, x ∈ l → x.a.size + 2 * x.b.size + 5 ≤ szR l
  | [], _, h => by cases h
  | y :: l, x, h => by
    simp only [szR]
    rcases List.mem_cons.1 h with rfl | h
    · omega
    · have := szR_mem h; omega
theorem szR_len : ∀ l : List Rul, l.length ≤ szR l
  | [] => Nat.le_refl _
  | x :: l => by have := szR_len l; simp only [szR, List.length_cons]; omega
theorem shortR_of {l : List Rul} (h : szR l ≤ 100000000) : ShortR l :=
  ⟨fun x hx => by have := szR_mem hx; omega, by have := rj_szR l; omega⟩
def szP : List Par → Nat
  | [] => 0
  | x :: l => x.a.size + x.b.size + 1 + szP l
theorem szP_mem : ∀ {l : List Par} {x : Par}, x ∈ l → x.a.size + x.b.size + 1 ≤ szP l
  | [], _, h => by cases h
  | y :: l, x, h => by
    simp only [szP]
    rcases List.mem_cons.1 h with rfl | h
    · omega
    · have := szP_mem h; omega
theorem szP_len : ∀ l : List Par, l.length ≤ szP l
  | [] => Nat.le_refl _
  | x :: l => by have := szP_len l; simp only [szP, List.length_cons]; omega
theorem bulk_ruls : ∀ (l : List Rul) (es : List (DataW H)), (∀ (i : Nat) (x : Rul), l[i]? = some x → es[i]? = some (.agg [.lit (.string x.a.data.toList), .lit (.int .i64 x.op), .lit (.string x.b.data.toList)])) → szR l ≤ 5 * Rows.uptoBulkAll es
  | [], es, _ => by simp [szR]
  | x :: l, es, h => by
    have h0 := h 0 x rfl
    cases es with
    | nil => cases h0
    | cons e es =>
      have h1 : e = .agg [.lit (.string x.a.data.toList), .lit (.int .i64 x.op), .lit (.string x.b.data.toList)] := by simpa using h0
      have ih := bulk_ruls l es (fun i y hy => by have := h (i + 1) y (by simpa using hy); simpa using this)
      have h2 := bulk_parts (H := H) [.lit (.string x.a.data.toList), .lit (.int .i64 x.op), .lit (.string x.b.data.toList)]
      rw [← h1] at h2
      simp only [Rows.uptoBulkAll, bulk_string] at h2 ⊢
      have e1 := Lib.size_eq x.a
      have e2 := Lib.size_eq x.b
      simp only [szR]
      omega
theorem bulk_pars : ∀ (l : List Par) (es : List (DataW H)), (∀ (i : Nat) (x : Par), l[i]? = some x → es[i]? = some (.agg [.lit (.string x.a.data.toList), .lit (.string x.b.data.toList)])) → szP l ≤ Rows.uptoBulkAll es
  | [], es, _ => by simp [szP]
  | x :: l, es, h => by
    have h0 := h 0 x rfl
    cases es with
    | nil => cases h0
    | cons e es =>
      have h1 : e = .agg [.lit (.string x.a.data.toList), .lit (.string x.b.data.toList)] := by simpa using h0
      have ih := bulk_pars l es (fun i y hy => by have := h (i + 1) y (by simpa using hy); simpa using this)
      have h2 := bulk_parts (H := H) [.lit (.string x.a.data.toList), .lit (.string x.b.data.toList)]
      rw [← h1] at h2
      simp only [Rows.uptoBulkAll, bulk_string] at h2 ⊢
      have e1 := Lib.size_eq x.a
      have e2 := Lib.size_eq x.b
      simp only [szP]
      omega
/-- Rules that are within the bound: how much they come to. -/
theorem ruls_small {l : List Rul} {d : DataW H} (hd : l = [] ∨ ∃ es sp, d = .slice es sp ∧ es.length = l.length ∧ ∀ (i : Nat) (x : Rul), l[i]? = some x → es[i]? = some (.agg [.lit (.string x.a.data.toList), .lit (.int .i64 x.op), .lit (.string x.b.data.toList)])) (hk : Rows.uptoBulk d ≤ 1048576) : szR l ≤ 5242880 := by
  rcases hd with rfl | ⟨es, sp, rfl, _, he⟩
  · simp [szR]
  · have h2 := bulk_ruls l es he
    have h3 := bulk_elems es sp
    omega
theorem pars_small {l : List Par} {d : DataW H} (hd : l = [] ∨ ∃ es sp, d = .slice es sp ∧ es.length = l.length ∧ ∀ (i : Nat) (x : Par), l[i]? = some x → es[i]? = some (.agg [.lit (.string x.a.data.toList), .lit (.string x.b.data.toList)])) (hk : Rows.uptoBulk d ≤ 1048576) : szP l ≤ 1048576 := by
  rcases hd with rfl | ⟨es, sp, rfl, _, he⟩
  · simp [szP]
  · have h2 := bulk_pars l es he
    have h3 := bulk_elems es sp
    omega
end
end Go.Proofs.YtamnononemallaaDoor
