import Derived.Test.YthajbeooemngpaaVBytes
import Derived.Test.YthajbeooemngpaaVOps
/-! The law: whether any view may be; a view's bytes, and the view of any bytes. -/
namespace Go.Proofs.Ythajbeooemngpaa
open Go.RowKit
set_option linter.unusedVariables false
set_option linter.unusedSimpArgs false
section
open Go.ChangeShapes Go.WideShapes Go.ChangeAt Go.Joins
variable {H : Type} {enc : TypeId × Value → H}
set_option maxRecDepth 100000 in
theorem cellsRefView : Try.prog.cellsOf 66 = 3 := by kernel_rfl
set_option maxRecDepth 100000 in
theorem rview_open {W : World} {base : Nat} {v : Value} {d : DataW H} {p : List MemPlace} (hv : Value.okWide Try.prog W .any base 66 v) (h : DataW.Trod enc Try.prog W 0 (fun _ => true) true 66 v d p) (hw : ∀ z ∈ d.weights Try.prog 66, z ≤ reachBytes) :
    ∃ (e q : Int) (A : Option Addr) (n c : Nat) (l : List Int), v = .agg #[.int .i64 e, .int .i64 q, .slice A n c] ∧ I64 e ∧ I64 q ∧ Reads W W.heap.size 1 A n (ints l) ∧ (∀ x ∈ l, I64 x) ∧ n * 8 ≤ 140737488355328 := by
  obtain ⟨c0, c1, c2, y0, y1, y2, m, rfl, rfl, rfl, hy0, hy1, hy2⟩ := open_agg3 Try.underlying66 (by kernel_rfl) cellsRefView hv h
  obtain ⟨a, e0, rfl, wa⟩ := DataW.trod_int Try.underlying3 hy0
  obtain ⟨b, e1, rfl, wb⟩ := DataW.trod_int Try.underlying3 hy1
  obtain ⟨A, n, c, l, e2, _, _, hr, hl, hb⟩ := ints_trod hy2
  simp at e0 e1 e2
  subst e0 e1 e2
  simp [Lit.wf, IntKind.min, IntKind.max, IntKind.signed, IntKind.bits] at wa wb
  refine ⟨a, b, A, n, c, l, rfl, wa, wb, hr, hl, ?_⟩
  have := ints_weight (d := y2.1) (fun z hz => hw z ?_) hb
  · omega
  · simp only [DataW.weights, Try.underlying66, List.map_cons, List.map_nil, DataW.weightsEach, List.nil_append]
    simp only [List.mem_append]
    exact .inl hz
set_option maxRecDepth 100000 in
theorem viewBytes_walk : LawWalkS enc Try.prog 14 Try.f14 := by
  intro W base args ds ps hval hA hlt _ hs
  rw [Try.params14] at hA hval hs
  obtain ⟨v0, v1, d0, d1, p0, p1, rfl, rfl, rfl, h0, h1⟩ := trodAll_two hA
  obtain ⟨e, p, A, n, c, l, rfl, he, hp, hr, hl, hn⟩ := rview_open (hval 0 _ v0 rfl rfl) h0 (weights_at hs (j := 0) rfl rfl)
  obtain ⟨Ab, cb, bs, rfl, hbc, hrb, hby, hnil, hbd⟩ := bytes_open2 Try.underlying23 Try.underlying5 (by kernel_rfl) (hval 1 _ v1 rfl rfl) h1 (fun x hx => hlt x (by simp [hx]))
  have hbb := bytes_bound hs (j := 1) Try.underlying23 (by kernel_rfl) rfl rfl hbd
  exact law_viewBytes e p A n c l Ab cb bs W hr hn he hp hl hrb hby hnil (by omega)
set_option maxRecDepth 100000 in
theorem viewBytes_lifted (os : Os) (started : os.Started) (H : Type) (enc : TypeId × Value → H) :
    ReturnsInHanded {} Try.checked os 14 .any (Rows.viewBytesSpec.pre6 enc Try.prog Try.f14 Rows.viewBytesRow.domain false) (Rows.viewBytesSpec.post enc Try.prog Try.f14 false true false false) :=
  law_lifted_sized (C := Try.checked) own started (by kernel_rfl) Try.func14 laidOut (by kernel_rfl) rfl Try.underlying4 rfl rfl
    (fun ds h => by obtain ⟨d0, d1, rfl⟩ := list2 h; rfl)
    (ChangeSpec.witness6 (enc := enc) (C := Try.checked) false ⟨#[], #[.agg #[.int .i64 0, .int .i64 0, .slice none 0 0], .slice none 0 0], []⟩ 8 (by kernel_rfl) (by kernel_rfl) (by kernel_rfl) (by kernel_rfl))
    viewBytes_walk
theorem viewBytes_holds : Rows.ViewBytesSaid :=
  OpenClaim.holds_of_wide 14 Try.f14 rfl rfl rfl rfl rfl rfl rfl ⟨rfl, rfl, rfl, rfl, rfl⟩ rfl rfl rfl rfl rfl (by kernel_rfl) Try.func14 (by kernel_rfl)
    (of_decide_eq_true (by kernel_rfl)) (by unfold Func.isWrapper; rw [if_neg (of_decide_eq_false (by kernel_rfl))]; exact ⟨rfl, rfl⟩)
    (fun os started H enc _ => viewBytes_lifted os started H enc)
#print axioms viewBytes_holds
end
end Go.Proofs.Ythajbeooemngpaa
