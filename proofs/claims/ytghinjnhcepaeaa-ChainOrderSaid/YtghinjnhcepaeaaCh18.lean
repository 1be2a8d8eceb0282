import Derived.Test.YtghinjnhcepaeaaCh17
import Derived.Deep.Slices
import Derived.ChangeSame
/-! Versions that were handed in; whether any version may be. -/
namespace Go.Proofs.Ytghinjnhcepaeaa
open Go.RowKit
set_option linter.unusedVariables false
set_option linter.unusedSimpArgs false
theorem list4 {α : Type} : ∀ {D : List α}, D.length = 4 → ∃ a b c d, D = [a, b, c, d]
  | [a, b, c, d], _ => ⟨a, b, c, d, rfl⟩
theorem list6 {α : Type} : ∀ {D : List α}, D.length = 6 → ∃ a b c d e f, D = [a, b, c, d, e, f]
  | [a, b, c, d, e, f], _ => ⟨a, b, c, d, e, f, rfl⟩
section
open Go.ChangeShapes Go.WideShapes Go.ChangeAt
variable {H : Type} {enc : TypeId × Value → H} {w : World} {base : Nat} {held : Bool} {spare : Nat → Bool}
set_option maxRecDepth 100000 in
theorem ver_trod {fuel : Nat} {cs : List Value} {x : DataW H × List MemPlace} (h : DataW.trod enc Try.prog w base spare held fuel 26 cs = some x) : ∃ it : Ver, cs = it.cells ∧ it.ok := by
  obtain ⟨xs, n, rfl, rfl, hl, hxl, hf⟩ := DataW.trod_struct Try.underlying26 h
  rw [show Try.prog.cellsOf 26 = 6 by kernel_rfl] at hl
  obtain ⟨v0, v1, v2, v3, v4, v5, rfl⟩ := list6 hl
  obtain ⟨y0, y1, y2, y3, rfl⟩ := list4 hxl
  have q1 : Try.prog.cellsOf 3 = 1 := by kernel_rfl
  have q3 : Try.prog.cellsOf 2 = 1 := by kernel_rfl
  have q5 : Try.prog.cellsOf 9 = 1 := by kernel_rfl
  have q6 : Try.prog.cellsOf 24 = 3 := by kernel_rfl
  have q7 : Try.prog.cellsOf 22 = 1 := by kernel_rfl
  have g0 := hf 0 _ rfl
  have g1 := hf 1 _ rfl
  have g2 := hf 2 _ rfl
  have g3 := hf 3 _ rfl
  simp [q6] at g0
  simp [q1] at g1
  simp [q3] at g2
  simp [q5] at g3
  obtain ⟨a3, e3, rfl, w3⟩ := DataW.trod_int Try.underlying3 g1
  obtain ⟨a4, e4, rfl, w4⟩ := DataW.trod_int Try.underlying2 g2
  obtain ⟨a5, e5, rfl, w5⟩ := DataW.trod_string Try.underlying9 g3
  obtain ⟨zs, m, rfl, rfl, hzl, hzs, hz⟩ := DataW.trod_struct Try.underlying24 g0
  obtain ⟨z0, z1, z2, rfl⟩ := list3 hzs
  have k0 := hz 0 _ rfl
  have k1 := hz 1 _ rfl
  have k2 := hz 2 _ rfl
  simp [q3] at k0
  simp [q7] at k1
  simp [q7] at k2
  obtain ⟨a0, e0, rfl, w0⟩ := DataW.trod_int Try.underlying2 k0
  obtain ⟨a1, e1, rfl, w1⟩ := DataW.trod_int Try.underlying22 k1
  obtain ⟨a2, e2, rfl, w2⟩ := DataW.trod_int Try.underlying22 k2
  simp at e0 e1 e2 e3 e4 e5
  subst e0 e1 e2 e3 e4 e5
  simp [Lit.wf, IntKind.min, IntKind.max, IntKind.signed, IntKind.bits] at w0 w1 w2 w3 w4
  exact ⟨⟨a0, a1, a2, a3, a4, a5⟩, rfl, w0, w1, w2, w3, w4, w5⟩
set_option maxRecDepth 100000 in
theorem vers_open {W : World} {base : Nat} {d : DataW H} {p : List MemPlace} {v : Value} (hv : Value.okWide Try.prog W .any base 34 v) (h : DataW.Trod enc Try.prog W 0 (fun _ => true) true 34 v d p) :
    ∃ A n c l, v = .slice A n c ∧ n ≤ c ∧ c ≤ maxLen ∧ Reads W W.heap.size 6 A n (rowsV Ver.cells l) ∧ ∀ x ∈ l, x.ok := by
  obtain ⟨A, n, c, rfl⟩ := okWide_slice Try.underlying34 hv
  obtain ⟨fuel, hf⟩ := h
  rcases Deep.open_slice Try.underlying34 hf with ⟨hcs, hx⟩ | ⟨a, len, cap, m, k, D, Pl, hcs, _, hle, hcap, hmm, hx, hcell⟩
  · simp [Value.cells] at hcs
    obtain ⟨rfl, rfl, rfl⟩ := hcs
    exact ⟨none, 0, 0, [], rfl, by omega, by unfold maxLen; omega, Reads.none_, (fun q hq => by cases hq)⟩
  · simp [Value.cells] at hcs
    obtain ⟨rfl, rfl, rfl⟩ := hcs
    simp only [if_true] at hmm
    have hd : d = .slice ((List.range n).map D) ((List.range (m - n)).map fun j => D (n + j)) := congrArg Prod.fst hx
    have hint : ∀ i, i < n → ∃ q : Ver, (∀ k u, q.cells[k]? = some u → W.cell? (a.add (i * 6 + k)) = some u) ∧ q.ok := fun i hi => by
      obtain ⟨cs', h1, h2⟩ := hcell i (by omega)
      rw [show Try.prog.cellsOf 26 = 6 by kernel_rfl] at h1
      obtain ⟨_, hlen, hc⟩ := World.cells?_some h1
      obtain ⟨q, rfl, hq⟩ := ver_trod h2
      refine ⟨q, fun k u hu => ?_, hq⟩
      have hk : k < 6 := (List.getElem?_eq_some_iff.1 hu).1
      have := hc k hk
      rw [add_of_add] at this
      rw [this, hu]
    obtain ⟨f, hf⟩ := Deep.choose_lt hint
    refine ⟨some a, n, c, (List.range n).map f, rfl, by omega, by omega, ⟨by rw [rowsV_length Ver.len]; simp, fun hn => ⟨a, rfl, ?_, fun j u hu => ?_⟩⟩, fun q hq => ?_⟩
    · have := World.block_lt_of_cell? _ _ ((hf 0 hn).1 0 _ rfl)
      rwa [block_of_add] at this
    · obtain ⟨i, k, hi, hk, rfl, hc⟩ := rowsV_row Ver.len (by omega) n f j u hu
      exact (hf i hi).1 k u hc
    · obtain ⟨i, hi, rfl⟩ := List.mem_map.1 hq
      exact (hf i (by simpa using hi)).2
end
set_option maxRecDepth 100000 in
set_option maxHeartbeats 4000000 in
theorem law_rights (x : Ver) (w : World) :
    Calls Try.prog 3 #[.agg #[.int .i64 x.a, .int .u32 x.b, .int .u32 x.c, .int .i64 x.kd, .int .i64 x.num, .string x.text]] w fun e w' => e = .returned (.bool true) ∧ Below w.heap.size w w' := by
  go_enter Try.func3, Try.ntmps3
  go_wp2
  refine wp_region_ext_lit (by kernel_rfl) (by kernel_rfl) ?_
  (repeat (first | ((with_reducible refine wpQuiet_step (fun K hK => ?_)); go_simp; first | ((with_reducible refine hK _ ?_); clear hK K) | (apply Exists.intro; (with_reducible refine ⟨fun _ => ?_, hK _ ?_⟩); first | (go_at_call 8; exact Calls.ext_of (chawake_any _)) | (go_at_call 10; exact Calls.ext_of (vto_any _ _)) | (go_at_call 9; exact Calls.ext_of (vright_any _ _)) | (go_at_call 11; exact Calls.ext_of (rright10_any _ _)); clear hK K)) | ((with_reducible refine quiet_skipN ?_ (fun K hK => ?_)); (rfl); go_simp; (with_reducible refine hK _ ?_); clear hK K)))
  (with_reducible refine wpQuiet_nil ?_); intro _ hw'; obtain ⟨X, hw''⟩ := hw'; subst hw''
  go_wp2
  go_ret
  exact ⟨rfl, by (repeat' (first | with_reducible exact Below.refl _ _ | with_reducible refine Below.ext ?_ ?_ _ | with_reducible refine Below.alloc ?_ ?_ _ | with_reducible refine Below.setCell ?_ ?_ _ | with_reducible refine Below.drew ?_ | with_reducible assumption | (simp [World.size_ext]; done) | (simp [World.size_ext]; omega)))⟩
section
open Go.ChangeShapes Go.WideShapes Go.ChangeAt Go.Joins
variable {H : Type} {enc : TypeId × Value → H}
set_option maxRecDepth 100000 in
theorem ver_open {W : World} {base : Nat} {d : DataW H} {p : List MemPlace} {v : Value} {sp : Nat → Bool} (hv : Value.okWide Try.prog W .any base 26 v) (h : DataW.Trod enc Try.prog W 0 sp true 26 v d p) :
    ∃ x : Ver, v = .agg #[.int .i64 x.a, .int .u32 x.b, .int .u32 x.c, .int .i64 x.kd, .int .i64 x.num, .string x.text] ∧ x.ok := by
  obtain ⟨cs, rfl, hsz⟩ := okWide_struct Try.underlying26 hv
  obtain ⟨fuel, hf⟩ := h
  obtain ⟨x, hx, hok⟩ := ver_trod hf
  refine ⟨x, ?_, hok⟩
  simp only [Value.cells] at hx
  have : cs = (Ver.cells x).toArray := by rw [← hx]
  rw [this]
  rfl
set_option maxRecDepth 100000 in
theorem chainRights_walk : LawWalk enc Try.prog 3 Try.f3 := by
  intro W base args ds ps hval hA hlt _
  rw [Try.params3] at hA hval
  obtain ⟨v0, d0, rfl, rfl, h0⟩ := trodAll_one hA
  obtain ⟨x, rfl, hx⟩ := ver_open (hval 0 _ v0 rfl rfl) h0
  exact law_rights x W
set_option maxRecDepth 100000 in
theorem chainRights_lifted (os : Os) (started : os.Started) (H : Type) (enc : TypeId × Value → H) :
    ReturnsInHanded {} Try.checked os 3 .any (Rows.chainRightsSpec.pre6 enc Try.prog Try.f3 Rows.chainRightsRow.domain false) (Rows.chainRightsSpec.post enc Try.prog Try.f3 false true false false) :=
  law_lifted (C := Try.checked) own started (by kernel_rfl) Try.func3 laidOut (by kernel_rfl) rfl Try.underlying4 rfl
    (fun ds h => by obtain ⟨d0, rfl⟩ := list1 h; rfl)
    (ChangeSpec.witness6 (enc := enc) (C := Try.checked) false ⟨#[], #[.agg #[.int .i64 0, .int .u32 0, .int .u32 0, .int .i64 0, .int .i64 0, .string ⟨#[]⟩]], []⟩ 8 (by kernel_rfl) (by kernel_rfl) (by kernel_rfl) (by kernel_rfl))
    chainRights_walk
theorem chainRights_holds : Rows.ChainRightsSaid :=
  OpenClaim.holds_of_wide 3 Try.f3 rfl rfl rfl rfl rfl rfl rfl ⟨rfl, rfl, rfl, rfl, rfl⟩ rfl rfl rfl rfl rfl (by kernel_rfl) Try.func3 (by kernel_rfl)
    (of_decide_eq_true (by kernel_rfl)) (by unfold Func.isWrapper; rw [if_neg (of_decide_eq_false (by kernel_rfl))]; exact ⟨rfl, rfl⟩)
    (fun os started H enc _ => chainRights_lifted os started H enc)
#print axioms chainRights_holds
end
end Go.Proofs.Ytghinjnhcepaeaa
