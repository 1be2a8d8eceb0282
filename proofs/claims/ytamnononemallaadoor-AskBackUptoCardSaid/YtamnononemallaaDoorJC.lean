import Derived.Test.YtamnononemallaaDoorJB
import Derived.SevenTiedAt
import Derived.Stop.Joined
/-! AskBack: a right query is read back from its text; a query that was read, written again, is what was read. Of a query and a text that are together of at most 1048576 letters and parts; the package's variables lie as they were laid. -/
namespace Go.Proofs.YtamnononemallaaDoor
open Go.RowKit
set_option linter.unusedVariables false
set_option linter.unusedSimpArgs false
section
open Go.ChangeShapes Go.WideShapes Go.ChangeAt Go.Joins
variable {H : Type} {enc : TypeId × Value → H} {w : World} {base : Nat} {held : Bool} {spare : Nat → Bool}
theorem list6' {α : Type} {l : List α} (h : l.length = 6) : ∃ a b c d e f, l = [a, b, c, d, e, f] := list6 h
set_option maxRecDepth 100000 in
theorem ruls_trod {W : World} {fuel : Nat} {cs : List Value} {y9 : DataW H × List MemPlace} (hf : DataW.trod enc Tryd.prog W 0 (fun _ => true) true fuel 22 cs = some y9) :
    ∃ v, cs = [v] ∧ ∃ l, Rz W v l ∧ (∀ x ∈ l, x.ok) ∧ (l = [] ∨ ∃ es sp, y9.1 = .slice es sp ∧ es.length = l.length ∧ ∀ (i : Nat) (x : Rul), l[i]? = some x → es[i]? = some (.agg [.lit (.string x.a.data.toList), .lit (.int .i64 x.op), .lit (.string x.b.data.toList)])):= by
  obtain ⟨A, n, c, rfl⟩ := slice_form Tryd.underlying22 hf
  refine ⟨_, rfl, ?_⟩
  rcases Deep.open_slice Tryd.underlying22 hf with ⟨hcs, hx⟩ | ⟨a, len, cap, m, k, D, Pl, hcs, _, hle, hcap, hmm, hx, hcell⟩
  · simp [Value.cells] at hcs
    obtain ⟨rfl, rfl, rfl⟩ := hcs
    exact ⟨[], Rz.nil _, (fun q hq => by cases hq), .inl rfl⟩
  · simp [Value.cells] at hcs
    obtain ⟨rfl, rfl, rfl⟩ := hcs
    simp only [if_true] at hmm
    have hd : y9.1 = .slice ((List.range n).map D) ((List.range (m - n)).map fun j => D (n + j)) := by rw [hx]
    have hint : ∀ i, i < n → ∃ q : Rul, (∀ k u, q.cells[k]? = some u → W.cell? (a.add (i * 3 + k)) = some u) ∧ q.ok ∧ D i = .agg [.lit (.string q.a.data.toList), .lit (.int .i64 q.op), .lit (.string q.b.data.toList)] := fun i hi => by
      obtain ⟨cs', h1, h2⟩ := hcell i (by omega)
      rw [show Tryd.prog.cellsOf 59 = 3 by kernel_rfl] at h1
      obtain ⟨_, hlen, hc⟩ := World.cells?_some h1
      obtain ⟨q, rfl, hq, hD⟩ := rul_trod h2
      refine ⟨q, fun k u hu => ?_, hq, hD⟩
      have hk : k < 3 := (List.getElem?_eq_some_iff.1 hu).1
      have := hc k hk
      rw [add_of_add] at this
      rw [this, hu]
    obtain ⟨f, hf⟩ := Deep.choose_lt hint
    refine ⟨(List.range n).map f, ⟨some a, c, by simp, by simp; omega, by omega, (fun e => by cases e), ⟨by rw [rsV_length], fun hn => ⟨a, rfl, ?_, fun j u hu => ?_⟩⟩⟩, fun q hq => ?_, .inr ⟨_, _, hd, by simp, fun i x hx => ?_⟩⟩
    · have hn' : 0 < n := by simpa using hn
      have := World.block_lt_of_cell? _ _ ((hf 0 hn').1 0 _ rfl)
      rwa [block_of_add] at this
    · have hn' : 0 < n := by simpa using hn
      obtain ⟨i, k, hi, hk, rfl, hc⟩ := rowsV_row Rul.len (by omega) n f j u hu
      exact (hf i hi).1 k u hc
    · obtain ⟨i, hi, rfl⟩ := List.mem_map.1 hq
      exact (hf i (by simpa using hi)).2.1
    · have hi : i < n := by have := (List.getElem?_eq_some_iff.1 hx).1; simpa using this
      rw [List.getElem?_map, List.getElem?_range hi] at hx ⊢
      cases hx
      rw [Option.map_some, (hf i hi).2.2]
set_option maxRecDepth 100000 in
theorem qry_open {W : World} {base : Nat} {v : Value} {d : DataW H} {p : List MemPlace} (hv : Value.okWide Tryd.prog W .any base 24 v) (h : DataW.Trod enc Tryd.prog W 0 (fun _ => true) true 24 v d p) (hk : Rows.uptoBulk d ≤ 1048576) :
    ∃ (q : Qy) (u : Value), v = .agg #[.int .i64 q.op, u, .int .i64 q.f, .int .i64 q.t, .int .i64 q.s, .bool q.n] ∧ Rz W u q.r ∧ q.ok ∧ szR q.r ≤ 5242880 := by
  obtain ⟨cs, rfl, hsz⟩ := okWide_struct Tryd.underlying24 hv
  obtain ⟨fuel, hf⟩ := h
  obtain ⟨xs, n, _, hx, hl, hxl, hf⟩ := DataW.trod_struct Tryd.underlying24 hf
  rw [show Tryd.prog.cellsOf 24 = 6 by kernel_rfl] at hl
  simp only [Value.cells] at hl
  obtain ⟨v0, v1, v2, v3, v4, v5, hcs⟩ := list6 hl
  obtain ⟨y0, y1, y2, y3, y4, y5, rfl⟩ := list6 hxl
  simp only [Value.cells, hcs] at hf
  have q5 : Tryd.prog.cellsOf 22 = 1 := by kernel_rfl
  have q1 : Tryd.prog.cellsOf 3 = 1 := by kernel_rfl
  have q2 : Tryd.prog.cellsOf 2 = 1 := by kernel_rfl
  have q3 : Tryd.prog.cellsOf 4 = 1 := by kernel_rfl
  have g0 := hf 0 _ rfl
  have g1 := hf 1 _ rfl
  have g2 := hf 2 _ rfl
  have g3 := hf 3 _ rfl
  have g4 := hf 4 _ rfl
  have g5 := hf 5 _ rfl
  simp [q5, q1, q2, q3] at g0
  simp [q5, q1, q2, q3] at g1
  simp [q5, q1, q2, q3] at g2
  simp [q5, q1, q2, q3] at g3
  simp [q5, q1, q2, q3] at g4
  simp [q5, q1, q2, q3] at g5
  obtain ⟨a0, e0, rfl, w0⟩ := DataW.trod_int Tryd.underlying3 g0
  obtain ⟨u, e1, l, hz, hok, hd⟩ := ruls_trod g1
  obtain ⟨a2, e2, rfl, w2⟩ := DataW.trod_int Tryd.underlying2 g2
  obtain ⟨a3, e3, rfl, w3⟩ := DataW.trod_int Tryd.underlying2 g3
  obtain ⟨a4, e4, rfl, w4⟩ := DataW.trod_int Tryd.underlying2 g4
  obtain ⟨a5, e5, rfl⟩ := DataW.trod_bool Tryd.underlying4 g5
  simp at e0 e1 e2 e3 e4 e5
  subst e0 e1 e2 e3 e4 e5
  simp [Lit.wf, IntKind.min, IntKind.max, IntKind.signed, IntKind.bits] at w0 w2 w3 w4
  have hb : Rows.uptoBulk y1.1 ≤ 1048576 := by
    have hd2 := congrArg Prod.fst hx
    simp only at hd2
    rw [hd2] at hk
    have h1 := bulk_part (H := H) (d := y1.1) (l := List.map (fun z => z.1) [(DataW.lit (Lit.int .i64 a0), []), y1, (DataW.lit (Lit.int .i64 a2), []), (DataW.lit (Lit.int .i64 a3), []), (DataW.lit (Lit.int .i64 a4), []), (DataW.lit (Lit.bool a5), [])]) (by simp)
    have h2 := bulk_parts (H := H) (List.map (fun z => z.1) [(DataW.lit (Lit.int .i64 a0), []), y1, (DataW.lit (Lit.int .i64 a2), []), (DataW.lit (Lit.int .i64 a3), []), (DataW.lit (Lit.int .i64 a4), []), (DataW.lit (Lit.bool a5), [])])
    omega
  exact ⟨⟨a0, l, a2, a3, a4, a5⟩, v1, by rw [← Array.toArray_toList (xs := cs), hcs], hz, ⟨hok, w0, w2, w3, w4⟩, ruls_small hd hb⟩
set_option maxRecDepth 100000 in
theorem askBack_walk : LawWalkX enc 3 Tryd.f3 := by
  intro W base args ds ps hval hA hlt _ hk hs hx
  rw [Tryd.params3] at hA hval hs
  obtain ⟨v0, v1, d0, d1, p0, p1, rfl, rfl, rfl, h0, h1⟩ := trodAll_two hA
  have hk' := bulk_bound hk
  simp only [Rows.uptoBulkAll] at hk'
  obtain ⟨q, u, rfl, hz, hok, hsz⟩ := qry_open (hval 0 _ v0 rfl rfl) h0 (by omega)
  obtain ⟨t, rfl, _, rfl⟩ := str_open3 (hval 1 _ v1 rfl rfl) h1
  simp only [bulk_string] at hk'
  have e1 := Lib.size_eq t
  have h3 := rj_szR q.r
  have h4 := szR_len q.r
  exact law_askBack q u t W hz hok (by omega) (by omega) (shortR_of (l := q.r) (by omega)) hx
set_option maxRecDepth 100000 in
theorem askBack_met (os : Os) : (Rows.OpenSpec.upto Rows.askBackSpec).preRow enc Tryd.prog Tryd.f3 [] false laidQ ((World.laidAll Tryd.prog os Rows.askBackUptoRow.laid).forCall (fun _ _ => 0) ⟨#[], #[.agg #[.int .i64 0, .slice none 0 0, .int .i64 0, .int .i64 0, .int .i64 0, .bool false], .string ⟨#[]⟩], []⟩).memory #[.agg #[.int .i64 0, .slice none 0 0, .int .i64 0, .int .i64 0, .int .i64 0, .bool false], .string ⟨#[]⟩] := by
  have hw : (DataW.whole enc Tryd.prog ((World.laidAll Tryd.prog os Rows.askBackUptoRow.laid).forCall (fun _ _ => 0) ⟨#[], #[.agg #[.int .i64 0, .slice none 0 0, .int .i64 0, .int .i64 0, .int .i64 0, .bool false], .string ⟨#[]⟩], []⟩).memory Tryd.f3.params.toList (Rows.OpenSpec.upto Rows.askBackSpec).vars false (#[.agg #[.int .i64 0, .slice none 0 0, .int .i64 0, .int .i64 0, .int .i64 0, .bool false], .string ⟨#[]⟩] : Array Value).toList 8).map (fun x => (x.1, x.2.1)) =
      some ([.agg [.lit (.int .i64 0), .nil, .lit (.int .i64 0), .lit (.int .i64 0), .lit (.int .i64 0), .lit (.bool false)], .lit (.string [])], []) := by kernel_rfl
  obtain ⟨⟨x1, x2, x3⟩, hx, hx1⟩ := Option.map_eq_some_iff.1 hw
  simp only [Prod.mk.injEq] at hx1
  obtain ⟨rfl, rfl⟩ := hx1
  exact OpenSpec.preRow_of_cond 8 hx (by kernel_rfl) (fun k hk => by cases hk; rfl) (by kernel_rfl) (by
    unfold laidQ
    rw [MakeChecks.laidMetH_plain _ _ _ (by kernel_rfl)]
    exact laidMet_laidAll _ (by kernel_rfl) (by kernel_rfl))
set_option maxRecDepth 100000 in
theorem askBack_lifted (os : Os) (started : os.Started) (H : Type) (enc : TypeId × Value → H) (F : Stop.Interp) :
    ReturnsInHanded {} Tryd.checked os 3 .any ((Rows.OpenSpec.upto Rows.askBackSpec).preRow enc Tryd.checked.prog Tryd.f3 [] false laidQ) (((Rows.OpenSpec.upto Rows.askBackSpec).at F).post enc Tryd.checked.prog Tryd.f3 false true false false) :=
  law_lifted_x (s := Rows.OpenSpec.upto Rows.askBackSpec) (s0 := Rows.askBackSpec) rfl rfl own started (by kernel_rfl) Tryd.func3 (by kernel_rfl) rfl Tryd.underlying4 rfl rfl rfl
    (fun ds h => by obtain ⟨d0, d1, rfl⟩ := list2 h; rfl)
    ⟨World.laidAll Tryd.prog os Rows.askBackUptoRow.laid, fun _ _ => 0, ⟨#[], #[.agg #[.int .i64 0, .slice none 0 0, .int .i64 0, .int .i64 0, .int .i64 0, .bool false], .string ⟨#[]⟩], []⟩, World.laidAll_os _ _ _, World.shaped_of_ZipB (by kernel_rfl) (by kernel_rfl),
      rfl, (Input.okWide_of_okWideB (by kernel_rfl)).2, askBack_met os, by
        simp only [Assume.holds]
        exact ⟨by simp, by simp, fun _ => Modest.zero, by simp, by simp⟩⟩
    askBack_walk
theorem askBack_row : Rows.AskBackUptoSaid :=
  OpenClaim.holds_of_cond 3 Tryd.f3 rfl rfl rfl rfl rfl rfl rfl ⟨rfl, rfl, rfl, rfl, rfl⟩ rfl rfl rfl rfl rfl (by kernel_rfl) Tryd.func3 (by kernel_rfl)
    (of_decide_eq_true (by kernel_rfl)) (by unfold Func.isWrapper; rw [if_neg (of_decide_eq_false (by kernel_rfl))]; exact ⟨rfl, rfl⟩)
    (fun os started H enc _ F => by rw [OpenClaim.pre_eq_preRow]; exact askBack_lifted os started H enc F)
theorem askBack_holds : Rows.AskBackUptoCardSaid :=
  Claim7.holds_tied_plain_at .later [] [.data, .data, .data, .data, .sentinel, .sentinel, .data, .widerDeep, .pinned] true Rows.askBackUptoCard.stood.harness true
    askBack_row (fun _ h => by cases h) (by kernel_rfl) (fun _ h => by cases h) askBackUpto_row_tie rfl ⟨rfl, rfl⟩ (by kernel_rfl) rfl
    (fun f fn hf hfn => by
      obtain rfl : f = 3 := Option.some.inj ((show Tryd.prog.funcNamed "slackwater/slackwaterlaw13.AskBack" = some 3 by kernel_rfl).symm.trans hf) |>.symm
      obtain rfl : fn = Tryd.f3 := (Option.some.inj (Tryd.func3.symm.trans hfn)).symm
      exact ⟨by kernel_rfl, fun j t ht => by
        rw [Tryd.params3] at ht
        have hm : t ∈ [24, 9] := by simpa using Array.mem_of_getElem? ht
        have hall : ([24, 9].all fun u => !Tryd.prog.wantsStandIn u) = true := by kernel_rfl
        exact (show Tryd.prog.wantsStandIn t = false by simpa using List.all_eq_true.1 hall t hm)⟩)
    (by kernel_rfl)
#print axioms askBack_holds
end
end Go.Proofs.YtamnononemallaaDoor
