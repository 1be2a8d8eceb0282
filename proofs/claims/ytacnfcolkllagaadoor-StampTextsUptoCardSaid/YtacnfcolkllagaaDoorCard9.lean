import Derived.Test.YtacnfcolkllagaaDoorLaw9
import Derived.SevenTiedAt
import Derived.Stop.Joined
/-! StampTexts: the card. -/
namespace Go.Proofs.YtacnfcolkllagaaDoor
open Go.RowKit Go.ChangeShapes Go.WideShapes Go.ChangeAt Go.Joins
set_option linter.unusedVariables false
set_option linter.unusedSimpArgs false
def I64 (n : Int) : Prop := -9223372036854775808 ≤ n ∧ n ≤ 9223372036854775807
def U32 (n : Int) : Prop := 0 ≤ n ∧ n ≤ 4294967295
theorem cellsRefStamp : Tryd.prog.cellsOf 24 = 3 := by kernel_rfl
variable {H : Type} {enc : TypeId × Value → H}
theorem stamp_open {W : World} {base : Nat} {sp : Nat → Bool} {v : Value} {d : DataW H} {p : List MemPlace} (hv : Value.okWide Tryd.prog W .any base 24 v) (h : DataW.Trod enc Tryd.prog W 0 sp true 24 v d p) :
    ∃ a b c : Int, v = .agg #[.int .i64 a, .int .u32 b, .int .u32 c] ∧ I64 a ∧ U32 b ∧ U32 c := by
  obtain ⟨c0, c1, c2, y0, y1, y2, m, rfl, rfl, rfl, hy0, hy1, hy2⟩ := open_agg3 Tryd.underlying24 (by kernel_rfl) cellsRefStamp hv h
  obtain ⟨a, e0, rfl, wa⟩ := DataW.trod_int Tryd.underlying2 hy0
  obtain ⟨b, e1, rfl, wb⟩ := DataW.trod_int Tryd.underlying22 hy1
  obtain ⟨c, e2, rfl, wc⟩ := DataW.trod_int Tryd.underlying22 hy2
  simp at e0 e1 e2
  subst e0 e1 e2
  simp [Lit.wf, IntKind.min, IntKind.max, IntKind.signed, IntKind.bits] at wa wb wc
  exact ⟨a, b, c, rfl, wa, wb, wc⟩
theorem str_open2 {W : World} {base : Nat} {d : DataW H} {p : List MemPlace} {v : Value} {sp : Nat → Bool} (hv : Value.okWide Tryd.prog W .any base 9 v) (h : DataW.Trod enc Tryd.prog W 0 sp true 9 v d p) : ∃ s : ByteArray, v = .string s ∧ s.size ≤ maxLen ∧ d = .lit (.string s.data.toList) := by
  obtain ⟨s, rfl⟩ := okWide_string Tryd.underlying9 hv
  obtain ⟨fuel, hf⟩ := h
  obtain ⟨a, e, hx, w⟩ := DataW.trod_string Tryd.underlying9 hf
  simp [Value.cells] at e
  subst e
  exact ⟨_, rfl, w, congrArg Prod.fst hx⟩
set_option maxRecDepth 100000 in
theorem stampTexts_walk : LawWalkX enc 3 Tryd.f3 := by
  intro W base args ds ps hval hA hlt _ hk hs hx
  rw [Tryd.params3] at hA hval hs
  obtain ⟨v0, v1, d0, d1, p0, p1, rfl, rfl, rfl, h0, h1⟩ := trodAll_two hA
  obtain ⟨a, b, c, rfl, ha, hb, hc⟩ := stamp_open (hval 0 _ v0 rfl rfl) h0
  obtain ⟨s, rfl, _, rfl⟩ := str_open2 (hval 1 _ v1 rfl rfl) h1
  have hk' := bulk_bound hk
  simp only [Rows.uptoBulkAll, bulk_string] at hk'
  have e1 := Lib.size_eq s
  obtain ⟨b', rfl⟩ : ∃ n : Nat, b = n := ⟨b.toNat, by have := hb.1; omega⟩
  obtain ⟨c', rfl⟩ : ∃ n : Nat, c = n := ⟨c.toNat, by have := hc.1; omega⟩
  exact law_texts a b' c' ha.1 ha.2 (by have := hb.2; omega) (by have := hc.2; omega) s (by omega) W hx
set_option maxRecDepth 100000 in
theorem stampTexts_met (os : Os) : (Rows.OpenSpec.upto Rows.stampTextsSpec).preRow enc Tryd.prog Tryd.f3 [] false Rows.stampTextsUptoRow.laid ((World.laidAll Tryd.prog os Rows.stampTextsUptoRow.laid).forCall (fun _ _ => 0) ⟨#[], #[.agg #[.int .i64 0, .int .u32 0, .int .u32 0], .string ⟨#[]⟩], []⟩).memory #[.agg #[.int .i64 0, .int .u32 0, .int .u32 0], .string ⟨#[]⟩] := by
  have hw : (DataW.whole enc Tryd.prog ((World.laidAll Tryd.prog os Rows.stampTextsUptoRow.laid).forCall (fun _ _ => 0) ⟨#[], #[.agg #[.int .i64 0, .int .u32 0, .int .u32 0], .string ⟨#[]⟩], []⟩).memory Tryd.f3.params.toList (Rows.OpenSpec.upto Rows.stampTextsSpec).vars false (#[.agg #[.int .i64 0, .int .u32 0, .int .u32 0], .string ⟨#[]⟩] : Array Value).toList 8).map (fun x => (x.1, x.2.1)) =
      some ([.agg [.lit (.int .i64 0), .lit (.int .u32 0), .lit (.int .u32 0)], .lit (.string [])], []) := by kernel_rfl
  obtain ⟨⟨x1, x2, x3⟩, hx, hx1⟩ := Option.map_eq_some_iff.1 hw
  simp only [Prod.mk.injEq] at hx1
  obtain ⟨rfl, rfl⟩ := hx1
  exact OpenSpec.preRow_of_cond 8 hx (by kernel_rfl) (fun k hk => by cases hk; rfl) (by kernel_rfl) (by
    rw [MakeChecks.laidMetH_plain _ _ _ (by kernel_rfl)]
    exact laidMet_laidAll _ (by kernel_rfl) (by kernel_rfl))
set_option maxRecDepth 100000 in
theorem stampTexts_lifted (os : Os) (started : os.Started) (H : Type) (enc : TypeId × Value → H) (F : Stop.Interp) :
    ReturnsInHanded {} Tryd.checked os 3 .any ((Rows.OpenSpec.upto Rows.stampTextsSpec).preRow enc Tryd.checked.prog Tryd.f3 [] false Rows.stampTextsUptoRow.laid) (((Rows.OpenSpec.upto Rows.stampTextsSpec).at F).post enc Tryd.checked.prog Tryd.f3 false true false false) :=
  law_lifted_x (s := Rows.OpenSpec.upto Rows.stampTextsSpec) (s0 := Rows.stampTextsSpec) rfl rfl own started (by kernel_rfl) Tryd.func3 (by kernel_rfl) rfl Tryd.underlying4 rfl rfl rfl
    (fun ds h => by obtain ⟨d0, d1, rfl⟩ := list2 h; rfl)
    ⟨World.laidAll Tryd.prog os Rows.stampTextsUptoRow.laid, fun _ _ => 0, ⟨#[], #[.agg #[.int .i64 0, .int .u32 0, .int .u32 0], .string ⟨#[]⟩], []⟩, World.laidAll_os _ _ _, World.shaped_of_ZipB (by kernel_rfl) (by kernel_rfl),
      rfl, (Input.okWide_of_okWideB (by kernel_rfl)).2, stampTexts_met os, by
        simp only [Assume.holds]
        exact ⟨by simp, by simp, fun _ => Modest.zero, by simp, by simp⟩⟩
    stampTexts_walk
theorem stampTexts_row : Rows.StampTextsUptoSaid :=
  OpenClaim.holds_of_cond 3 Tryd.f3 rfl rfl rfl rfl rfl rfl rfl ⟨rfl, rfl, rfl, rfl, rfl⟩ rfl rfl rfl rfl rfl (by kernel_rfl) Tryd.func3 (by kernel_rfl)
    (of_decide_eq_true (by kernel_rfl)) (by unfold Func.isWrapper; rw [if_neg (of_decide_eq_false (by kernel_rfl))]; exact ⟨rfl, rfl⟩)
    (fun os started H enc _ F => by rw [OpenClaim.pre_eq_preRow]; exact stampTexts_lifted os started H enc F)
theorem stampTexts_holds : Rows.StampTextsUptoCardSaid :=
  Claim7.holds_tied_plain_at .later [] [.data, .data, .data, .data, .sentinel, .sentinel, .pinned] true Rows.stampTextsUptoCard.stood.harness true
    stampTexts_row (fun _ h => by cases h) (by kernel_rfl) (fun _ h => by cases h) stampTextsUpto_row_tie rfl ⟨rfl, rfl⟩ (by kernel_rfl) rfl
    (fun f fn hf hfn => by
      obtain rfl : f = 3 := Option.some.inj ((show Tryd.prog.funcNamed "slackwater/slackwaterlaw01.StampTexts" = some 3 by kernel_rfl).symm.trans hf) |>.symm
      obtain rfl : fn = Tryd.f3 := (Option.some.inj (Tryd.func3.symm.trans hfn)).symm
      exact ⟨by kernel_rfl, fun j t ht => by
        rw [Tryd.params3] at ht
        have hm : t ∈ [24, 9] := by simpa using Array.mem_of_getElem? ht
        have hall : ([24, 9].all fun u => !Tryd.prog.wantsStandIn u) = true := by kernel_rfl
        exact (show Tryd.prog.wantsStandIn t = false by simpa using List.all_eq_true.1 hall t hm)⟩)
    (by kernel_rfl)
#print axioms stampTexts_holds
end Go.Proofs.YtacnfcolkllagaaDoor
