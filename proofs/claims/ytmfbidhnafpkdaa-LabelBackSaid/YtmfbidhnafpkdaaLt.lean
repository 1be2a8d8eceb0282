import Derived.Test.YtmfbidhnafpkdaaPr
import Derived.Test.YtmfbidhnafpkdaaRt2
import Derived.Test.YtmfbidhnafpkdaaLo
import Derived.Test.YtmfbidhnafpkdaaBulk
/-! LabelTexts: any labels' text, and the set of any text, or why there is none, are the document's. Of labels and a text that are together of at most 1048576 letters and parts. -/
namespace Go.Proofs.Ytmfbidhnafpkdaa
open Go.RowKit
set_option linter.unusedVariables false
set_option linter.unusedSimpArgs false
def szL : List Par → Nat
  | [] => 0
  | x :: l => x.a.size + 2 * x.b.size + 4 + szL l
theorem pair_len (x : Par) : (pairB x).data.toList.length + 1 ≤ x.a.size + 2 * x.b.size + 4 := by
  rw [pairB_size]
  have h := qB_len x.b.data.toList
  have e := Lib.size_eq x.b
  simp only [qL, List.length_cons, List.length_append, List.length_nil]
  omega
theorem lens_szL : ∀ l : List Par, Lib.lens (l.map fun x => (pairB x).data.toList) + l.length ≤ szL l
  | [] => by simp [Lib.lens, szL]
  | x :: l => by
    have ih := lens_szL l
    have h := pair_len x
    simp only [Lib.lens, List.map_cons, List.sum_cons, List.length_cons, szL] at *
    omega
theorem joinB_szL (l : List Par) : (joinB l).length ≤ szL l := by
  cases l with
  | nil => simp [joinB, Lib.join_nil]
  | cons x l =>
    have h := lens_szL (x :: l)
    simp only [joinB, List.map_cons, Lib.join_cons, List.length_append, Lib.joinTail_length, Lib.lens, List.sum_cons, List.length_cons, List.length_nil, List.length_map] at *
    omega
theorem szL_mem : ∀ {l : List Par} {x : Par}, x ∈ l → x.a.size + 2 * x.b.size + 4 ≤ szL l
  | [], _, h => by cases h
  | y :: l, x, h => by
    simp only [szL]
    rcases List.mem_cons.1 h with rfl | h
    · omega
    · have := szL_mem h; omega
section
variable {H : Type}
theorem bulk_pars : ∀ (l : List Par) (es : List (DataW H)), (∀ (i : Nat) (x : Par), l[i]? = some x → es[i]? = some (.agg [.lit (.string x.a.data.toList), .lit (.string x.b.data.toList)])) → szL l ≤ 4 * Rows.uptoBulkAll es
  | [], es, _ => by simp [szL]
  | x :: l, es, h => by
    have h0 := h 0 x rfl
    cases es with
    | nil => cases h0
    | cons e es =>
      have h1 : e = .agg [.lit (.string x.a.data.toList), .lit (.string x.b.data.toList)] := by simpa using h0
      have ih := bulk_pars l es (fun i y hy => by have := h (i + 1) y (by simpa using hy); simpa using this)
      have h2 := bulk_parts (H := H) [.lit (.string x.a.data.toList), .lit (.string x.b.data.toList)]
      rw [← h1] at h2
      simp only [Rows.uptoBulkAll, bulk_string] at h2 ⊢
      have e1 := Lib.size_eq x.a
      have e2 := Lib.size_eq x.b
      simp only [szL]
      omega
end
theorem psR_len (T : List UInt8) : (psR T).length ≤ 16 := by
  unfold psR
  cases psO T with
  | none => simp [psRo]
  | some out =>
    show (if rightL out then out else []).length ≤ 16
    by_cases hr : rightL out = true
    · rw [if_pos hr]
      unfold rightL at hr
      simp only [Bool.and_eq_true, decide_eq_true_eq] at hr
      exact hr.1
    · rw [if_neg hr]; simp
set_option maxRecDepth 100000 in
set_option maxHeartbeats 16000000 in
theorem law_texts (AL : Option Addr) (cL : Nat) (l : List Par) (t : ByteArray) (w : World) (ha : Pz w (.slice AL l.length cL) l) (hsh : Short l) (ht : t.size ≤ maxLen) :
    Calls Try.prog 8 #[.slice AL l.length cL, .string t] w fun e w' => e = .returned (.bool true) ∧ Below w.heap.size w w' := by
  have h1 := fun w => pparse_any t ht w
  have h2 := fun w => rparse_any t ht w
  have hl := psR_len t.data.toList
  have hn := hsh.n
  generalize psE t.data.toList = E at *
  generalize psR t.data.toList = XX at *
  generalize htx : textB l = tx
  have htx := hide htx
  clear ht
  go_enter Try.func8, Try.ntmps8
  go_wp2_with (first
    | (go_at_call 30; (with_reducible refine (h1 _).mono ?_); rintro e w1 ⟨⟨u1, rfl, hX⟩, hb1⟩; obtain ⟨AX, cX, rfl⟩ := hX.shape)
    | (go_at_call 31; (with_reducible refine (h2 _).mono ?_); rintro e w2 ⟨⟨u2, rfl, hY⟩, hb2⟩; obtain ⟨AY, cY, rfl⟩ := hY.shape; have hX2 := hX.below hb2; have hb02 := hb1.trans (hb2.mono hb1.size))
    | (go_at_call 10; (with_reducible refine (lawake_any _).mono ?_); rintro e w3 ⟨rfl, hb3⟩; have hX3 := hX2.below hb3; have hY3 := hY.below hb3; have hb03 := hb02.trans (hb3.mono hb02.size); have hm := lto_any _ l w3 (ha.below hb03) hn)
    | (go_at_call 15; (with_reducible refine hm.mono ?_); rintro e w4 ⟨⟨u4, rfl, ho4⟩, hb4⟩; have hz4 := Pz.own ho4; obtain ⟨B4, d4, rfl⟩ := hz4.shape; have hX4 := hX3.below hb4; have hY4 := hY3.below hb4; have hb04 := hb03.trans (hb4.mono hb03.size); have ht4 := ptext_any _ l w4 hz4 hsh; rw [htx.out] at ht4)
    | (go_at_call 32; (with_reducible refine ht4.mono ?_); rintro e w5 ⟨rfl, hb5⟩; have hX5 := hX4.below hb5; have hY5 := hY4.below hb5; have hb05 := hb04.trans (hb5.mono hb04.size); have ht5 := rtext_any _ l w5 (ha.below hb05) hsh; rw [htx.out] at ht5)
    | (go_at_call 33; (with_reducible refine ht5.mono ?_); rintro e w6 ⟨rfl, hb6⟩; have hX6 := hX5.below hb6; have hY6 := hY5.below hb6; have hb06 := hb05.trans (hb6.mono hb05.size); have hf := lfrom_any _ XX w6 hX6 (by omega))
    | (go_at_call 19; (with_reducible refine hf.mono ?_); rintro e w7 ⟨⟨u7, rfl, ho7⟩, hb7⟩; have hz7 := Pz.own ho7; obtain ⟨B7, d7, rfl⟩ := hz7.shape; have hb07 := hb06.trans (hb7.mono hb06.size); have hs := rsame_any _ _ XX XX w7 hz7 (hY6.below hb7); rw [decide_eq_true rfl] at hs)
    | (go_at_call 18; (with_reducible refine hs.mono ?_); rintro e w8 ⟨rfl, hb8⟩; have hb08 := hb07.trans (hb8.mono hb07.size)))
  all_goals
    go_ret
    exact ⟨rfl, hb08⟩
section
open Go.ChangeShapes Go.WideShapes Go.ChangeAt Go.Joins
variable {H : Type} {enc : TypeId × Value → H}
theorem str_open3 {W : World} {base : Nat} {d : DataW H} {p : List MemPlace} {v : Value} {sp : Nat → Bool} (hv : Value.okWide Try.prog W .any base 9 v) (h : DataW.Trod enc Try.prog W 0 sp true 9 v d p) : ∃ s : ByteArray, v = .string s ∧ s.size ≤ maxLen ∧ d = .lit (.string s.data.toList) := by
  obtain ⟨s, rfl⟩ := okWide_string Try.underlying9 hv
  obtain ⟨fuel, hf⟩ := h
  obtain ⟨a, e, hx, w⟩ := DataW.trod_string Try.underlying9 hf
  simp [Value.cells] at e
  subst e
  exact ⟨_, rfl, w, congrArg Prod.fst hx⟩
set_option maxRecDepth 100000 in
theorem labelTexts_walk : LawWalkU enc Try.prog 8 Try.f8 Rows.uptoSmall := by
  intro W base args ds ps hval hA hlt _ hk hs
  rw [Try.params8] at hA hval hs
  obtain ⟨v0, v1, d0, d1, p0, p1, rfl, rfl, rfl, h0, h1⟩ := trodAll_two hA
  obtain ⟨l, hl, hok, hd⟩ := pars_open (hval 0 _ v0 rfl rfl) h0
  obtain ⟨t, rfl, ht, rfl⟩ := str_open3 (hval 1 _ v1 rfl rfl) h1
  have hb := pars_weight (weights_at hs (j := 0) rfl rfl) hd
  have hk' := bulk_bound hk
  have hz : szL l ≤ 4194304 := by
    rcases hd with rfl | ⟨es, sp, rfl, _, he⟩
    · simp [szL]
    · have h2 := bulk_pars l es he
      have h3 := bulk_elems es sp
      simp only [Rows.uptoBulkAll] at hk'
      omega
  have hsh : Short l := ⟨by omega, fun x hx => by have := szL_mem hx; omega, by have := joinB_szL l; omega⟩
  obtain ⟨AL, cL, rfl⟩ := hl.shape
  exact law_texts AL cL l t W hl hsh ht
set_option maxRecDepth 100000 in
theorem labelTexts_lifted (os : Os) (started : os.Started) (H : Type) (enc : TypeId × Value → H) (F : Stop.Interp) :
    ReturnsInHanded {} Try.checked os 8 .any ((Rows.OpenSpec.upto Rows.labelTextsSpec).pre6 enc Try.prog Try.f8 Rows.labelTextsUptoRow.domain false) (((Rows.OpenSpec.upto Rows.labelTextsSpec).at F).post enc Try.prog Try.f8 false true false false) :=
  law_lifted_upto (C := Try.checked) (s := Rows.OpenSpec.upto Rows.labelTextsSpec) (s0 := Rows.labelTextsSpec) (k := Rows.uptoSmall) rfl rfl own started (by kernel_rfl) Try.func8 laidOut (by kernel_rfl) rfl Try.underlying4 rfl rfl rfl
    (fun ds h => by obtain ⟨d0, d1, rfl⟩ := list2 h; rfl)
    (OpenSpec.witness (enc := enc) (C := Try.checked) (s := Rows.OpenSpec.upto Rows.labelTextsSpec) (k := Rows.uptoSmall) rfl false ⟨#[], #[.slice none 0 0, .string ⟨#[]⟩], []⟩ 8 (by kernel_rfl) (by kernel_rfl) (by kernel_rfl)
      (x := ([.nil, .lit (.string [])], [], [])) (by kernel_rfl) rfl (by kernel_rfl))
    labelTexts_walk
theorem labelTexts_holds : Rows.LabelTextsUptoSaid :=
  OpenClaim.holds_of_cond 8 Try.f8 rfl rfl rfl rfl rfl rfl rfl ⟨rfl, rfl, rfl, rfl, rfl⟩ rfl rfl rfl rfl rfl (by kernel_rfl) Try.func8 (by kernel_rfl)
    (of_decide_eq_true (by kernel_rfl)) (by unfold Func.isWrapper; rw [if_neg (of_decide_eq_false (by kernel_rfl))]; exact ⟨rfl, rfl⟩)
    (fun os started H enc _ F => labelTexts_lifted os started H enc F)
#print axioms labelTexts_holds
end
end Go.Proofs.Ytmfbidhnafpkdaa
