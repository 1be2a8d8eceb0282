import Derived.Test.YtmfbidhnafpkdaaLt
import Derived.Test.YtmfbidhnafpkdaaLq
import Derived.Test.YtmfbidhnafpkdaaLs
/-! LabelBack: a set is read back from its text, and a text that is read is that of what it was read as. -/
namespace Go.Proofs.Ytmfbidhnafpkdaa
open Go.RowKit
set_option linter.unusedVariables false
set_option linter.unusedSimpArgs false
theorem right_mem {l : List Par} (h : rightL l = true) : l.length ≤ 16 ∧ ∀ x ∈ l, nmB x.a = true ∧ vlB x.b = true := by
  unfold rightL at h
  simp only [Bool.and_eq_true, decide_eq_true_eq, List.all_eq_true, List.mem_range] at h
  refine ⟨h.1, fun x hx => ?_⟩
  obtain ⟨i, hi, rfl⟩ := List.getElem_of_mem hx
  have := h.2 i hi
  unfold okAt at this
  rw [List.getElem?_eq_getElem hi] at this
  simp only [Bool.and_eq_true] at this
  exact this.1
theorem nm_no61 {s : ByteArray} (h : nmB s = true) : ∀ j : Nat, s.data.toList[j]? ≠ some 61 := by
  intro j hj
  unfold nmB nmA nmT at h
  simp only [Bool.and_eq_true, decide_eq_true_eq, List.all_eq_true, List.mem_range] at h
  obtain ⟨hlt, e⟩ := List.getElem?_eq_some_iff.1 hj
  have := h.2 j (by rw [Array.length_toList] at hlt; exact hlt)
  rw [List.getD_eq_getElem?_getD, hj] at this
  simp [nmC] at this
theorem right_size {l : List Par} (h : rightL l = true) : szL l ≤ 2624 := by
  obtain ⟨h1, h2⟩ := right_mem h
  have : ∀ m : List Par, (∀ x ∈ m, nmB x.a = true ∧ vlB x.b = true) → szL m ≤ 164 * m.length := by
    intro m
    induction m with
    | nil => intro _; simp [szL]
    | cons x m ih =>
      intro hm
      have h3 := ih (fun y hy => hm y (List.mem_cons_of_mem _ hy))
      have h4 := hm x (by simp)
      unfold nmB vlB at h4
      simp only [Bool.and_eq_true, decide_eq_true_eq] at h4
      simp only [szL, List.length_cons]
      omega
  have := this l h2
  omega
theorem right_short {l : List Par} (h : rightL l = true) : Short l := by
  have hs := right_size h
  have hn := (right_mem h).1
  exact ⟨by omega, fun x hx => by have := szL_mem hx; omega, by have := joinB_szL l; omega⟩
theorem textB_list (l : List Par) : (textB l).data.toList = 123 :: (joinB l ++ [125]) := by simp [textB]
theorem joinB_two (x y : Par) (l : List Par) : joinB (x :: y :: l) = (x.a.data.toList ++ 61 :: qL x.b.data.toList) ++ 44 :: joinB (y :: l) := by
  simp [joinB, Lib.join_cons, Lib.joinTail, pairB]
theorem joinB_single (x : Par) : joinB [x] = x.a.data.toList ++ 61 :: qL x.b.data.toList := by
  simp [joinB, Lib.join_one, pairB]
theorem fE_pre {a t : List UInt8} (h : ∀ j : Nat, a[j]? ≠ some 61) : fE (a ++ 61 :: t) = some a.length := by
  refine fE_is (by simp) (fun j hj => ?_)
  rw [List.getElem?_append_left hj]
  exact h j
theorem drop_pre (a t : List UInt8) : (a ++ 61 :: t).drop (a.length + 1) = t := by
  rw [← List.drop_drop, List.drop_left]
  rfl
theorem prs_one {f : Nat} {x : Par} {t : List UInt8} {acc : List Par} (h : ∀ j : Nat, x.a.data.toList[j]? ≠ some 61) :
    prs (f + 1) (x.a.data.toList ++ 61 :: (qL x.b.data.toList ++ t)) acc = if t = [125] then some (acc ++ [x]) else match t with
          | [] => none
          | y :: rest' => if y = 44 then prs f rest' (acc ++ [x]) else none := by
  have hx : (⟨⟨x.a.data.toList.toArray⟩, ⟨x.b.data.toList.toArray⟩⟩ : Par) = x := by
    obtain ⟨⟨a⟩, ⟨b⟩⟩ := x
    simp
  rw [prs_step (fE_pre h), drop_pre, uqL_back]
  dsimp only
  rw [← List.drop_drop, drop_pre, List.drop_left, List.take_left, hx]
  by_cases ht : t = [125]
  · rw [if_pos ht, if_pos ht]
  · rw [if_neg ht, if_neg ht]
    cases t <;> rfl
theorem prs_back : ∀ (f : Nat) (l acc : List Par), l ≠ [] → (∀ x ∈ l, ∀ j : Nat, x.a.data.toList[j]? ≠ some 61) → l.length ≤ f → prs f (joinB l ++ [125]) acc = some (acc ++ l)
  | f, [], acc, h, _, _ => absurd rfl h
  | 0, x :: l, acc, _, _, hf => by simp at hf
  | f + 1, [x], acc, _, hn, hf => by
    rw [joinB_single, List.append_assoc, List.cons_append, prs_one (hn x (by simp)), if_pos rfl]
  | f + 1, x :: y :: l, acc, _, hn, hf => by
    rw [joinB_two, List.append_assoc, List.append_assoc, List.cons_append, List.cons_append, prs_one (hn x (by simp)), if_neg (by intro e; cases e)]
    dsimp only
    rw [if_pos rfl, prs_back f (y :: l) _ (by simp) (fun z hz => hn z (List.mem_cons_of_mem _ hz)) (by simp at hf ⊢; omega)]
    simp
theorem joinB_len1 : ∀ l : List Par, l.length ≤ (joinB l).length
  | [] => by simp
  | [x] => by rw [joinB_single]; simp; omega
  | x :: y :: l => by
    have := joinB_len1 (y :: l)
    rw [joinB_two]
    simp only [List.length_append, List.length_cons] at *
    omega
theorem psO_back {l : List Par} (h : rightL l = true) : psO (textB l).data.toList = some l := by
  have hs := right_size h
  have hj := joinB_szL l
  have hm := (right_mem h).2
  rw [textB_list]
  unfold psO
  rw [if_neg (by simp; omega)]
  simp only [List.drop_succ_cons, List.drop_zero]
  cases l with
  | nil => rfl
  | cons x l =>
    rw [if_neg, prs_back _ _ _ (by simp) (fun y hy => nm_no61 (hm y hy).1)]
    · rfl
    · have := joinB_len1 (x :: l)
      simp only [List.length_cons, List.length_append] at *
      omega
    · intro e
      have h1 := joinB_len1 (x :: l)
      have h2 := congrArg List.length e
      simp only [List.length_cons, List.length_append, List.length_nil] at *
      omega
theorem psO_text {T : List UInt8} {out : List Par} (h : psO T = some out) : T = 123 :: (joinB out ++ [125]) := by
  unfold psO at h
  by_cases h1 : 4096 < T.length ∨ T.length < 2 ∨ T.head? ≠ some 123
  · rw [if_pos h1] at h; cases h
  · rw [if_neg h1] at h
    simp only [not_or, Decidable.not_not] at h1
    obtain ⟨_, h2, h3⟩ := h1
    cases T with
    | nil => cases h3
    | cons x T =>
      have hx : x = 123 := by simpa using h3
      subst hx
      simp only [List.drop_succ_cons, List.drop_zero] at h
      by_cases h4 : T = [125]
      · rw [if_pos h4] at h
        cases h
        rw [h4]
        simp [joinB, Lib.join_nil]
      · rw [if_neg h4] at h
        obtain ⟨new, e1, _, e2⟩ := prs_text _ _ _ h
        simp only [List.nil_append] at e1
        subst e1
        rw [e2]
theorem ps_cases (t : ByteArray) : (psE t.data.toList = 0 ∧ rightL (psR t.data.toList) = true ∧ textB (psR t.data.toList) = t) ∨ ¬ psE t.data.toList = 0 := by
  unfold psE psR
  cases h : psO t.data.toList with
  | none => exact .inr (by decide)
  | some out =>
    cases hr : rightL out with
    | false => exact .inr (by simp [psEo, hr])
    | true =>
      refine .inl ⟨by simp [psEo, hr], by simp [psRo, hr], ?_⟩
      have := psO_text h
      simp only [psRo, hr, if_true]
      apply ByteArray.ext
      apply Array.toList_inj.1
      rw [textB_list, this]
theorem mk_cases (Q : List Par) : (mkE Q = 0 ∧ mkR Q = Q ∧ Short Q ∧ (textB Q).size ≤ 4096 ∧ psE (textB Q).data.toList = 0 ∧ psR (textB Q).data.toList = Q) ∨ ¬ mkE Q = 0 := by
  by_cases h : mkE Q = 0
  · have hr := (mkE_zero.1 h).2
    have hs := right_size hr
    have hj := joinB_szL Q
    refine .inl ⟨h, mkR_zero h, right_short hr, ?_, ?_, ?_⟩
    · rw [Lib.size_eq, textB_list]
      simp only [List.length_cons, List.length_append, List.length_nil]
      omega
    · simp [psE, psO_back hr, psEo, hr]
    · simp [psR, psO_back hr, psRo, hr]
  · exact .inr h
set_option maxRecDepth 100000 in
set_option maxHeartbeats 16000000 in
theorem law_back (AL : Option Addr) (cL : Nat) (l : List Par) (t : ByteArray) (w : World) (ha : Pz w (.slice AL l.length cL) l) (hok : ∀ x ∈ l, x.ok) (hn : l.length * 32 ≤ 140737488355328) (ht : t.size ≤ maxLen) :
    Calls Try.prog 9 #[.slice AL l.length cL, .string t] w fun e w' => e = .returned (.bool true) ∧ Below w.heap.size w w' := by
  have hto := lto_any _ l w ha hn
  have hPt := fun w => pparse_any t ht w
  have hrg : ∀ x ∈ psR t.data.toList, rightL (psR t.data.toList) = true → x.ok := fun x hx hr => by
    have := (right_short hr).each x hx
    unfold Par.ok maxLen
    omega
  rcases ps_cases t with ⟨hpe, hpr, hpt⟩ | hpe
  · have hsh2 := right_short hpr
    rw [hpe] at hPt
    have hrg := fun x hx => hrg x hx hpr
    generalize psR t.data.toList = XX at *
    have hpt := hide hpt
    have hpr := hide hpr
    clear hpe ht
    go_enter Try.func9, Try.ntmps9
    go_wp2_with (first
      | (go_at_call 15; (with_reducible refine hto.mono ?_); rintro e w1 ⟨⟨u1, rfl, ho1⟩, hb1⟩; have hx1 := Pz.own ho1; obtain ⟨B1, d1, rfl⟩ := hx1.shape; have hm1 := make_any _ l w1 hx1 hok hn)
      | (go_at_call 16; (with_reducible refine hm1.mono ?_); rintro e w2 ⟨⟨Q, xv, hpQ, hsQ, rfl, hX⟩, hb2⟩; have hbL := hb1.trans (hb2.mono hb1.size); obtain ⟨AX, cX, rfl⟩ := hX.shape; clear hpQ hsQ hm1 hb1 hb2; rcases mk_cases Q with ⟨hE, hXQ, hqs, hqz, hqe, hqr⟩ | hE)
      | fail)
    · have hqm : (textB Q).size ≤ maxLen := by unfold maxLen; omega
      have hTQ := ptext_any _ Q w2 (by rw [hXQ] at hX; exact hX) hqs
      have hPx := fun w => pparse_any (textB Q) hqm w
      rw [hqe, hqr] at hPx
      rw [hXQ] at hX
      have hqc : cmpL Q Q = 0 := cmpL_cmp.refl Q
      have hqz' : ((textB Q).size : Int) ≤ 4096 := by omega
      clear hE hXQ hqs hqe hqr
      generalize textB Q = tx at *
      go_wp2_with (first
        | (go_at_call 32; (with_reducible refine hTQ.mono ?_); rintro e w3 ⟨rfl, hb3⟩; have hbM := hbL.trans (hb3.mono hbL.size); have hX3 := hX.below hb3; clear hTQ)
        | (go_at_call 30; (with_reducible refine (hPx _).mono ?_); rintro e w4 ⟨⟨u4, rfl, hY⟩, hb4⟩; obtain ⟨AY, cY, rfl⟩ := hY.shape; have hbN := hbM.trans (hb4.mono hbM.size); have hX4 := hX3.below hb4; have hC := pcompare_any _ _ Q Q w4 hX4 hY; rw [hqc] at hC; clear hPx)
        | (go_at_call 28; (with_reducible refine hC.mono ?_); rintro e w5 ⟨rfl, hb5⟩; have hbO := hbN.trans (hb5.mono hbN.size))
        | (go_at_call 30; (with_reducible refine (hPt _).mono ?_); rintro e w6 ⟨⟨u6, rfl, hZ⟩, hb6⟩; obtain ⟨AZ, cZ, rfl⟩ := hZ.shape; have hbP := hbO.trans (hb6.mono hbO.size))
        | (go_at_call 10; (with_reducible refine (lawake_any _).mono ?_); rintro e w7 ⟨rfl, hb7⟩; have hbQ := hbP.trans (hb7.mono hbP.size); have hZ7 := hZ.below hb7; have hTZ := ptext_any _ XX w7 hZ7 hsh2; rw [hpt.out] at hTZ)
        | (go_at_call 32; (with_reducible refine hTZ.mono ?_); rintro e w8 ⟨rfl, hb8⟩; have hbR := hbQ.trans (hb8.mono hbQ.size); have hZ8 := hZ7.below hb8; have hRZ := pright_any _ XX w8 hZ8 hrg; rw [hpr.out] at hRZ)
        | (go_at_call 20; (with_reducible refine hRZ.mono ?_); rintro e w9 ⟨rfl, hb9⟩; have hbZ := hbR.trans (hb9.mono hbR.size)))
      all_goals
        go_ret
        exact ⟨rfl, hbZ⟩
    · have hEb : (mkE Q == 0) = false := by simp [hE]
      have hbO := hbL
      generalize mkE Q = E at *
      go_wp2_with (first
        | (go_at_call 30; (with_reducible refine (hPt _).mono ?_); rintro e w6 ⟨⟨u6, rfl, hZ⟩, hb6⟩; obtain ⟨AZ, cZ, rfl⟩ := hZ.shape; have hbP := hbO.trans (hb6.mono hbO.size))
        | (go_at_call 10; (with_reducible refine (lawake_any _).mono ?_); rintro e w7 ⟨rfl, hb7⟩; have hbQ := hbP.trans (hb7.mono hbP.size); have hZ7 := hZ.below hb7; have hTZ := ptext_any _ XX w7 hZ7 hsh2; rw [hpt.out] at hTZ)
        | (go_at_call 32; (with_reducible refine hTZ.mono ?_); rintro e w8 ⟨rfl, hb8⟩; have hbR := hbQ.trans (hb8.mono hbQ.size); have hZ8 := hZ7.below hb8; have hRZ := pright_any _ XX w8 hZ8 hrg; rw [hpr.out] at hRZ)
        | (go_at_call 20; (with_reducible refine hRZ.mono ?_); rintro e w9 ⟨rfl, hb9⟩; have hbZ := hbR.trans (hb9.mono hbR.size)))
      all_goals
        go_ret
        exact ⟨rfl, hbZ⟩
  · have hpb : (psE t.data.toList == 0) = false := by simp [hpe]
    clear hrg ht
    generalize psE t.data.toList = EE at *
    generalize psR t.data.toList = XX at *
    go_enter Try.func9, Try.ntmps9
    go_wp2_with (first
      | (go_at_call 15; (with_reducible refine hto.mono ?_); rintro e w1 ⟨⟨u1, rfl, ho1⟩, hb1⟩; have hx1 := Pz.own ho1; obtain ⟨B1, d1, rfl⟩ := hx1.shape; have hm1 := make_any _ l w1 hx1 hok hn)
      | (go_at_call 16; (with_reducible refine hm1.mono ?_); rintro e w2 ⟨⟨Q, xv, hpQ, hsQ, rfl, hX⟩, hb2⟩; have hbL := hb1.trans (hb2.mono hb1.size); obtain ⟨AX, cX, rfl⟩ := hX.shape; clear hpQ hsQ hm1 hb1 hb2; rcases mk_cases Q with ⟨hE, hXQ, hqs, hqz, hqe, hqr⟩ | hE)
      | fail)
    · have hqm : (textB Q).size ≤ maxLen := by unfold maxLen; omega
      have hTQ := ptext_any _ Q w2 (by rw [hXQ] at hX; exact hX) hqs
      have hPx := fun w => pparse_any (textB Q) hqm w
      rw [hqe, hqr] at hPx
      rw [hXQ] at hX
      have hqc : cmpL Q Q = 0 := cmpL_cmp.refl Q
      have hqz' : ((textB Q).size : Int) ≤ 4096 := by omega
      clear hE hXQ hqs hqe hqr
      generalize textB Q = tx at *
      go_wp2_with (first
        | (go_at_call 32; (with_reducible refine hTQ.mono ?_); rintro e w3 ⟨rfl, hb3⟩; have hbM := hbL.trans (hb3.mono hbL.size); have hX3 := hX.below hb3; clear hTQ)
        | (go_at_call 30; (with_reducible refine (hPx _).mono ?_); rintro e w4 ⟨⟨u4, rfl, hY⟩, hb4⟩; obtain ⟨AY, cY, rfl⟩ := hY.shape; have hbN := hbM.trans (hb4.mono hbM.size); have hX4 := hX3.below hb4; have hC := pcompare_any _ _ Q Q w4 hX4 hY; rw [hqc] at hC; clear hPx)
        | (go_at_call 28; (with_reducible refine hC.mono ?_); rintro e w5 ⟨rfl, hb5⟩; have hbO := hbN.trans (hb5.mono hbN.size))
        | (go_at_call 30; (with_reducible refine (hPt _).mono ?_); rintro e w6 ⟨⟨u6, rfl, hZ⟩, hb6⟩; obtain ⟨AZ, cZ, rfl⟩ := hZ.shape; have hbP := hbO.trans (hb6.mono hbO.size))
        | (go_at_call 10; (with_reducible refine (lawake_any _).mono ?_); rintro e w7 ⟨rfl, hb7⟩; have hbZ := hbP.trans (hb7.mono hbP.size)))
      all_goals
        go_ret
        exact ⟨rfl, hbZ⟩
    · have hEb : (mkE Q == 0) = false := by simp [hE]
      have hbO := hbL
      generalize mkE Q = E at *
      go_wp2_with (first
        | (go_at_call 30; (with_reducible refine (hPt _).mono ?_); rintro e w6 ⟨⟨u6, rfl, hZ⟩, hb6⟩; obtain ⟨AZ, cZ, rfl⟩ := hZ.shape; have hbP := hbO.trans (hb6.mono hbO.size))
        | (go_at_call 10; (with_reducible refine (lawake_any _).mono ?_); rintro e w7 ⟨rfl, hb7⟩; have hbZ := hbP.trans (hb7.mono hbP.size)))
      all_goals
        go_ret
        exact ⟨rfl, hbZ⟩
section
open Go.ChangeShapes Go.WideShapes Go.ChangeAt Go.Joins
variable {H : Type} {enc : TypeId × Value → H}
set_option maxRecDepth 100000 in
theorem labelBack_walk : LawWalkS enc Try.prog 9 Try.f9 := by
  intro W base args ds ps hval hA hlt _ hs
  rw [Try.params9] at hA hval hs
  obtain ⟨v0, v1, d0, d1, p0, p1, rfl, rfl, rfl, h0, h1⟩ := trodAll_two hA
  obtain ⟨l, hl, hok, hk⟩ := pars_open (hval 0 _ v0 rfl rfl) h0
  have hb := pars_weight (weights_at hs (j := 0) rfl rfl) hk
  obtain ⟨t, rfl, ht, _⟩ := str_open3 (hval 1 _ v1 rfl rfl) h1
  obtain ⟨AL, cL, rfl⟩ := hl.shape
  exact law_back AL cL l t W hl hok (by omega) ht
set_option maxRecDepth 100000 in
theorem labelBack_lifted (os : Os) (started : os.Started) (H : Type) (enc : TypeId × Value → H) :
    ReturnsInHanded {} Try.checked os 9 .any (Rows.labelBackSpec.pre6 enc Try.prog Try.f9 Rows.labelBackRow.domain false) (Rows.labelBackSpec.post enc Try.prog Try.f9 false true false false) :=
  law_lifted_sized (C := Try.checked) own started (by kernel_rfl) Try.func9 laidOut (by kernel_rfl) rfl Try.underlying4 rfl rfl
    (fun ds h => by obtain ⟨d0, d1, rfl⟩ := list2 h; rfl)
    (ChangeSpec.witness6 (enc := enc) (C := Try.checked) false ⟨#[], #[.slice none 0 0, .string ⟨#[]⟩], []⟩ 8 (by kernel_rfl) (by kernel_rfl) (by kernel_rfl) (by kernel_rfl))
    labelBack_walk
theorem labelBack_holds : Rows.LabelBackSaid :=
  OpenClaim.holds_of_wide 9 Try.f9 rfl rfl rfl rfl rfl rfl rfl ⟨rfl, rfl, rfl, rfl, rfl⟩ rfl rfl rfl rfl rfl (by kernel_rfl) Try.func9 (by kernel_rfl)
    (of_decide_eq_true (by kernel_rfl)) (by unfold Func.isWrapper; rw [if_neg (of_decide_eq_false (by kernel_rfl))]; exact ⟨rfl, rfl⟩)
    (fun os started H enc _ => labelBack_lifted os started H enc)
#print axioms labelBack_holds
end
end Go.Proofs.Ytmfbidhnafpkdaa
