import Derived.Test.YtmfbidhnafpkdaaDoorMa
/-! MatchBack: right rules are read back from their text, whatever stands behind it. Of rules and a text that are together of at most 1048576 letters and parts. -/
namespace Go.Proofs.YtmfbidhnafpkdaaDoor
open Go.RowKit
set_option linter.unusedVariables false
set_option linter.unusedSimpArgs false
theorem uqM_back : ∀ (l acc t : List UInt8) (k : Nat), uqF false (qB l ++ 34 :: t) acc k = some (acc ++ l, k + (qB l).length + 1)
  | [], acc, t, k => by simp [qB, uqF]
  | x :: l, acc, t, k => by
    have hq : qB (x :: l) = esc x ++ qB l := by simp [qB]
    rw [hq]
    by_cases hx : x = 34 ∨ x = 92
    · have he : esc x = [92, x] := by unfold esc; rw [if_pos hx]
      rw [he]
      simp only [List.cons_append, List.nil_append, uqF]
      rw [if_neg (by decide), if_pos trivial, if_pos hx, uqM_back l]
      simp
      omega
    · have he : esc x = [x] := by unfold esc; rw [if_neg hx]
      rw [he]
      simp only [List.cons_append, List.nil_append, uqF]
      rw [if_neg (fun e => hx (.inl e)), if_neg (fun e => hx (.inr e)), uqM_back l]
      simp
      omega
theorem uqLM_back (l t : List UInt8) : uqL (qL l ++ t) = some (l, (qL l).length) := by
  simp only [qL, List.cons_append, List.append_assoc, List.nil_append]
  rw [uqL_cons, if_pos rfl, uqS, uqM_back]
  simp
  omega
theorem sgn_sg {k : Nat} (h1 : 1 ≤ k) (h4 : k ≤ 4) (r : List UInt8) : sgn (sgB k ++ 34 :: r) = k := by
  have : k = 1 ∨ k = 2 ∨ k = 3 ∨ k = 4 := by omega
  rcases this with rfl | rfl | rfl | rfl <;> simp [sgn, sgnD, sgB, List.isPrefixOf]
theorem ltN_all {l m : List UInt8} (h : ∀ x ∈ l, lt x = true) (hm : ltN m = 0) : ltN (l ++ m) = l.length := by
  induction l with
  | nil => simpa using hm
  | cons x l ih =>
    rw [List.cons_append, ltN, if_pos (h x (by simp)), ih (fun y hy => h y (by simp [hy]))]
    simp
theorem ltN_sg {k : Nat} (h1 : 1 ≤ k) (h4 : k ≤ 4) (r : List UInt8) : ltN (sgB k ++ r) = 0 := by
  have : k = 1 ∨ k = 2 ∨ k = 3 ∨ k = 4 := by omega
  rcases this with rfl | rfl | rfl | rfl <;> (simp only [sgB, List.cons_append, ltN]; rw [if_neg (by decide)])
theorem okR_parts {x : Rul} (h : okR x = true) : nmB x.a = true ∧ ∃ k : Nat, 1 ≤ k ∧ k ≤ 4 ∧ x.op = k ∧ sgO x.op = sgT k := by
  unfold okR at h
  simp only [Bool.and_eq_true, decide_eq_true_eq] at h
  refine ⟨h.1, x.op.toNat, by omega, by omega, by omega, ?_⟩
  unfold sgO
  rw [if_pos ⟨h.2.1, h.2.2.1⟩]
/-- Right rules are read back. -/
theorem prq_back (behind : List UInt8) : ∀ (l : List Rul) (f at_ : Nat) (out : List Rul), l ≠ [] → l.length ≤ f → rightR (out ++ l) = true →
    prq (fun r => some (ltN r)) (fun o => decide (o.length ≤ 16)) f (rj l ++ 125 :: behind) at_ out = some (out ++ l, at_ + (rj l).length + 1)
  | [], _, _, _, h, _, _ => absurd rfl h
  | x :: l, 0, _, _, _, hf, _ => by simp at hf
  | x :: l, f + 1, at_, out, _, hf, hr => by
    have hr' := hr
    unfold rightR at hr
    simp only [Bool.and_eq_true, decide_eq_true_eq, List.all_eq_true] at hr
    obtain ⟨hlen, hok⟩ := hr
    obtain ⟨hnm, k, k1, k4, hop, hsg⟩ := okR_parts (hok x (by simp))
    obtain ⟨_, hlt⟩ := nmB_lt hnm
    have hlen' : out.length ≤ 16 := by simp at hlen; omega
    unfold prq
    rw [if_pos (decide_eq_true hlen')]
    dsimp only
    have hT : rj (x :: l) ++ 125 :: behind = x.a.data.toList ++ (sgB k ++ (qL x.b.data.toList ++ (rjt l ++ 125 :: behind))) := by
      simp [rj, rulB, hsg, sgT_list]
    have hql : qL x.b.data.toList ++ (rjt l ++ 125 :: behind) = 34 :: (qB x.b.data.toList ++ [34] ++ (rjt l ++ 125 :: behind)) := by simp [qL]
    have hN : ltN (rj (x :: l) ++ 125 :: behind) = x.a.data.toList.length := by
      rw [hT]
      exact ltN_all hlt (ltN_sg k1 k4 _)
    rw [hN]
    have hd1 : (rj (x :: l) ++ 125 :: behind).drop x.a.data.toList.length = sgB k ++ (qL x.b.data.toList ++ (rjt l ++ 125 :: behind)) := by rw [hT, List.drop_left]
    have hs : sgn ((rj (x :: l) ++ 125 :: behind).drop x.a.data.toList.length) = k := by rw [hd1, hql, sgn_sg k1 k4]
    have hd2 : (rj (x :: l) ++ 125 :: behind).drop (x.a.data.toList.length + (sgB k).length) = qL x.b.data.toList ++ (rjt l ++ 125 :: behind) := by rw [← List.drop_drop, hd1, List.drop_left]
    have hd3 : (rj (x :: l) ++ 125 :: behind).drop (x.a.data.toList.length + (sgB k).length + (qL x.b.data.toList).length) = rjt l ++ 125 :: behind := by rw [← List.drop_drop, hd2, List.drop_left]
    have htk : (rj (x :: l) ++ 125 :: behind).take x.a.data.toList.length = x.a.data.toList := by rw [hT, List.take_left]
    have hx : (⟨⟨x.a.data.toList.toArray⟩, (k : Int), ⟨x.b.data.toList.toArray⟩⟩ : Rul) = x := by
      obtain ⟨a, op, b⟩ := x
      simp only at hop ⊢
      rw [hop, Lib.mk_data, Lib.mk_data]
    have hlj : (rj (x :: l)).length = x.a.data.toList.length + (sgB k).length + (qL x.b.data.toList).length + (rjt l).length := by
      simp only [rj, rulB, hsg, sgT_list, List.length_append]
      omega
    have hst : stq x.a.data.toList.length (prq (fun r => some (ltN r)) (fun o => decide (o.length ≤ 16)) f) (rj (x :: l) ++ 125 :: behind) at_ out = match rjt l ++ 125 :: behind with
        | [] => none
        | y :: rest => if y = 125 then (if rightR (out ++ [x]) = true then some (out ++ [x], at_ + (x.a.data.toList.length + (sgB k).length + (qL x.b.data.toList).length) + 1) else none)
          else if y = 44 then prq (fun r => some (ltN r)) (fun o => decide (o.length ≤ 16)) f rest (at_ + (x.a.data.toList.length + (sgB k).length + (qL x.b.data.toList).length) + 1) (out ++ [x]) else none := by
      unfold stq
      rw [hs, if_neg (by omega), hd2, uqLM_back]
      dsimp only
      rw [hd3, htk, hx]
      cases rjt l ++ 125 :: behind <;> rfl
    rw [hst]
    cases l with
    | nil =>
      simp only [rjt, List.nil_append]
      rw [if_pos trivial, if_pos (by simpa using hr')]
      simp only [rjt, List.length_nil] at hlj
      rw [hlj]
      simp <;> omega
    | cons y m =>
      have hap : rjt (y :: m) ++ 125 :: behind = 44 :: (rj (y :: m) ++ 125 :: behind) := by simp [rjt, rj]
      rw [hap]
      dsimp only
      rw [if_neg (by decide), if_pos rfl, prq_back behind (y :: m) f _ (out ++ [x]) (by simp) (by simp at hf ⊢; omega) (by simpa using hr')]
      have hjl : (rjt (y :: m)).length = (rj (y :: m)).length + 1 := by simp [rjt, rj]
      rw [hlj, hjl]
      simp
      omega
theorem szJt : ∀ l : List Rul, l.length ≤ (rjt l).length
  | [] => Nat.le_refl _
  | x :: l => by have := szJt l; simp only [rjt, List.length_cons, List.length_append]; omega
theorem szJ : ∀ l : List Rul, l.length ≤ (rj l).length + 1
  | [] => Nat.zero_le _
  | x :: l => by have := szJt l; simp only [rj, List.length_cons, List.length_append]; omega
theorem psq_back {l : List Rul} (hr : rightR l = true) (behind : List UInt8) : psq ((rtB l).data.toList ++ behind) = (l, (rtB l).size) := by
  have hT : (rtB l).data.toList ++ behind = 123 :: (rj l ++ 125 :: behind) := by simp [rtB]
  have hz : (rtB l).size = (rj l).length + 2 := by rw [Lib.size_eq]; simp [rtB]
  rw [hT, hz]
  unfold psq
  rw [if_neg (by simp)]
  cases l with
  | nil => simp [rj]
  | cons x l =>
    have hr' := hr
    unfold rightR at hr'
    simp only [Bool.and_eq_true, decide_eq_true_eq, List.all_eq_true] at hr'
    obtain ⟨hnm, k, k1, k4, hop, hsg⟩ := okR_parts (hr'.2 x (by simp))
    obtain ⟨hz32, hlt⟩ := nmB_lt hnm
    have hne : ¬ ((List.drop 1 (123 :: (rj (x :: l) ++ 125 :: behind))).head? = some 125) := by
      intro e
      have hl : 0 < x.a.data.toList.length := by
        unfold nmB at hnm
        simp only [Bool.and_eq_true, decide_eq_true_eq] at hnm
        rw [← Lib.size_eq]
        omega
      cases hx : x.a.data.toList with
      | nil => rw [hx] at hl; simp at hl
      | cons y m =>
        simp [rj, rulB, hx] at e
        have := hlt y (by rw [hx]; simp)
        rw [e] at this
        revert this
        decide
    rw [if_neg hne, List.drop_one, List.tail_cons, prq_same, prq_back behind (x :: l) _ 1 [] (by simp) (by
      have := szJ (x :: l)
      simp only [List.length_cons, List.length_append] at this ⊢
      omega) hr]
    simp [psqO]
    omega
set_option maxRecDepth 100000 in
set_option maxHeartbeats 16000000 in
theorem law_mback (AL : Option Addr) (cL : Nat) (l : List Rul) (bt : ByteArray) (w : World) (ha : Rz w (.slice AL l.length cL) l) (hg : Sg w) (hok : ∀ x ∈ l, x.ok) (hsz : szR l ≤ 5242880) (ht : bt.size ≤ 1048576) :
    Calls Tryd.prog 7 #[.slice AL l.length cL, .string bt] w fun e w' => e = .returned (.bool true) ∧ Below w.heap.size w w' := by
  have hsh := shortR_of (l := l) (by omega)
  have hn := szR_len l
  have W : ∀ {w w' : World}, Below w.heap.size w w' → w.heap.size ≤ w'.heap.size := fun h => h.size
  have c1 := rto_any _ l w ha (by omega)
  cases hr : rightR l with
  | false =>
    have E := hide hr
    clear hr
    go_enter Tryd.func7, Tryd.ntmps7
    go_wp2_with (first
      | (go_at_call 10; (with_reducible refine c1.mono ?_); rintro e w1 ⟨⟨u1, rfl, ho1⟩, hb1⟩; have hz1 := Rz.own ho1; obtain ⟨B1, d1, rfl⟩ := hz1.shape; have c2 := mawake_any w1 (hg.below hb1))
      | (go_at_call 8; (with_reducible refine c2.mono ?_); rintro e w2 ⟨rfl, hb2⟩; have hb02 := hb1.trans (hb2.mono (W hb1)); have c3 := mright_any _ l w2 (hz1.below hb2) hok; rw [E.out] at c3)
      | (go_at_call 9; (with_reducible refine c3.mono ?_); rintro e w3 ⟨rfl, hb3⟩; have hb03 := hb02.trans (hb3.mono (W hb02)); have c4 := mawake_any w3 (hg.below hb03))
      | (go_at_call 8; (with_reducible refine c4.mono ?_); rintro e w4 ⟨rfl, hb4⟩; have hb04 := hb03.trans (hb4.mono (W hb03))))
    go_ret
    exact ⟨rfl, hb04⟩
  | true =>
    have hT : (rtB l ++ bt).data.toList = (rtB l).data.toList ++ bt.data.toList := by rw [ba_app]
    have hps := psq_back hr bt.data.toList
    rw [← hT] at hps
    have hrz : (rtB l).size ≤ 5242882 := by
      have := rj_szR l
      rw [Lib.size_eq]
      simp [rtB]
      omega
    have hTz : (rtB l ++ bt).size ≤ 3000000000000 := by
      rw [Lib.size_eq, hT, List.length_append, ← Lib.size_eq, ← Lib.size_eq]
      omega
    have hP := fun w hg => mparse_any (rtB l ++ bt) hTz w hg
    rw [hps] at hP
    obtain ⟨tx, htx⟩ : ∃ tx, rtB l = tx := ⟨_, rfl⟩
    rw [htx] at hP hrz
    have htx := hide htx
    have E := hide hr
    have g1 : ¬ (9223372036854775807 < tx.size + bt.size) := by omega
    clear hr hT hps hTz
    go_enter Tryd.func7, Tryd.ntmps7
    go_wp2_with (first
      | (go_at_call 10; (with_reducible refine c1.mono ?_); rintro e w1 ⟨⟨u1, rfl, ho1⟩, hb1⟩; have hz1 := Rz.own ho1; obtain ⟨B1, d1, rfl⟩ := hz1.shape; have c2 := mawake_any w1 (hg.below hb1))
      | (go_at_call 8; (with_reducible refine c2.mono ?_); rintro e w2 ⟨rfl, hb2⟩; have hb02 := hb1.trans (hb2.mono (W hb1)); have c3 := mright_any _ l w2 (hz1.below hb2) hok; rw [E.out] at c3)
      | (go_at_call 9; (with_reducible refine c3.mono ?_); rintro e w3 ⟨rfl, hb3⟩; have hb03 := hb02.trans (hb3.mono (W hb02)); have c4 := mtext_any _ l w3 ((hz1.below hb2).below hb3) hsh (hg.below hb03); rw [htx.out] at c4)
      | (go_at_call 19; (with_reducible refine c4.mono ?_); rintro e w4 ⟨rfl, hb4⟩; have hb04 := hb03.trans (hb4.mono (W hb03)); have c5 := hP w4 (hg.below hb04))
      | (go_at_call 17; (with_reducible refine c5.mono ?_); rintro e w5 ⟨⟨u5, rfl, hz5⟩, hb5⟩; obtain ⟨B5, d5, rfl⟩ := hz5.shape; have hb05 := hb04.trans (hb5.mono (W hb04)); have c6 := rfrom_any _ l w5 hz5 (by omega))
      | (go_at_call 22; (with_reducible refine c6.mono ?_); rintro e w6 ⟨⟨u6, rfl, ho6⟩, hb6⟩; have hz6 := Rz.own ho6; obtain ⟨B6, d6, rfl⟩ := hz6.shape; have hb06 := hb05.trans (hb6.mono (W hb05)); have c7 := rsameR_any _ _ l w6 hz6 (ha.below hb06))
      | (go_at_call 21; (with_reducible refine c7.mono ?_); rintro e w7 ⟨rfl, hb7⟩; have hb07 := hb06.trans (hb7.mono (W hb06))))
    go_ret
    exact ⟨rfl, hb07⟩
section
open Go.ChangeShapes Go.WideShapes Go.ChangeAt Go.Joins
variable {H : Type} {enc : TypeId × Value → H}
set_option maxRecDepth 100000 in
theorem matchBack_walk : LawWalkD enc 7 Tryd.f7 := by
  intro W base args ds ps hval hA hlt _ hk hs hg
  rw [Tryd.params7] at hA hval hs
  obtain ⟨v0, v1, d0, d1, p0, p1, rfl, rfl, rfl, h0, h1⟩ := trodAll_two hA
  obtain ⟨l, hl, hok, hd⟩ := ruls_open (hval 0 _ v0 rfl rfl) h0
  obtain ⟨t, rfl, ht, rfl⟩ := str_open3 (hval 1 _ v1 rfl rfl) h1
  have hk' := bulk_bound hk
  simp only [Rows.uptoBulkAll, bulk_string] at hk'
  have hz := ruls_small hd (by omega)
  have ht' := Lib.size_eq t
  obtain ⟨AL, cL, rfl⟩ := hl.shape
  exact law_mback AL cL l t W hl hg hok hz (by omega)
set_option maxRecDepth 100000 in
theorem matchBack_met (os : Os) : (Rows.OpenSpec.upto Rows.matchBackSpec).preRow enc Tryd.prog Tryd.f7 [] false signsD ((World.doorLaid Tryd.prog 14 os).forCall (fun _ _ => 0) ⟨#[], #[.slice none 0 0, .string ⟨#[]⟩], []⟩).memory #[.slice none 0 0, .string ⟨#[]⟩] := by
  have hw : (DataW.whole enc Tryd.prog ((World.doorLaid Tryd.prog 14 os).forCall (fun _ _ => 0) ⟨#[], #[.slice none 0 0, .string ⟨#[]⟩], []⟩).memory Tryd.f7.params.toList (Rows.OpenSpec.upto Rows.matchBackSpec).vars false (#[.slice none 0 0, .string ⟨#[]⟩] : Array Value).toList 8).map (fun x => (x.1, x.2.1)) =
      some ([.nil, .lit (.string [])], []) := by kernel_rfl
  obtain ⟨⟨x1, x2, x3⟩, hx, hx1⟩ := Option.map_eq_some_iff.1 hw
  simp only [Prod.mk.injEq] at hx1
  obtain ⟨rfl, rfl⟩ := hx1
  exact OpenSpec.preRow_of_cond 8 hx (by kernel_rfl) (fun k hk => by cases hk; rfl) (by kernel_rfl) (door_plain os _)
set_option maxRecDepth 100000 in
theorem matchBack_lifted (os : Os) (started : os.Started) (H : Type) (enc : TypeId × Value → H) (F : Stop.Interp) :
    ReturnsInHanded {} Tryd.checked os 7 .any ((Rows.OpenSpec.upto Rows.matchBackSpec).preRow enc Tryd.checked.prog Tryd.f7 [] false signsD) (((Rows.OpenSpec.upto Rows.matchBackSpec).at F).post enc Tryd.checked.prog Tryd.f7 false true false false) :=
  law_lifted_door (s := Rows.OpenSpec.upto Rows.matchBackSpec) (s0 := Rows.matchBackSpec) rfl rfl own started (by kernel_rfl) Tryd.func7 (by kernel_rfl) rfl Tryd.underlying4 rfl rfl rfl
    (fun ds h => by obtain ⟨d0, d1, rfl⟩ := list2 h; rfl)
    (door_witness #[.slice none 0 0, .string ⟨#[]⟩] (by kernel_rfl) (by kernel_rfl) (by kernel_rfl) (matchBack_met os))
    matchBack_walk
theorem matchBack_row : Rows.MatchBackUptoSaid :=
  OpenClaim.holds_of_cond 7 Tryd.f7 rfl rfl rfl rfl rfl rfl rfl ⟨rfl, rfl, rfl, rfl, rfl⟩ rfl rfl rfl rfl rfl (by kernel_rfl) Tryd.func7 (by kernel_rfl)
    (of_decide_eq_true (by kernel_rfl)) (by unfold Func.isWrapper; rw [if_neg (of_decide_eq_false (by kernel_rfl))]; exact ⟨rfl, rfl⟩)
    (fun os started H enc _ F => by rw [OpenClaim.pre_eq_preRow]; exact matchBack_lifted os started H enc F)
theorem matchBack_holds : Rows.MatchBackUptoCardSaid :=
  Claim7.holds_tied_plain_at .later [] [.data] true Rows.matchBackUptoCard.stood.harness false
    matchBack_row (fun _ h => by cases h) (by kernel_rfl) (fun _ h => by cases h) matchBackUpto_row_tie rfl ⟨rfl, rfl⟩ (by kernel_rfl) rfl
    (fun f fn hf hfn => by
      obtain rfl : f = 7 := Option.some.inj ((show Tryd.prog.funcNamed "slackwater/slackwaterlaw06.MatchBack" = some 7 by kernel_rfl).symm.trans hf) |>.symm
      obtain rfl : fn = Tryd.f7 := (Option.some.inj (Tryd.func7.symm.trans hfn)).symm
      exact ⟨by kernel_rfl, fun j t ht => by
        rw [Tryd.params7] at ht
        have hm : t ∈ [22, 9] := by simpa using Array.mem_of_getElem? ht
        have hall : ([22, 9].all fun u => !Tryd.prog.wantsStandIn u) = true := by kernel_rfl
        exact (show Tryd.prog.wantsStandIn t = false by simpa using List.all_eq_true.1 hall t hm)⟩)
    (by kernel_rfl)
#print axioms matchBack_holds
end
end Go.Proofs.YtmfbidhnafpkdaaDoor
