import Derived.Test.YtmfbidhnafpkdaaDoorMa
/-! MatchRights: whether any rules may be, and whether they hold of any labels, is the document's answer. Of rules and labels that are together of at most 1048576 letters and parts. -/
namespace Go.Proofs.YtmfbidhnafpkdaaDoor
open Go.RowKit
set_option linter.unusedVariables false
set_option linter.unusedSimpArgs false
theorem szP_of {S : List Par} (h : szP S ≤ 1048576) : ∀ y ∈ S, y.b.size < 4294967281 := fun y hy => by have := szP_mem hy; omega
set_option maxRecDepth 100000 in
set_option maxHeartbeats 16000000 in
theorem law_mrights (AL : Option Addr) (cL : Nat) (l : List Rul) (AS : Option Addr) (cS : Nat) (S : List Par) (w : World) (ha : Rz w (.slice AL l.length cL) l) (hp : Pz w (.slice AS S.length cS) S) (hg : Sg w) (hok : ∀ x ∈ l, x.ok) (hsz : szR l ≤ 5242880) (hsp : szP S ≤ 1048576) :
    Calls Tryd.prog 3 #[.slice AL l.length cL, .slice AS S.length cS] w fun e w' => e = .returned (.bool true) ∧ Below w.heap.size w w' := by
  have hn := szR_len l
  have hm := szP_len S
  have hz := szP_of hsp
  have h2 := fun w h => mright_any (.slice AL l.length cL) l w h hok
  obtain ⟨b1, e1⟩ : ∃ b, rightR l = b := ⟨_, rfl⟩
  obtain ⟨b2, e2⟩ : ∃ b, allL l S = b := ⟨_, rfl⟩
  have E1 := hide e1
  have E2 := hide e2
  have W : ∀ {w w'}, Below w.heap.size w w' → w.heap.size ≤ w'.heap.size := fun h => h.size
  have hd1 : (b1 == b1) = true := by simp
  have hd2 : (b2 == b2) = true := by simp
  clear e1 e2
  go_enter Tryd.func3, Tryd.ntmps3
  go_wp2_with (first
    | (go_at_call 8; (with_reducible refine (mawake_any _ hg).mono ?_); rintro e w1 ⟨rfl, hb1⟩; have c2 := rto_any _ l w1 (ha.below hb1) (by omega))
    | (go_at_call 10; (with_reducible refine c2.mono ?_); rintro e w2 ⟨⟨u2, rfl, ho2⟩, hb2⟩; have hz2 := Rz.own ho2; obtain ⟨B2, d2, rfl⟩ := hz2.shape; have hb02 := hb1.trans (hb2.mono (W hb1)); have c3 := mright_any _ l w2 hz2 hok; rw [E1.out] at c3)
    | (go_at_call 9; (with_reducible refine c3.mono ?_); rintro e w3 ⟨rfl, hb3⟩; have hb03 := hb02.trans (hb3.mono (W hb02)); have c4 := rright_any _ l w3 (ha.below hb03) hok; rw [E1.out] at c4)
    | (go_at_call 11; (with_reducible refine c4.mono ?_); rintro e w4 ⟨rfl, hb4⟩; have hb04 := hb03.trans (hb4.mono (W hb03)); have c5 := rto_any _ l w4 (ha.below hb04) (by omega))
    | (go_at_call 10; (with_reducible refine c5.mono ?_); rintro e w5 ⟨⟨u5, rfl, ho5⟩, hb5⟩; have hz5 := Rz.own ho5; obtain ⟨B5, d5, rfl⟩ := hz5.shape; have hb05 := hb04.trans (hb5.mono (W hb04)); have c6 := lto_any _ S w5 (hp.below hb05) (by omega))
    | (go_at_call 13; (with_reducible refine c6.mono ?_); rintro e w6 ⟨⟨u6, rfl, ho6⟩, hb6⟩; have hz6 := Pz.own ho6; obtain ⟨B6, d6, rfl⟩ := hz6.shape; have hb06 := hb05.trans (hb6.mono (W hb05)); have c7 := mall_any _ _ l S w6 (hz5.below hb6) hz6 (hg.below hb06) hz; rw [E2.out] at c7)
    | (go_at_call 12; (with_reducible refine c7.mono ?_); rintro e w7 ⟨rfl, hb7⟩; have hb07 := hb06.trans (hb7.mono (W hb06)); have c8 := rall_any _ _ l S w7 (ha.below hb07) (hp.below hb07) hz hok; rw [E2.out] at c8)
    | (go_at_call 14; (with_reducible refine c8.mono ?_); rintro e w8 ⟨rfl, hb8⟩; have hb08 := hb07.trans (hb8.mono (W hb07))))
  all_goals
    go_ret
    exact ⟨rfl, hb08⟩
section
open Go.ChangeShapes Go.WideShapes Go.ChangeAt Go.Joins
variable {H : Type} {enc : TypeId × Value → H}
set_option maxRecDepth 100000 in
theorem matchRights_walk : LawWalkD enc 3 Tryd.f3 := by
  intro W base args ds ps hval hA hlt _ hk hs hg
  rw [Tryd.params3] at hA hval hs
  obtain ⟨v0, v1, d0, d1, p0, p1, rfl, rfl, rfl, h0, h1⟩ := trodAll_two hA
  obtain ⟨l, hl, hok, hd⟩ := ruls_open (hval 0 _ v0 rfl rfl) h0
  obtain ⟨S, hS, _, hd2⟩ := pars_open (hval 1 _ v1 rfl rfl) h1
  have hk' := bulk_bound hk
  simp only [Rows.uptoBulkAll] at hk'
  have hz := ruls_small hd (by omega)
  have hz2 := pars_small hd2 (by omega)
  obtain ⟨AL, cL, rfl⟩ := hl.shape
  obtain ⟨AS, cS, rfl⟩ := hS.shape
  exact law_mrights AL cL l AS cS S W hl hS hg hok hz hz2
set_option maxRecDepth 100000 in
theorem matchRights_met (os : Os) : (Rows.OpenSpec.upto Rows.matchRightsSpec).preRow enc Tryd.prog Tryd.f3 [] false signsD ((World.doorLaid Tryd.prog 14 os).forCall (fun _ _ => 0) ⟨#[], #[.slice none 0 0, .slice none 0 0], []⟩).memory #[.slice none 0 0, .slice none 0 0] := by
  have hw : (DataW.whole enc Tryd.prog ((World.doorLaid Tryd.prog 14 os).forCall (fun _ _ => 0) ⟨#[], #[.slice none 0 0, .slice none 0 0], []⟩).memory Tryd.f3.params.toList (Rows.OpenSpec.upto Rows.matchRightsSpec).vars false (#[.slice none 0 0, .slice none 0 0] : Array Value).toList 8).map (fun x => (x.1, x.2.1)) =
      some ([.nil, .nil], []) := by kernel_rfl
  obtain ⟨⟨x1, x2, x3⟩, hx, hx1⟩ := Option.map_eq_some_iff.1 hw
  simp only [Prod.mk.injEq] at hx1
  obtain ⟨rfl, rfl⟩ := hx1
  exact OpenSpec.preRow_of_cond 8 hx (by kernel_rfl) (fun k hk => by cases hk; rfl) (by kernel_rfl) (door_plain os _)
set_option maxRecDepth 100000 in
theorem matchRights_lifted (os : Os) (started : os.Started) (H : Type) (enc : TypeId × Value → H) (F : Stop.Interp) :
    ReturnsInHanded {} Tryd.checked os 3 .any ((Rows.OpenSpec.upto Rows.matchRightsSpec).preRow enc Tryd.checked.prog Tryd.f3 [] false signsD) (((Rows.OpenSpec.upto Rows.matchRightsSpec).at F).post enc Tryd.checked.prog Tryd.f3 false true false false) :=
  law_lifted_door (s := Rows.OpenSpec.upto Rows.matchRightsSpec) (s0 := Rows.matchRightsSpec) rfl rfl own started (by kernel_rfl) Tryd.func3 (by kernel_rfl) rfl Tryd.underlying4 rfl rfl rfl
    (fun ds h => by obtain ⟨d0, d1, rfl⟩ := list2 h; rfl)
    (door_witness #[.slice none 0 0, .slice none 0 0] (by kernel_rfl) (by kernel_rfl) (by kernel_rfl) (matchRights_met os))
    matchRights_walk
theorem matchRights_row : Rows.MatchRightsUptoSaid :=
  OpenClaim.holds_of_cond 3 Tryd.f3 rfl rfl rfl rfl rfl rfl rfl ⟨rfl, rfl, rfl, rfl, rfl⟩ rfl rfl rfl rfl rfl (by kernel_rfl) Tryd.func3 (by kernel_rfl)
    (of_decide_eq_true (by kernel_rfl)) (by unfold Func.isWrapper; rw [if_neg (of_decide_eq_false (by kernel_rfl))]; exact ⟨rfl, rfl⟩)
    (fun os started H enc _ F => by rw [OpenClaim.pre_eq_preRow]; exact matchRights_lifted os started H enc F)
theorem matchRights_holds : Rows.MatchRightsUptoCardSaid :=
  Claim7.holds_tied_plain_at .later [] [.data] true Rows.matchRightsUptoCard.stood.harness false
    matchRights_row (fun _ h => by cases h) (by kernel_rfl) (fun _ h => by cases h) matchRightsUpto_row_tie rfl ⟨rfl, rfl⟩ (by kernel_rfl) rfl
    (fun f fn hf hfn => by
      obtain rfl : f = 3 := Option.some.inj ((show Tryd.prog.funcNamed "slackwater/slackwaterlaw06.MatchRights" = some 3 by kernel_rfl).symm.trans hf) |>.symm
      obtain rfl : fn = Tryd.f3 := (Option.some.inj (Tryd.func3.symm.trans hfn)).symm
      exact ⟨by kernel_rfl, fun j t ht => by
        rw [Tryd.params3] at ht
        have hm : t ∈ [22, 23] := by simpa using Array.mem_of_getElem? ht
        have hall : ([22, 23].all fun u => !Tryd.prog.wantsStandIn u) = true := by kernel_rfl
        exact (show Tryd.prog.wantsStandIn t = false by simpa using List.all_eq_true.1 hall t hm)⟩)
    (by kernel_rfl)
#print axioms matchRights_holds
end
end Go.Proofs.YtmfbidhnafpkdaaDoor
