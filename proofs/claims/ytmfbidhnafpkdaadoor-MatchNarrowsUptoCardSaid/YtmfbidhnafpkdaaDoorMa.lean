import Derived.Test.YtmfbidhnafpkdaaDoorMo
/-! MatchTexts: any rules' text, and the rules with which any text begins, are the document's. Of rules and a text that are together of at most 1048576 letters and parts. -/
namespace Go.Proofs.YtmfbidhnafpkdaaDoor
open Go.RowKit
set_option linter.unusedVariables false
set_option linter.unusedSimpArgs false
theorem psq_len (T : List UInt8) : (psq T).1.length ≤ 16 := by
  have key : ∀ (N : List UInt8 → Option Nat) (C : List Rul → Bool) (f : Nat) (r : List UInt8) (a : Nat) (out o : List Rul) (e : Nat), prq N C f r a out = some (o, e) → o.length ≤ 16 := by
    intro N C f
    induction f with
    | zero => intro r a out o e h; cases h
    | succ f ih =>
      intro r a out o e h
      unfold prq at h
      split at h
      · split at h
        · cases h
        · unfold stq at h
          split at h
          · cases h
          · split at h
            · cases h
            · split at h
              · cases h
              · split at h
                · split at h
                  · rename_i hr
                    cases h
                    unfold rightR at hr
                    simp only [Bool.and_eq_true, decide_eq_true_eq] at hr
                    exact hr.1
                  · cases h
                · split at h
                  · exact ih _ _ _ _ _ h
                  · cases h
      · cases h
  unfold psq
  split
  · simp
  · split
    · simp
    · cases hq : prq (fun r => scn r 32) (fun _ => true) T.length (T.drop 1) 1 [] with
      | none => simp [psqO]
      | some p => obtain ⟨o, e⟩ := p; exact key _ _ _ _ _ _ _ _ hq
set_option maxRecDepth 100000 in
set_option maxHeartbeats 16000000 in
theorem law_mtexts (AL : Option Addr) (cL : Nat) (l : List Rul) (t : ByteArray) (w : World) (ha : Rz w (.slice AL l.length cL) l) (hg : Sg w) (hsz : szR l ≤ 5242880) (ht : t.size ≤ 3000000000000) :
    Calls Tryd.prog 6 #[.slice AL l.length cL, .string t] w fun e w' => e = .returned (.bool true) ∧ Below w.heap.size w w' := by
  have hsh := shortR_of (l := l) (by omega)
  have hn := szR_len l
  have h1 := fun w hg => mparse_any t ht w hg
  have h2 := fun w => rparse_any t ht w
  have hl := psq_len t.data.toList
  generalize (psq t.data.toList).2 = E at *
  generalize (psq t.data.toList).1 = XX at *
  generalize htx : rtB l = tx
  have htx := hide htx
  clear ht
  go_enter Tryd.func6, Tryd.ntmps6
  go_wp2_with (first
    | (go_at_call 17; (with_reducible refine (h1 _ hg).mono ?_); rintro e w1 ⟨⟨u1, rfl, hX⟩, hb1⟩; obtain ⟨AX, cX, rfl⟩ := hX.shape)
    | (go_at_call 18; (with_reducible refine (h2 _).mono ?_); rintro e w2 ⟨⟨u2, rfl, hY⟩, hb2⟩; obtain ⟨AY, cY, rfl⟩ := hY.shape; have hX2 := hX.below hb2; have hb02 := hb1.trans (hb2.mono hb1.size))
    | (go_at_call 8; (with_reducible refine (mawake_any _ (hg.below hb02)).mono ?_); rintro e w3 ⟨rfl, hb3⟩; have hX3 := hX2.below hb3; have hY3 := hY.below hb3; have hb03 := hb02.trans (hb3.mono hb02.size); have hm := rto_any _ l w3 (ha.below hb03) (by omega))
    | (go_at_call 10; (with_reducible refine hm.mono ?_); rintro e w4 ⟨⟨u4, rfl, ho4⟩, hb4⟩; have hz4 := Rz.own ho4; obtain ⟨B4, d4, rfl⟩ := hz4.shape; have hX4 := hX3.below hb4; have hY4 := hY3.below hb4; have hb04 := hb03.trans (hb4.mono hb03.size); have ht4 := mtext_any _ l w4 hz4 hsh (hg.below hb04); rw [htx.out] at ht4)
    | (go_at_call 19; (with_reducible refine ht4.mono ?_); rintro e w5 ⟨rfl, hb5⟩; have hX5 := hX4.below hb5; have hY5 := hY4.below hb5; have hb05 := hb04.trans (hb5.mono hb04.size); have ht5 := rrtext_any _ l w5 (ha.below hb05) hsh; rw [htx.out] at ht5)
    | (go_at_call 20; (with_reducible refine ht5.mono ?_); rintro e w6 ⟨rfl, hb6⟩; have hX6 := hX5.below hb6; have hY6 := hY5.below hb6; have hb06 := hb05.trans (hb6.mono hb05.size); have hf := rfrom_any _ XX w6 hX6 (by omega))
    | (go_at_call 22; (with_reducible refine hf.mono ?_); rintro e w7 ⟨⟨u7, rfl, ho7⟩, hb7⟩; have hz7 := Rz.own ho7; obtain ⟨B7, d7, rfl⟩ := hz7.shape; have hb07 := hb06.trans (hb7.mono hb06.size); have hs := rsameR_any _ _ XX w7 hz7 (hY6.below hb7))
    | (go_at_call 21; (with_reducible refine hs.mono ?_); rintro e w8 ⟨rfl, hb8⟩; have hb08 := hb07.trans (hb8.mono hb07.size)))
  all_goals
    go_ret
    exact ⟨rfl, hb08⟩
section
open Go.ChangeShapes Go.WideShapes Go.ChangeAt Go.Joins
variable {H : Type} {enc : TypeId × Value → H}
set_option maxRecDepth 100000 in
theorem matchTexts_walk : LawWalkD enc 6 Tryd.f6 := by
  intro W base args ds ps hval hA hlt _ hk hs hg
  rw [Tryd.params6] at hA hval hs
  obtain ⟨v0, v1, d0, d1, p0, p1, rfl, rfl, rfl, h0, h1⟩ := trodAll_two hA
  obtain ⟨l, hl, hok, hd⟩ := ruls_open (hval 0 _ v0 rfl rfl) h0
  obtain ⟨t, rfl, ht, rfl⟩ := str_open3 (hval 1 _ v1 rfl rfl) h1
  have hk' := bulk_bound hk
  simp only [Rows.uptoBulkAll, bulk_string] at hk'
  have hz := ruls_small hd (by omega)
  have ht' := Lib.size_eq t
  obtain ⟨AL, cL, rfl⟩ := hl.shape
  exact law_mtexts AL cL l t W hl hg hz (by omega)
set_option maxRecDepth 100000 in
theorem matchTexts_met (os : Os) : (Rows.OpenSpec.upto Rows.matchTextsSpec).preRow enc Tryd.prog Tryd.f6 [] false signsD ((World.doorLaid Tryd.prog 14 os).forCall (fun _ _ => 0) ⟨#[], #[.slice none 0 0, .string ⟨#[]⟩], []⟩).memory #[.slice none 0 0, .string ⟨#[]⟩] := by
  have hw : (DataW.whole enc Tryd.prog ((World.doorLaid Tryd.prog 14 os).forCall (fun _ _ => 0) ⟨#[], #[.slice none 0 0, .string ⟨#[]⟩], []⟩).memory Tryd.f6.params.toList (Rows.OpenSpec.upto Rows.matchTextsSpec).vars false (#[.slice none 0 0, .string ⟨#[]⟩] : Array Value).toList 8).map (fun x => (x.1, x.2.1)) =
      some ([.nil, .lit (.string [])], []) := by kernel_rfl
  obtain ⟨⟨x1, x2, x3⟩, hx, hx1⟩ := Option.map_eq_some_iff.1 hw
  simp only [Prod.mk.injEq] at hx1
  obtain ⟨rfl, rfl⟩ := hx1
  exact OpenSpec.preRow_of_cond 8 hx (by kernel_rfl) (fun k hk => by cases hk; rfl) (by kernel_rfl) (door_plain os _)
set_option maxRecDepth 100000 in
theorem matchTexts_lifted (os : Os) (started : os.Started) (H : Type) (enc : TypeId × Value → H) (F : Stop.Interp) :
    ReturnsInHanded {} Tryd.checked os 6 .any ((Rows.OpenSpec.upto Rows.matchTextsSpec).preRow enc Tryd.checked.prog Tryd.f6 [] false signsD) (((Rows.OpenSpec.upto Rows.matchTextsSpec).at F).post enc Tryd.checked.prog Tryd.f6 false true false false) :=
  law_lifted_door (s := Rows.OpenSpec.upto Rows.matchTextsSpec) (s0 := Rows.matchTextsSpec) rfl rfl own started (by kernel_rfl) Tryd.func6 (by kernel_rfl) rfl Tryd.underlying4 rfl rfl rfl
    (fun ds h => by obtain ⟨d0, d1, rfl⟩ := list2 h; rfl)
    (door_witness #[.slice none 0 0, .string ⟨#[]⟩] (by kernel_rfl) (by kernel_rfl) (by kernel_rfl) (matchTexts_met os))
    matchTexts_walk
theorem matchTexts_row : Rows.MatchTextsUptoSaid :=
  OpenClaim.holds_of_cond 6 Tryd.f6 rfl rfl rfl rfl rfl rfl rfl ⟨rfl, rfl, rfl, rfl, rfl⟩ rfl rfl rfl rfl rfl (by kernel_rfl) Tryd.func6 (by kernel_rfl)
    (of_decide_eq_true (by kernel_rfl)) (by unfold Func.isWrapper; rw [if_neg (of_decide_eq_false (by kernel_rfl))]; exact ⟨rfl, rfl⟩)
    (fun os started H enc _ F => by rw [OpenClaim.pre_eq_preRow]; exact matchTexts_lifted os started H enc F)
theorem matchTexts_holds : Rows.MatchTextsUptoCardSaid :=
  Claim7.holds_tied_plain_at .later [] [.data] true Rows.matchTextsUptoCard.stood.harness false
    matchTexts_row (fun _ h => by cases h) (by kernel_rfl) (fun _ h => by cases h) matchTextsUpto_row_tie rfl ⟨rfl, rfl⟩ (by kernel_rfl) rfl
    (fun f fn hf hfn => by
      obtain rfl : f = 6 := Option.some.inj ((show Tryd.prog.funcNamed "slackwater/slackwaterlaw06.MatchTexts" = some 6 by kernel_rfl).symm.trans hf) |>.symm
      obtain rfl : fn = Tryd.f6 := (Option.some.inj (Tryd.func6.symm.trans hfn)).symm
      exact ⟨by kernel_rfl, fun j t ht => by
        rw [Tryd.params6] at ht
        have hm : t ∈ [22, 9] := by simpa using Array.mem_of_getElem? ht
        have hall : ([22, 9].all fun u => !Tryd.prog.wantsStandIn u) = true := by kernel_rfl
        exact (show Tryd.prog.wantsStandIn t = false by simpa using List.all_eq_true.1 hall t hm)⟩)
    (by kernel_rfl)
#print axioms matchTexts_holds
end
end Go.Proofs.YtmfbidhnafpkdaaDoor
