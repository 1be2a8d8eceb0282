import Derived.Test.YtmfbidhnafpkdaaPc
import Derived.Test.YtmfbidhnafpkdaaRt
import Derived.Test.YtmfbidhnafpkdaaDraw
import Derived.WalkSpells
import Derived.WalkLawsBesides
import Derived.WalkMore
/-! The set that a text is. -/
namespace Go.Proofs.Ytmfbidhnafpkdaa
open Go.RowKit
set_option linter.unusedVariables false
set_option linter.unusedSimpArgs false
def psO (T : List UInt8) : Option (List Par) :=
  if 4096 < T.length ∨ T.length < 2 ∨ T.head? ≠ some 123 then none
  else if T.drop 1 = [125] then some [] else prs T.length (T.drop 1) []
def psEo : Option (List Par) → Int
  | none => 10
  | some out => if rightL out then 0 else 40
def psRo : Option (List Par) → List Par
  | none => []
  | some out => if rightL out then out else []
def psE (T : List UInt8) : Int := psEo (psO T)
def psR (T : List UInt8) : List Par := psRo (psO T)
theorem toL_eq (r : ByteArray) (l : List UInt8) : (r.toList == l) = decide (r.data.toList = l) := by
  rw [ByteArray.toList_eq, Bool.eq_iff_iff]
  simp
theorem head_at {s : ByteArray} (h : 0 < s.size) : s.data.toList.head? = some s[0] := by
  have := drop_at h
  rw [List.drop_zero] at this
  rw [this]
  rfl
theorem uqT_some (p : List UInt8 × Nat) : uqT (some p) = ⟨p.1.toArray⟩ := rfl
def lenOf : Value → Nat
  | .string s => s.size
  | _ => 0
theorem own_keep3 {w w' : World} {base size n : Nat} {e : TypeId} {v : Value} {xs : List Value} (h : w.ownsRow base e size v n xs) (hb : Below w.heap.size w w') : w'.ownsRow base e size v n xs := by
  refine ⟨h.1, ?_⟩
  rcases h.2 with h' | ⟨g, cap, cur, hv, hb', hh, r⟩
  · exact .inl h'
  · exact .inr ⟨g, cap, cur, hv, hb', (hb.block g (Blk.lt hh)).trans hh, r⟩
theorem psV_snoc (acc : List Par) (x : Par) : psV acc ++ x.cells = psV (acc ++ [x]) := by
  rw [psV_append]
  simp [psV, rowsV]
set_option maxRecDepth 100000 in
set_option maxHeartbeats 16000000 in
theorem pparse_any (s : ByteArray) (hs : s.size ≤ maxLen) (w : World) :
    Calls Try.prog 30 #[.string s] w fun e w' => (∃ u, e = .returned (.tuple #[u, .int .i64 (psE s.data.toList)]) ∧ Pz w' u (psR s.data.toList)) ∧ Below w.heap.size w w' := by
  obtain ⟨i0, hi, hz0, hz1, hz2⟩ := info_parts infoP
  unfold maxLen at hs
  have hsz := Lib.size_eq s
  have hbadE : psO s.data.toList = none → psE s.data.toList = 10 ∧ psR s.data.toList = [] := fun e0 => by unfold psE psR; rw [e0]; exact ⟨rfl, rfl⟩
  by_cases h4 : 4096 < s.size
  · have d4 : decide ((4096 : Int) < s.size) = true := decide_eq_true (by omega)
    obtain ⟨e1, e2⟩ := hbadE (by unfold psO; rw [if_pos (.inl (by omega))])
    rw [e1, e2]
    clear e1 e2 hsz h4 hbadE
    go_enter Try.func30, Try.ntmps30
    go_wp2
    go_step3
    go_wp2
    (try rw [Exit.noGoto_ret])
    refine bodyPost_ret (v := .tuple #[.slice none 0 0, .int .i64 10]) (by simp [results, Try.results30, go_sem] <;> rfl) rfl ⟨⟨_, rfl, Pz.nil _⟩, ?_⟩
    exact Below.refl _ _
  have d4 : decide ((4096 : Int) < s.size) = false := decide_eq_false (by omega)
  by_cases h2 : s.size < 2
  · have d2 : decide ((s.size : Int) < 2) = true := decide_eq_true (by omega)
    obtain ⟨e1, e2⟩ := hbadE (by unfold psO; rw [if_pos (.inr (.inl (by omega)))])
    rw [e1, e2]
    clear e1 e2 hsz h4 hbadE h2
    go_enter Try.func30, Try.ntmps30
    go_wp2
    go_step3
    go_wp2
    (try rw [Exit.noGoto_ret])
    refine bodyPost_ret (v := .tuple #[.slice none 0 0, .int .i64 10]) (by simp [results, Try.results30, go_sem] <;> rfl) rfl ⟨⟨_, rfl, Pz.nil _⟩, ?_⟩
    exact Below.refl _ _
  have d2 : decide ((s.size : Int) < 2) = false := decide_eq_false (by omega)
  have h0 : 0 < s.size := by omega
  have h0i : (0 : Int) < s.size := by omega
  by_cases h1 : s[0].toNat = 123
  · have d1 : ((s[0].toNat : Int) != 123) = false := by simp; omega
    have d1' : ((s[0].toNat : Int) == 123) = true := by simp; omega
    have hh : s.data.toList.head? = some 123 := by rw [head_at h0]; congr 1; exact UInt8.toNat_inj.1 h1
    have hex : (s.extract 1 s.size).data.toList = s.data.toList.drop 1 := by rw [Lib.extract_data, List.take_of_length_le (by rw [List.length_drop]; omega)]
    obtain ⟨r, hr⟩ : ∃ r, s.extract 1 s.size = r := ⟨_, rfl⟩
    rw [hr] at hex
    have hrz : r.size = s.size - 1 := by rw [Lib.size_eq, hex, List.length_drop]; omega
    have i1 : (1 : Int) ≤ s.size := by omega
    have hb1 := toL_eq r [125]
    obtain ⟨q, hq⟩ : ∃ q, w.heap.size = q := ⟨_, rfl⟩
    by_cases hone : r.data.toList = [125]
    · rw [decide_eq_true hone] at hb1
      have e0 : psO s.data.toList = some [] := by
        unfold psO
        rw [if_neg (by rw [hh]; simp; omega), ← hex, if_pos hone]
      have e1 : psE s.data.toList = 0 := by unfold psE; rw [e0]; rfl
      have e2 : psR s.data.toList = [] := by unfold psR; rw [e0]; rfl
      have hst : textB [] = s := by
        have f4 : s.data.toList = 123 :: r.data.toList := by
          rw [hex]
          cases hl : s.data.toList with
          | nil => rw [hl] at hh; cases hh
          | cons a b => rw [hl] at hh; cases hh; rfl
        rw [hone] at f4
        rw [← Lib.mk_data s, f4]
        rfl
      have hsh0 : Short [] := ⟨by simp, (fun x hx => by cases hx), by simp [joinB, Lib.join_nil]⟩
      have hR1 := fun w => pright_any (.slice none 0 0) [] w (Pz.nil w) (fun x hx => by cases hx)
      have hT := fun w => ptext_any (.slice none 0 0) [] w (Pz.nil w) hsh0
      have er : rightL [] = true := rfl
      rw [er] at hR1
      rw [hst] at hT
      rw [e1, e2]
      clear hst e0 e1 e2 hbadE hsz hh h1 h4 h2 hone hex hsh0 er
      go_enter Try.func30, Try.ntmps30
      go_wp2
      go_step3
      go_wp2
      go_step3
      go_wp2
      clear d1 d1' d2 d4 hr
      go_loopw [4, 5] (fun s4 s5 wr => s4 = .slice none 0 0 ∧ s5 = .string r ∧ wr = w) (fun _ s5 _ => lenOf s5)
      case atStart => exact ⟨rfl, rfl, rfl⟩
      case round =>
        obtain ⟨rfl, rfl, rfl⟩ := hrel
        go_wp2_with (first | (go_at_call 20; (with_reducible refine (hR1 _).mono ?_); rintro e w3 ⟨rfl, hb3⟩) | (go_at_call 32; (with_reducible refine (hT _).mono ?_); rintro e w4 ⟨rfl, hb4⟩))
        (try rw [Exit.noGoto_ret])
        refine bodyPost_ret (v := .tuple #[.slice none 0 0, .int .i64 0]) (by simp [results, Try.results30, go_sem] <;> rfl) rfl ⟨⟨.slice none 0 0, rfl, Pz.nil _⟩, hb3.trans (hb4.mono hb3.size)⟩
    · rw [decide_eq_false hone] at hb1
      have e0 : psO s.data.toList = prs s.size r.data.toList [] := by
        unfold psO
        rw [if_neg (by rw [hh]; simp; omega), ← hex, if_neg hone, ← hsz]
      generalize hR : prs s.size r.data.toList [] = R at *
      have e1 : psE s.data.toList = psEo R := by unfold psE; rw [e0]
      have e2 : psR s.data.toList = psRo R := by unfold psR; rw [e0]
      rw [e1, e2]
      have htx := hide (show ∀ out, R = some out → textB out = s from fun out ho => by
        obtain ⟨new, f1, _, f3⟩ := prs_text s.size r.data.toList [] (hR.trans ho)
        rw [List.nil_append] at f1
        subst f1
        have f4 : s.data.toList = 123 :: r.data.toList := by
          rw [hex]
          cases hl : s.data.toList with
          | nil => rw [hl] at hh; cases hh
          | cons a b => rw [hl] at hh; cases hh; rfl
        unfold textB
        rw [← f3, ← f4])
      have hsN := hide (show s.size ≤ 4096 from by omega)
      have hr' := hide hr
      have hone := hide hone
      clear e0 e1 e2 hbadE hsz hh h1 h4 h2
      have hrl : r.data.toList.length ≤ s.size := by have := Lib.size_eq r; omega
      go_enter Try.func30, Try.ntmps30
      go_wp2
      go_step3
      go_wp2
      go_step3
      go_wp2
      clear hb1 d1 d1' d2 d4 hr hex
      go_loopw [4, 5] (fun s4 s5 wr => ∃ (f : Nat) (acc : List Par) (re : ByteArray), re.size ≤ f ∧ re.size + acc.length ≤ s.size ∧ s5 = .string re ∧ re.data.toList ≠ [125] ∧ prs f re.data.toList acc = R ∧ (∀ x ∈ acc, x.a.size ≤ 4096 ∧ x.b.size ≤ 4096) ∧ wr.ownsRow q 49 2 s4 acc.length (psV acc) ∧ Below q w wr) (fun _ s5 _ => lenOf s5)
      case atStart => exact ⟨s.size, [], r, by omega, by simp; omega, rfl, hone.out, hR, (fun x hx => by cases hx), World.ownsRow_nil _ _ _ _, by rw [← hq]; exact Below.refl _ _⟩
      case round =>
        obtain ⟨f, acc, re, hf, hfa, rfl, hne, hR, hok, hown, hb⟩ := hrel
        have hqw : q ≤ wr.heap.size := by rw [← hq]; exact hb.size
        have hnb := toL_eq re [125]
        rw [decide_eq_false hne] at hnb
        have hsl := Lib.size_eq re
        have hC := fun w => pcut_any re (by have := hsN.out; omega) w
        cases hfe : fE re.data.toList with
        | none =>
          rw [prs_noeq hfe] at hR
          subst hR
          unfold cutE at hC
          rw [hfe] at hC
          dsimp only at hC
          rw [Lib.mk_data] at hC
          have hU := fun w => punq_any ⟨#[]⟩ (show (0 : Nat) ≤ 140737488355328 by omega) w
          have eU : uqL (⟨#[]⟩ : ByteArray).data.toList = none := rfl
          rw [eU] at hU
          clear hfe hne hf hfa hsl
          go_wp2_with (first | (go_at_call 43; (with_reducible refine (hC _).mono ?_); rintro e w1 ⟨rfl, hb1⟩) | (go_at_call 25; (with_reducible refine (hU _).mono ?_); rintro e w2 ⟨rfl, hb2⟩))
          (try rw [Exit.noGoto_ret])
          refine bodyPost_ret (v := .tuple #[.slice none 0 0, .int .i64 10]) (by simp [results, Try.results30, go_sem] <;> rfl) rfl ⟨⟨_, rfl, Pz.nil _⟩, ?_⟩
          rw [hq]
          exact hb.trans ((hb1.trans (hb2.mono hb1.size)).mono hqw)
        | some i =>
          obtain ⟨hi, _, _⟩ := fE_some hfe
          have hcu : cutE re.data.toList = (⟨(re.data.toList.take i).toArray⟩, ⟨(re.data.toList.drop (i + 1)).toArray⟩, true) := by unfold cutE; rw [hfe]
          rw [hcu] at hC
          dsimp only at hC
          obtain ⟨na, hna⟩ : ∃ na, (⟨(re.data.toList.take i).toArray⟩ : ByteArray) = na := ⟨_, rfl⟩
          obtain ⟨mo, hmo⟩ : ∃ mo, (⟨(re.data.toList.drop (i + 1)).toArray⟩ : ByteArray) = mo := ⟨_, rfl⟩
          rw [hna, hmo] at hC
          have hmd : mo.data.toList = re.data.toList.drop (i + 1) := by rw [← hmo]
          have hmz : mo.size = re.size - (i + 1) := by rw [Lib.size_eq, hmd, List.length_drop]; omega
          have hnz : na.size ≤ 4096 := by
            have := hsN.out
            rw [Lib.size_eq, ← hna]
            show (re.data.toList.take i).length ≤ 4096
            rw [List.length_take]; omega
          have hU := fun w => punq_any mo (by have := hsN.out; omega) w
          rw [hmd] at hU
          obtain ⟨f', rfl⟩ : ∃ f', f = f' + 1 := ⟨f - 1, by omega⟩
          rw [prs_step hfe, hna] at hR
          cases hu : uqL (re.data.toList.drop (i + 1)) with
          | none =>
            rw [hu] at hU hR
            dsimp only [uqT, uqN] at hU hR
            subst hR
            clear hfe hne hf hfa hsl hi hcu hna hmo hmd hmz hnz hu
            go_wp2_with (first | (go_at_call 43; (with_reducible refine (hC _).mono ?_); rintro e w1 ⟨rfl, hb1⟩) | (go_at_call 25; (with_reducible refine (hU _).mono ?_); rintro e w2 ⟨rfl, hb2⟩))
            (try rw [Exit.noGoto_ret])
            refine bodyPost_ret (v := .tuple #[.slice none 0 0, .int .i64 10]) (by simp [results, Try.results30, go_sem] <;> rfl) rfl ⟨⟨_, rfl, Pz.nil _⟩, ?_⟩
            rw [hq]
            exact hb.trans ((hb1.trans (hb2.mono hb1.size)).mono hqw)
          | some p =>
            obtain ⟨v, n⟩ := p
            obtain ⟨hn1, hn2⟩ := uqL_len hu
            rw [List.length_drop] at hn1
            have hvl : v.length ≤ n := by
              obtain ⟨_, _, e5⟩ := uqL_inv hu
              rw [e5]
              have := qB_len1 v
              simp only [qL, List.length_cons, List.length_append, List.length_nil]; omega
            rw [hu] at hU hR
            dsimp only [uqT, uqN] at hU hR
            obtain ⟨vv, hvv⟩ : ∃ vv, (⟨v.toArray⟩ : ByteArray) = vv := ⟨_, rfl⟩
            rw [hvv] at hU hR
            have hvz : vv.size ≤ 4096 := by
              have := hsN.out
              rw [← hvv]
              show v.toArray.size ≤ 4096
              simp; omega
            obtain ⟨r2, hr2⟩ : ∃ r2, mo.extract n mo.size = r2 := ⟨_, rfl⟩
            have hr2d : r2.data.toList = re.data.toList.drop (i + 1 + n) := by
              rw [← hr2, Lib.extract_data, hmd, List.drop_drop, List.take_of_length_le (by rw [List.length_drop]; omega)]
            rw [← hr2d] at hR
            have hr2z : r2.size + (i + 1) + n = re.size := by rw [Lib.size_eq, hr2d, List.length_drop]; omega
            obtain ⟨x, hx⟩ : ∃ x : Par, x = ⟨na, vv⟩ := ⟨_, rfl⟩
            have hxa : na = x.a := by rw [hx]
            have hxb : vv = x.b := by rw [hx]
            rw [← hx] at hR
            subst hxa hxb
            have hok' : ∀ y ∈ acc ++ [x], y.a.size ≤ 4096 ∧ y.b.size ≤ 4096 := fun y hy => by
              rcases List.mem_append.1 hy with h | h
              · exact hok y h
              · rw [List.mem_singleton.1 h]; exact ⟨hnz, hvz⟩
            have hfa' : r2.size + (acc ++ [x]).length ≤ s.size := by simp; omega
            have ha4 : acc.length ≤ 4096 := by have := hsN.out; omega
            have eA := hide (psV_snoc acc x)
            have hn0 : ((n : Int) == 0) = false := by simp; omega
            have hn0' : ¬ ((n : Int) = 0) := by omega
            have hn0n : ¬ (n = 0) := by omega
            have j1 : (0 : Int) ≤ n := by omega
            have j2 : (n : Int) ≤ mo.size := by omega
            have hb2 := toL_eq r2 [125]
            have hf' : r2.size ≤ f' + 1 := by omega
            have hFF := hide (⟨hf, hfa', hr2z, hok', hf'⟩ : _ ∧ _ ∧ _ ∧ _ ∧ _)
            clear hfe hne hf hfa hsl hi hcu hna hmo hmd hmz hnz hu hn1 hn2 hvl hvv hvz hr2d hr2z hx hok hok' hfa' hf'
            by_cases hA : r2.data.toList = [125]
            · rw [decide_eq_true hA] at hb2
              rw [if_pos hA] at hR
              have hA := hide hA
              subst hR
              go_wp2_with (first
                | (go_at_call 43; (with_reducible refine (hC _).mono ?_); rintro e w1 ⟨rfl, hb1⟩)
                | (go_at_call 25; (with_reducible refine (hU _).mono ?_); rintro e w2 ⟨rfl, hb2'⟩; have hb12 := hb1.trans (hb2'.mono hb1.size); have hown2 := own_keep3 hown hb12; have hb02 : Below q w w2 := hb.trans (hb12.mono hqw); have hq2 : q ≤ w2.heap.size := Nat.le_trans hqw hb12.size))
              obtain ⟨p, hpo⟩ : ∃ p, ∀ k, Value.ownBlock u4 = some k → k = p := by
                cases hu : Value.ownBlock u4 with
                | none => exact ⟨0, fun k e => by cases e⟩
                | some k => exact ⟨k, fun k' e => by cases e; rfl⟩
              refine wp_region_only p [8] [0, 1, 2, 3, 6, 7] [(true, false, 0), (true, false, 1), (true, false, 2), (true, false, 3), (true, false, 6), (true, false, 7), (true, true, 8), (false, true, 4), (false, true, 5), (false, true, 9), (false, false, 10)] (by kernel_rfl) (by kernel_rfl) (fun Y => ?_); simp only [List.map_cons, List.map_nil, List.getD_cons_zero, List.getD_cons_succ]
              (repeat (first | (refine First.wpF_pure (fun K hK => ?_); go_simp; first | (refine hK _ _ ?_; clear hK K) | (apply Exists.intro; refine ⟨fun _ => ?_, hK _ _ ?_⟩; fail)) | (refine First.wpF_free (fun K hK => ?_); go_simp; first | (refine hK _ _ ?_; clear hK K))))
              refine first_read rfl (v := .string r2) (fun w' hw' => ?_) (fun K hK => ?_)
              rotate_left 1
              go_simp
              refine hK _ _ ?_
              clear hK K
              rotate_left 1
              · go_simp
              (repeat (first | (refine First.wpF_pure (fun K hK => ?_); go_simp; first | (refine hK _ _ ?_; clear hK K) | (apply Exists.intro; refine ⟨fun _ => ?_, hK _ _ ?_⟩; fail)) | (refine First.wpF_free (fun K hK => ?_); go_simp; first | (refine hK _ _ ?_; clear hK K))))
              have hown3 : (w2.ext Y).ownsRow q 49 2 u4 acc.length (psV acc) := own_keep3 hown2 (World.below_ext _ _)
              have hb03 : Below q w (w2.ext Y) := hb02.trans ((World.below_ext _ _).mono hq2)
              have hq3 : q ≤ (w2.ext Y).heap.size := by rw [World.size_ext]; omega
              clear hown hown2 hb1 hb2' hb12 hb02 hb
              generalize w2.ext Y = W0 at *
              refine First.wpF_must (fun K hK => ?_)
              go_wp2
              (refine hK _ _ (fun hnd => by first | exact Bool.noConfusion hnd | exact Only.of_below (Below.alloc (Below.refl _ _) (Nat.le_refl _) _)) ?_; clear hK K)
              (repeat (first | (refine First.wpF_pure (fun K hK => ?_); go_simp; first | (refine hK _ _ ?_; clear hK K) | (apply Exists.intro; refine ⟨fun _ => ?_, hK _ _ ?_⟩; fail)) | (refine First.wpF_free (fun K hK => ?_); go_simp; first | (refine hK _ _ ?_; clear hK K))))
              refine First.wpF_must (fun K hK => ?_)
              refine wpList_append_own _ rfl (.tmp 45) (.tmp 49) 25 rfl q 49 i0 (.agg #[.string ⟨#[]⟩, .string ⟨#[]⟩]) 2 32 Try.underlying25 hi hz0 hz1 hz2 rfl (by decide) _ acc.length _ rfl (hown3.alloc _) ⟨W0.heap.size, 0, none⟩ 1 1 x.cells rfl rfl ?c1 ?c2 ?c3 ?c4 ?c5 ?_
              case c1 => first | exact fun j u hu => hu | exact cells_new_at _ #[.string x.a, .string x.b] _ rfl | exact cells_new_at _ #[.string x.a, .string x.b] _ (by simp)
              case c2 => exact fun u hu => psV_one (l := [x]) (by rw [psV_cons]; exact List.mem_append_left _ hu)
              case c3 => unfold maxLen; omega
              case c4 => omega
              case c5 => first | omega | (simp; omega)
              intro v' W1 hown1 hg1 _
              have hB1 := own_below (hb03.alloc hq3 _) (hown3.alloc _) hg1 (Nat.le_refl _) (by simp; omega)
              rw [eA.out] at hown1
              have hl1 : acc.length + 1 = (acc ++ [x]).length := by simp
              rw [hl1] at hown1
              have hon : Only (W0.alloc (.cells #[.string x.a, .string x.b] 49)) W1 p := ⟨hg1.os, hg1.tape, hg1.output, hg1.size, fun k hk hkp => hg1.block k hk (fun e => hkp (hpo k e.symm))⟩
              clear hg1 hown3 hb03 hl1
              go_wp2
              (refine hK _ _ (fun hnd => by first | exact Bool.noConfusion hnd | exact hon) ?_; clear hK K)
              (repeat (first | (refine First.wpF_pure (fun K hK => ?_); go_simp; first | (refine hK _ _ ?_; clear hK K) | (apply Exists.intro; refine ⟨fun _ => ?_, hK _ _ ?_⟩; fail)) | (refine First.wpF_free (fun K hK => ?_); go_simp; first | (refine hK _ _ ?_; clear hK K))))
              refine First.wpF_must (fun K hK => ?_)
              go_wp2
              (refine hK _ _ (fun hnd => by first | exact Bool.noConfusion hnd | exact Only.refl _ _ | ((repeat (refine Only.set_ ?_ (.inl rfl) _)); exact Only.refl _ _)) ?_; clear hK K)
              refine First.wpF_must (fun K hK => ?_)
              go_wp2
              (refine hK _ _ (fun hnd => by first | exact Bool.noConfusion hnd | exact Only.refl _ _ | ((repeat (refine Only.set_ ?_ (.inl rfl) _)); exact Only.refl _ _)) ?_; clear hK K)
              refine First.wpF_nil ?_
              clear hon hpo
              generalize hout : acc ++ [x] = out at *
              have hout := hide hout
              have hP := Pz.own hown1
              have hqW : q ≤ _ := Nat.le_trans (by rw [← hq]; exact Nat.le_refl _) hB1.size
              have hR1 := pright_any _ out W1 hP (fun y hy => by have := hFF.out.2.2.2.1 y hy; unfold Par.ok maxLen; omega)
              obtain ⟨AP, cP, rfl⟩ := hP.shape
              have hqs : q = w.heap.size := hq.symm
              cases hr : rightL out with
              | false =>
                rw [hr] at hR1
                have hr := hide hr
                clear hown1 hP
                go_wp2_with (first | (go_at_call 20; (with_reducible refine hR1.mono ?_); rintro e w3 ⟨rfl, hb3⟩))
                (try rw [Exit.noGoto_ret])
                refine bodyPost_ret (v := .tuple #[.slice none 0 0, .int .i64 40]) (by simp [results, Try.results30, go_sem] <;> rfl) rfl ⟨⟨.slice none 0 0, ?_, ?_⟩, ?_⟩
                rotate_left 1
                · rw [hout.out, psRo, hr.out]; exact Pz.nil _
                · rw [hq]; exact hB1.trans (hb3.mono (by have := hB1.size; omega))
                · rw [hout.out, psEo, hr.out]; rfl
              | true =>
                rw [hr] at hR1
                have hte := htx.out _ rfl
                have hshort : Short out := by
                  have h16 : out.length ≤ 16 := by
                    unfold rightL at hr
                    simp only [Bool.and_eq_true, decide_eq_true_eq] at hr
                    exact hr.1
                  refine ⟨by omega, fun y hy => by have := hFF.out.2.2.2.1 y hy; omega, ?_⟩
                  have h5 := congrArg (fun z : ByteArray => z.data.toList.length) hte
                  have h6 := Lib.size_eq s
                  have h7 := hsN.out
                  simp only [textB, List.toList_toArray, List.length_cons, List.length_append, List.length_nil] at h5
                  omega
                have hr := hide hr
                have hT := fun w1 hw1 => ptext_any (.slice AP out.length cP) out w1 hw1 hshort
                rw [hte] at hT
                clear hown1 hte hshort
                go_wp2_with (first | (go_at_call 20; (with_reducible refine hR1.mono ?_); rintro e w3 ⟨rfl, hb3⟩) | (go_at_call 32; (with_reducible refine (hT _ (hP.below hb3)).mono ?_); rintro e w4 ⟨rfl, hb4⟩))
                (try rw [Exit.noGoto_ret])
                refine bodyPost_ret (v := .tuple #[.slice AP out.length cP, .int .i64 0]) (by simp [results, Try.results30, go_sem] <;> rfl) rfl ⟨⟨.slice AP out.length cP, ?_, ?_⟩, ?_⟩
                rotate_left 1
                · rw [hout.out, psRo, hr.out]; exact (hP.below hb3).below hb4
                · rw [hq]; exact hB1.trans ((hb3.trans (hb4.mono hb3.size)).mono (by have := hB1.size; omega))
                · rw [hout.out, psEo, hr.out]; rfl
            · rw [decide_eq_false hA] at hb2
              rw [if_neg hA] at hR
              by_cases h2z : r2.size < 2
              · have d2 : decide ((r2.size : Int) < 2) = true := decide_eq_true (by omega)
                have hRn : R = none := by
                  rw [← hR]
                  have h3 := Lib.size_eq r2
                  cases hl : r2.data.toList with
                  | nil => rfl
                  | cons a b =>
                    cases b with
                    | nil =>
                      dsimp only
                      split
                      · exact prs_noeq rfl
                      · rfl
                    | cons c d => rw [hl] at h3; simp at h3; omega
                subst hRn
                clear hA hR h2z
                go_wp2_with (first
                  | (go_at_call 43; (with_reducible refine (hC _).mono ?_); rintro e w1 ⟨rfl, hb1⟩)
                  | (go_at_call 25; (with_reducible refine (hU _).mono ?_); rintro e w2 ⟨rfl, hb2'⟩; have hb12 := hb1.trans (hb2'.mono hb1.size); have hown2 := own_keep3 hown hb12; have hb02 : Below q w w2 := hb.trans (hb12.mono hqw); have hq2 : q ≤ w2.heap.size := Nat.le_trans hqw hb12.size))
                obtain ⟨p, hpo⟩ : ∃ p, ∀ k, Value.ownBlock u4 = some k → k = p := by
                  cases hu : Value.ownBlock u4 with
                  | none => exact ⟨0, fun k e => by cases e⟩
                  | some k => exact ⟨k, fun k' e => by cases e; rfl⟩
                refine wp_region_only p [8] [0, 1, 2, 3, 6, 7] [(true, false, 0), (true, false, 1), (true, false, 2), (true, false, 3), (true, false, 6), (true, false, 7), (true, true, 8), (false, true, 4), (false, true, 5), (false, true, 9), (false, false, 10)] (by kernel_rfl) (by kernel_rfl) (fun Y => ?_); simp only [List.map_cons, List.map_nil, List.getD_cons_zero, List.getD_cons_succ]
                (repeat (first | (refine First.wpF_pure (fun K hK => ?_); go_simp; first | (refine hK _ _ ?_; clear hK K) | (apply Exists.intro; refine ⟨fun _ => ?_, hK _ _ ?_⟩; fail)) | (refine First.wpF_free (fun K hK => ?_); go_simp; first | (refine hK _ _ ?_; clear hK K))))
                refine first_read rfl (v := .string r2) (fun w' hw' => ?_) (fun K hK => ?_)
                rotate_left 1
                go_simp
                refine hK _ _ ?_
                clear hK K
                rotate_left 1
                · go_simp
                (repeat (first | (refine First.wpF_pure (fun K hK => ?_); go_simp; first | (refine hK _ _ ?_; clear hK K) | (apply Exists.intro; refine ⟨fun _ => ?_, hK _ _ ?_⟩; fail)) | (refine First.wpF_free (fun K hK => ?_); go_simp; first | (refine hK _ _ ?_; clear hK K))))
                have hown3 : (w2.ext Y).ownsRow q 49 2 u4 acc.length (psV acc) := own_keep3 hown2 (World.below_ext _ _)
                have hb03 : Below q w (w2.ext Y) := hb02.trans ((World.below_ext _ _).mono hq2)
                have hq3 : q ≤ (w2.ext Y).heap.size := by rw [World.size_ext]; omega
                clear hown hown2 hb1 hb2' hb12 hb02 hb
                generalize w2.ext Y = W0 at *
                refine First.wpF_must (fun K hK => ?_)
                go_wp2
                (refine hK _ _ (fun hnd => by first | exact Bool.noConfusion hnd | exact Only.of_below (Below.alloc (Below.refl _ _) (Nat.le_refl _) _)) ?_; clear hK K)
                (repeat (first | (refine First.wpF_pure (fun K hK => ?_); go_simp; first | (refine hK _ _ ?_; clear hK K) | (apply Exists.intro; refine ⟨fun _ => ?_, hK _ _ ?_⟩; fail)) | (refine First.wpF_free (fun K hK => ?_); go_simp; first | (refine hK _ _ ?_; clear hK K))))
                refine First.wpF_must (fun K hK => ?_)
                refine wpList_append_own _ rfl (.tmp 45) (.tmp 49) 25 rfl q 49 i0 (.agg #[.string ⟨#[]⟩, .string ⟨#[]⟩]) 2 32 Try.underlying25 hi hz0 hz1 hz2 rfl (by decide) _ acc.length _ rfl (hown3.alloc _) ⟨W0.heap.size, 0, none⟩ 1 1 x.cells rfl rfl ?c1 ?c2 ?c3 ?c4 ?c5 ?_
                case c1 => first | exact fun j u hu => hu | exact cells_new_at _ #[.string x.a, .string x.b] _ rfl | exact cells_new_at _ #[.string x.a, .string x.b] _ (by simp)
                case c2 => exact fun u hu => psV_one (l := [x]) (by rw [psV_cons]; exact List.mem_append_left _ hu)
                case c3 => unfold maxLen; omega
                case c4 => omega
                case c5 => first | omega | (simp; omega)
                intro v' W1 hown1 hg1 _
                have hB1 := own_below (hb03.alloc hq3 _) (hown3.alloc _) hg1 (Nat.le_refl _) (by simp; omega)
                rw [eA.out] at hown1
                have hl1 : acc.length + 1 = (acc ++ [x]).length := by simp
                rw [hl1] at hown1
                have hon : Only (W0.alloc (.cells #[.string x.a, .string x.b] 49)) W1 p := ⟨hg1.os, hg1.tape, hg1.output, hg1.size, fun k hk hkp => hg1.block k hk (fun e => hkp (hpo k e.symm))⟩
                clear hg1 hown3 hb03 hl1
                go_wp2
                (refine hK _ _ (fun hnd => by first | exact Bool.noConfusion hnd | exact hon) ?_; clear hK K)
                (repeat (first | (refine First.wpF_pure (fun K hK => ?_); go_simp; first | (refine hK _ _ ?_; clear hK K) | (apply Exists.intro; refine ⟨fun _ => ?_, hK _ _ ?_⟩; fail)) | (refine First.wpF_free (fun K hK => ?_); go_simp; first | (refine hK _ _ ?_; clear hK K))))
                refine First.wpF_must (fun K hK => ?_)
                go_wp2
                (refine hK _ _ (fun hnd => by first | exact Bool.noConfusion hnd | exact Only.refl _ _ | ((repeat (refine Only.set_ ?_ (.inl rfl) _)); exact Only.refl _ _)) ?_; clear hK K)
                refine First.wpF_must (fun K hK => ?_)
                go_wp2
                (refine hK _ _ (fun hnd => by first | exact Bool.noConfusion hnd | exact Only.refl _ _ | ((repeat (refine Only.set_ ?_ (.inl rfl) _)); exact Only.refl _ _)) ?_; clear hK K)
                refine First.wpF_nil ?_
                clear hon hpo
                generalize hout : acc ++ [x] = out at *
                have hout := hide hout
                go_wp2
                (try rw [Exit.noGoto_ret])
                refine bodyPost_ret (v := .tuple #[.slice none 0 0, .int .i64 10]) (by simp [results, Try.results30, go_sem] <;> rfl) rfl ⟨⟨_, rfl, Pz.nil _⟩, ?_⟩
                rw [hq]
                exact hB1
              · have d2 : decide ((r2.size : Int) < 2) = false := decide_eq_false (by omega)
                have hz0' : 0 < r2.size := by omega
                have hz0i : (0 : Int) < r2.size := by omega
                have hd0 := drop_at hz0'
                rw [List.drop_zero] at hd0
                rw [hd0] at hR
                dsimp only at hR
                by_cases h44 : r2[0].toNat = 44
                · have d4 : ((r2[0].toNat : Int) != 44) = false := by simp; omega
                  have d4' : ((r2[0].toNat : Int) == 44) = true := by simp; omega
                  rw [if_pos (UInt8.toNat_inj.1 h44)] at hR
                  obtain ⟨r3, hr3⟩ : ∃ r3, r2.extract 1 r2.size = r3 := ⟨_, rfl⟩
                  have hr3d : r3.data.toList = r2.data.toList.drop 1 := by
                    have := Lib.size_eq r2
                    rw [← hr3, Lib.extract_data, List.take_of_length_le (by rw [List.length_drop]; omega)]
                  have hr3z : r3.size + 1 = r2.size := by
                    have := Lib.size_eq r2
                    rw [Lib.size_eq, hr3d, List.length_drop]; omega
                  rw [← hr3d] at hR
                  have k1 : (1 : Int) ≤ r2.size := by omega
                  have hb3' := toL_eq r3 [125]
                  by_cases h3 : r3.data.toList = [125]
                  · rw [decide_eq_true h3] at hb3'
                    have hRn : R = none := by rw [← hR, h3]; exact prs_noeq rfl
                    subst hRn
                    clear hA hR h2z hd0 hr3d hr3z h3 h44
                    go_wp2_with (first
                      | (go_at_call 43; (with_reducible refine (hC _).mono ?_); rintro e w1 ⟨rfl, hb1⟩)
                      | (go_at_call 25; (with_reducible refine (hU _).mono ?_); rintro e w2 ⟨rfl, hb2'⟩; have hb12 := hb1.trans (hb2'.mono hb1.size); have hown2 := own_keep3 hown hb12; have hb02 : Below q w w2 := hb.trans (hb12.mono hqw); have hq2 : q ≤ w2.heap.size := Nat.le_trans hqw hb12.size))
                    obtain ⟨p, hpo⟩ : ∃ p, ∀ k, Value.ownBlock u4 = some k → k = p := by
                      cases hu : Value.ownBlock u4 with
                      | none => exact ⟨0, fun k e => by cases e⟩
                      | some k => exact ⟨k, fun k' e => by cases e; rfl⟩
                    refine wp_region_only p [8] [0, 1, 2, 3, 6, 7] [(true, false, 0), (true, false, 1), (true, false, 2), (true, false, 3), (true, false, 6), (true, false, 7), (true, true, 8), (false, true, 4), (false, true, 5), (false, true, 9), (false, false, 10)] (by kernel_rfl) (by kernel_rfl) (fun Y => ?_); simp only [List.map_cons, List.map_nil, List.getD_cons_zero, List.getD_cons_succ]
                    (repeat (first | (refine First.wpF_pure (fun K hK => ?_); go_simp; first | (refine hK _ _ ?_; clear hK K) | (apply Exists.intro; refine ⟨fun _ => ?_, hK _ _ ?_⟩; fail)) | (refine First.wpF_free (fun K hK => ?_); go_simp; first | (refine hK _ _ ?_; clear hK K))))
                    refine first_read rfl (v := .string r2) (fun w' hw' => ?_) (fun K hK => ?_)
                    rotate_left 1
                    go_simp
                    refine hK _ _ ?_
                    clear hK K
                    rotate_left 1
                    · go_simp
                    (repeat (first | (refine First.wpF_pure (fun K hK => ?_); go_simp; first | (refine hK _ _ ?_; clear hK K) | (apply Exists.intro; refine ⟨fun _ => ?_, hK _ _ ?_⟩; fail)) | (refine First.wpF_free (fun K hK => ?_); go_simp; first | (refine hK _ _ ?_; clear hK K))))
                    have hown3 : (w2.ext Y).ownsRow q 49 2 u4 acc.length (psV acc) := own_keep3 hown2 (World.below_ext _ _)
                    have hb03 : Below q w (w2.ext Y) := hb02.trans ((World.below_ext _ _).mono hq2)
                    have hq3 : q ≤ (w2.ext Y).heap.size := by rw [World.size_ext]; omega
                    clear hown hown2 hb1 hb2' hb12 hb02 hb
                    generalize w2.ext Y = W0 at *
                    refine First.wpF_must (fun K hK => ?_)
                    go_wp2
                    (refine hK _ _ (fun hnd => by first | exact Bool.noConfusion hnd | exact Only.of_below (Below.alloc (Below.refl _ _) (Nat.le_refl _) _)) ?_; clear hK K)
                    (repeat (first | (refine First.wpF_pure (fun K hK => ?_); go_simp; first | (refine hK _ _ ?_; clear hK K) | (apply Exists.intro; refine ⟨fun _ => ?_, hK _ _ ?_⟩; fail)) | (refine First.wpF_free (fun K hK => ?_); go_simp; first | (refine hK _ _ ?_; clear hK K))))
                    refine First.wpF_must (fun K hK => ?_)
                    refine wpList_append_own _ rfl (.tmp 45) (.tmp 49) 25 rfl q 49 i0 (.agg #[.string ⟨#[]⟩, .string ⟨#[]⟩]) 2 32 Try.underlying25 hi hz0 hz1 hz2 rfl (by decide) _ acc.length _ rfl (hown3.alloc _) ⟨W0.heap.size, 0, none⟩ 1 1 x.cells rfl rfl ?c1 ?c2 ?c3 ?c4 ?c5 ?_
                    case c1 => first | exact fun j u hu => hu | exact cells_new_at _ #[.string x.a, .string x.b] _ rfl | exact cells_new_at _ #[.string x.a, .string x.b] _ (by simp)
                    case c2 => exact fun u hu => psV_one (l := [x]) (by rw [psV_cons]; exact List.mem_append_left _ hu)
                    case c3 => unfold maxLen; omega
                    case c4 => omega
                    case c5 => first | omega | (simp; omega)
                    intro v' W1 hown1 hg1 _
                    have hB1 := own_below (hb03.alloc hq3 _) (hown3.alloc _) hg1 (Nat.le_refl _) (by simp; omega)
                    rw [eA.out] at hown1
                    have hl1 : acc.length + 1 = (acc ++ [x]).length := by simp
                    rw [hl1] at hown1
                    have hon : Only (W0.alloc (.cells #[.string x.a, .string x.b] 49)) W1 p := ⟨hg1.os, hg1.tape, hg1.output, hg1.size, fun k hk hkp => hg1.block k hk (fun e => hkp (hpo k e.symm))⟩
                    clear hg1 hown3 hb03 hl1
                    go_wp2
                    (refine hK _ _ (fun hnd => by first | exact Bool.noConfusion hnd | exact hon) ?_; clear hK K)
                    (repeat (first | (refine First.wpF_pure (fun K hK => ?_); go_simp; first | (refine hK _ _ ?_; clear hK K) | (apply Exists.intro; refine ⟨fun _ => ?_, hK _ _ ?_⟩; fail)) | (refine First.wpF_free (fun K hK => ?_); go_simp; first | (refine hK _ _ ?_; clear hK K))))
                    refine First.wpF_must (fun K hK => ?_)
                    go_wp2
                    (refine hK _ _ (fun hnd => by first | exact Bool.noConfusion hnd | exact Only.refl _ _ | ((repeat (refine Only.set_ ?_ (.inl rfl) _)); exact Only.refl _ _)) ?_; clear hK K)
                    refine First.wpF_must (fun K hK => ?_)
                    go_wp2
                    (refine hK _ _ (fun hnd => by first | exact Bool.noConfusion hnd | exact Only.refl _ _ | ((repeat (refine Only.set_ ?_ (.inl rfl) _)); exact Only.refl _ _)) ?_; clear hK K)
                    refine First.wpF_nil ?_
                    clear hon hpo
                    generalize hout : acc ++ [x] = out at *
                    have hout := hide hout
                    go_wp2
                    (try rw [Exit.noGoto_ret])
                    refine bodyPost_ret (v := .tuple #[.slice none 0 0, .int .i64 10]) (by simp [results, Try.results30, go_sem] <;> rfl) rfl ⟨⟨_, rfl, Pz.nil _⟩, ?_⟩
                    rw [hq]
                    exact hB1
                  · rw [decide_eq_false h3] at hb3'
                    have hGG := hide (⟨hR, h3, hr3z⟩ : _ ∧ _ ∧ _)
                    clear hA hR h2z hd0 hr3d hr3z h3 h44
                    go_wp2_with (first
                      | (go_at_call 43; (with_reducible refine (hC _).mono ?_); rintro e w1 ⟨rfl, hb1⟩)
                      | (go_at_call 25; (with_reducible refine (hU _).mono ?_); rintro e w2 ⟨rfl, hb2'⟩; have hb12 := hb1.trans (hb2'.mono hb1.size); have hown2 := own_keep3 hown hb12; have hb02 : Below q w w2 := hb.trans (hb12.mono hqw); have hq2 : q ≤ w2.heap.size := Nat.le_trans hqw hb12.size))
                    obtain ⟨p, hpo⟩ : ∃ p, ∀ k, Value.ownBlock u4 = some k → k = p := by
                      cases hu : Value.ownBlock u4 with
                      | none => exact ⟨0, fun k e => by cases e⟩
                      | some k => exact ⟨k, fun k' e => by cases e; rfl⟩
                    refine wp_region_only p [8] [0, 1, 2, 3, 6, 7] [(true, false, 0), (true, false, 1), (true, false, 2), (true, false, 3), (true, false, 6), (true, false, 7), (true, true, 8), (false, true, 4), (false, true, 5), (false, true, 9), (false, false, 10)] (by kernel_rfl) (by kernel_rfl) (fun Y => ?_); simp only [List.map_cons, List.map_nil, List.getD_cons_zero, List.getD_cons_succ]
                    (repeat (first | (refine First.wpF_pure (fun K hK => ?_); go_simp; first | (refine hK _ _ ?_; clear hK K) | (apply Exists.intro; refine ⟨fun _ => ?_, hK _ _ ?_⟩; fail)) | (refine First.wpF_free (fun K hK => ?_); go_simp; first | (refine hK _ _ ?_; clear hK K))))
                    refine first_read rfl (v := .string r2) (fun w' hw' => ?_) (fun K hK => ?_)
                    rotate_left 1
                    go_simp
                    refine hK _ _ ?_
                    clear hK K
                    rotate_left 1
                    · go_simp
                    (repeat (first | (refine First.wpF_pure (fun K hK => ?_); go_simp; first | (refine hK _ _ ?_; clear hK K) | (apply Exists.intro; refine ⟨fun _ => ?_, hK _ _ ?_⟩; fail)) | (refine First.wpF_free (fun K hK => ?_); go_simp; first | (refine hK _ _ ?_; clear hK K))))
                    have hown3 : (w2.ext Y).ownsRow q 49 2 u4 acc.length (psV acc) := own_keep3 hown2 (World.below_ext _ _)
                    have hb03 : Below q w (w2.ext Y) := hb02.trans ((World.below_ext _ _).mono hq2)
                    have hq3 : q ≤ (w2.ext Y).heap.size := by rw [World.size_ext]; omega
                    clear hown hown2 hb1 hb2' hb12 hb02 hb
                    generalize w2.ext Y = W0 at *
                    refine First.wpF_must (fun K hK => ?_)
                    go_wp2
                    (refine hK _ _ (fun hnd => by first | exact Bool.noConfusion hnd | exact Only.of_below (Below.alloc (Below.refl _ _) (Nat.le_refl _) _)) ?_; clear hK K)
                    (repeat (first | (refine First.wpF_pure (fun K hK => ?_); go_simp; first | (refine hK _ _ ?_; clear hK K) | (apply Exists.intro; refine ⟨fun _ => ?_, hK _ _ ?_⟩; fail)) | (refine First.wpF_free (fun K hK => ?_); go_simp; first | (refine hK _ _ ?_; clear hK K))))
                    refine First.wpF_must (fun K hK => ?_)
                    refine wpList_append_own _ rfl (.tmp 45) (.tmp 49) 25 rfl q 49 i0 (.agg #[.string ⟨#[]⟩, .string ⟨#[]⟩]) 2 32 Try.underlying25 hi hz0 hz1 hz2 rfl (by decide) _ acc.length _ rfl (hown3.alloc _) ⟨W0.heap.size, 0, none⟩ 1 1 x.cells rfl rfl ?c1 ?c2 ?c3 ?c4 ?c5 ?_
                    case c1 => first | exact fun j u hu => hu | exact cells_new_at _ #[.string x.a, .string x.b] _ rfl | exact cells_new_at _ #[.string x.a, .string x.b] _ (by simp)
                    case c2 => exact fun u hu => psV_one (l := [x]) (by rw [psV_cons]; exact List.mem_append_left _ hu)
                    case c3 => unfold maxLen; omega
                    case c4 => omega
                    case c5 => first | omega | (simp; omega)
                    intro v' W1 hown1 hg1 _
                    have hB1 := own_below (hb03.alloc hq3 _) (hown3.alloc _) hg1 (Nat.le_refl _) (by simp; omega)
                    rw [eA.out] at hown1
                    have hl1 : acc.length + 1 = (acc ++ [x]).length := by simp
                    rw [hl1] at hown1
                    have hon : Only (W0.alloc (.cells #[.string x.a, .string x.b] 49)) W1 p := ⟨hg1.os, hg1.tape, hg1.output, hg1.size, fun k hk hkp => hg1.block k hk (fun e => hkp (hpo k e.symm))⟩
                    clear hg1 hown3 hb03 hl1
                    go_wp2
                    (refine hK _ _ (fun hnd => by first | exact Bool.noConfusion hnd | exact hon) ?_; clear hK K)
                    (repeat (first | (refine First.wpF_pure (fun K hK => ?_); go_simp; first | (refine hK _ _ ?_; clear hK K) | (apply Exists.intro; refine ⟨fun _ => ?_, hK _ _ ?_⟩; fail)) | (refine First.wpF_free (fun K hK => ?_); go_simp; first | (refine hK _ _ ?_; clear hK K))))
                    refine First.wpF_must (fun K hK => ?_)
                    go_wp2
                    (refine hK _ _ (fun hnd => by first | exact Bool.noConfusion hnd | exact Only.refl _ _ | ((repeat (refine Only.set_ ?_ (.inl rfl) _)); exact Only.refl _ _)) ?_; clear hK K)
                    refine First.wpF_must (fun K hK => ?_)
                    go_wp2
                    (refine hK _ _ (fun hnd => by first | exact Bool.noConfusion hnd | exact Only.refl _ _ | ((repeat (refine Only.set_ ?_ (.inl rfl) _)); exact Only.refl _ _)) ?_; clear hK K)
                    refine First.wpF_nil ?_
                    clear hon hpo
                    generalize hout : acc ++ [x] = out at *
                    have hout := hide hout
                    go_wp2
                    go_roundw
                    case rel =>
                      obtain ⟨hf, hfa', hr2z, hok', hf'⟩ := hFF.out
                      obtain ⟨hR, h3, hr3z⟩ := hGG.out
                      exact ⟨f', out, r3, by omega, by omega, rfl, h3, hR, hok', hown1, hB1⟩
                    case measure =>
                      have := hFF.out.2.2.1
                      have := hGG.out.2.2
                      simp only [lenOf]; omega
                · have d4 : ((r2[0].toNat : Int) != 44) = true := by simp; omega
                  have d4' : ((r2[0].toNat : Int) == 44) = false := by simp; omega
                  rw [if_neg (fun e => h44 (by rw [e]; rfl))] at hR
                  subst hR
                  clear hA h2z hd0 h44
                  go_wp2_with (first
                    | (go_at_call 43; (with_reducible refine (hC _).mono ?_); rintro e w1 ⟨rfl, hb1⟩)
                    | (go_at_call 25; (with_reducible refine (hU _).mono ?_); rintro e w2 ⟨rfl, hb2'⟩; have hb12 := hb1.trans (hb2'.mono hb1.size); have hown2 := own_keep3 hown hb12; have hb02 : Below q w w2 := hb.trans (hb12.mono hqw); have hq2 : q ≤ w2.heap.size := Nat.le_trans hqw hb12.size))
                  obtain ⟨p, hpo⟩ : ∃ p, ∀ k, Value.ownBlock u4 = some k → k = p := by
                    cases hu : Value.ownBlock u4 with
                    | none => exact ⟨0, fun k e => by cases e⟩
                    | some k => exact ⟨k, fun k' e => by cases e; rfl⟩
                  refine wp_region_only p [8] [0, 1, 2, 3, 6, 7] [(true, false, 0), (true, false, 1), (true, false, 2), (true, false, 3), (true, false, 6), (true, false, 7), (true, true, 8), (false, true, 4), (false, true, 5), (false, true, 9), (false, false, 10)] (by kernel_rfl) (by kernel_rfl) (fun Y => ?_); simp only [List.map_cons, List.map_nil, List.getD_cons_zero, List.getD_cons_succ]
                  (repeat (first | (refine First.wpF_pure (fun K hK => ?_); go_simp; first | (refine hK _ _ ?_; clear hK K) | (apply Exists.intro; refine ⟨fun _ => ?_, hK _ _ ?_⟩; fail)) | (refine First.wpF_free (fun K hK => ?_); go_simp; first | (refine hK _ _ ?_; clear hK K))))
                  refine first_read rfl (v := .string r2) (fun w' hw' => ?_) (fun K hK => ?_)
                  rotate_left 1
                  go_simp
                  refine hK _ _ ?_
                  clear hK K
                  rotate_left 1
                  · go_simp
                  (repeat (first | (refine First.wpF_pure (fun K hK => ?_); go_simp; first | (refine hK _ _ ?_; clear hK K) | (apply Exists.intro; refine ⟨fun _ => ?_, hK _ _ ?_⟩; fail)) | (refine First.wpF_free (fun K hK => ?_); go_simp; first | (refine hK _ _ ?_; clear hK K))))
                  have hown3 : (w2.ext Y).ownsRow q 49 2 u4 acc.length (psV acc) := own_keep3 hown2 (World.below_ext _ _)
                  have hb03 : Below q w (w2.ext Y) := hb02.trans ((World.below_ext _ _).mono hq2)
                  have hq3 : q ≤ (w2.ext Y).heap.size := by rw [World.size_ext]; omega
                  clear hown hown2 hb1 hb2' hb12 hb02 hb
                  generalize w2.ext Y = W0 at *
                  refine First.wpF_must (fun K hK => ?_)
                  go_wp2
                  (refine hK _ _ (fun hnd => by first | exact Bool.noConfusion hnd | exact Only.of_below (Below.alloc (Below.refl _ _) (Nat.le_refl _) _)) ?_; clear hK K)
                  (repeat (first | (refine First.wpF_pure (fun K hK => ?_); go_simp; first | (refine hK _ _ ?_; clear hK K) | (apply Exists.intro; refine ⟨fun _ => ?_, hK _ _ ?_⟩; fail)) | (refine First.wpF_free (fun K hK => ?_); go_simp; first | (refine hK _ _ ?_; clear hK K))))
                  refine First.wpF_must (fun K hK => ?_)
                  refine wpList_append_own _ rfl (.tmp 45) (.tmp 49) 25 rfl q 49 i0 (.agg #[.string ⟨#[]⟩, .string ⟨#[]⟩]) 2 32 Try.underlying25 hi hz0 hz1 hz2 rfl (by decide) _ acc.length _ rfl (hown3.alloc _) ⟨W0.heap.size, 0, none⟩ 1 1 x.cells rfl rfl ?c1 ?c2 ?c3 ?c4 ?c5 ?_
                  case c1 => first | exact fun j u hu => hu | exact cells_new_at _ #[.string x.a, .string x.b] _ rfl | exact cells_new_at _ #[.string x.a, .string x.b] _ (by simp)
                  case c2 => exact fun u hu => psV_one (l := [x]) (by rw [psV_cons]; exact List.mem_append_left _ hu)
                  case c3 => unfold maxLen; omega
                  case c4 => omega
                  case c5 => first | omega | (simp; omega)
                  intro v' W1 hown1 hg1 _
                  have hB1 := own_below (hb03.alloc hq3 _) (hown3.alloc _) hg1 (Nat.le_refl _) (by simp; omega)
                  rw [eA.out] at hown1
                  have hl1 : acc.length + 1 = (acc ++ [x]).length := by simp
                  rw [hl1] at hown1
                  have hon : Only (W0.alloc (.cells #[.string x.a, .string x.b] 49)) W1 p := ⟨hg1.os, hg1.tape, hg1.output, hg1.size, fun k hk hkp => hg1.block k hk (fun e => hkp (hpo k e.symm))⟩
                  clear hg1 hown3 hb03 hl1
                  go_wp2
                  (refine hK _ _ (fun hnd => by first | exact Bool.noConfusion hnd | exact hon) ?_; clear hK K)
                  (repeat (first | (refine First.wpF_pure (fun K hK => ?_); go_simp; first | (refine hK _ _ ?_; clear hK K) | (apply Exists.intro; refine ⟨fun _ => ?_, hK _ _ ?_⟩; fail)) | (refine First.wpF_free (fun K hK => ?_); go_simp; first | (refine hK _ _ ?_; clear hK K))))
                  refine First.wpF_must (fun K hK => ?_)
                  go_wp2
                  (refine hK _ _ (fun hnd => by first | exact Bool.noConfusion hnd | exact Only.refl _ _ | ((repeat (refine Only.set_ ?_ (.inl rfl) _)); exact Only.refl _ _)) ?_; clear hK K)
                  refine First.wpF_must (fun K hK => ?_)
                  go_wp2
                  (refine hK _ _ (fun hnd => by first | exact Bool.noConfusion hnd | exact Only.refl _ _ | ((repeat (refine Only.set_ ?_ (.inl rfl) _)); exact Only.refl _ _)) ?_; clear hK K)
                  refine First.wpF_nil ?_
                  clear hon hpo
                  generalize hout : acc ++ [x] = out at *
                  have hout := hide hout
                  go_wp2
                  (try rw [Exit.noGoto_ret])
                  refine bodyPost_ret (v := .tuple #[.slice none 0 0, .int .i64 10]) (by simp [results, Try.results30, go_sem] <;> rfl) rfl ⟨⟨_, rfl, Pz.nil _⟩, ?_⟩
                  rw [hq]
                  exact hB1
  · have d1 : ((s[0].toNat : Int) != 123) = true := by simp; omega
    have d1' : ((s[0].toNat : Int) == 123) = false := by simp; omega
    obtain ⟨e1, e2⟩ := hbadE (by unfold psO; rw [if_pos (.inr (.inr (by rw [head_at h0]; intro e; injection e with e; rw [e] at h1; exact h1 rfl)))])
    rw [e1, e2]
    clear e1 e2 hsz h4 hbadE h2
    go_enter Try.func30, Try.ntmps30
    go_wp2
    go_step3
    go_wp2
    (try rw [Exit.noGoto_ret])
    refine bodyPost_ret (v := .tuple #[.slice none 0 0, .int .i64 10]) (by simp [results, Try.results30, go_sem] <;> rfl) rfl ⟨⟨_, rfl, Pz.nil _⟩, ?_⟩
    exact Below.refl _ _
end Go.Proofs.Ytmfbidhnafpkdaa
