import Derived.Test.YtmfbidhnafpkdaaDoorMs6
/-! MatchNarrows: rules more never let a set in; the order of rules turns nothing; rules that ask for all labels of a set hold of it. Of rules and labels that are together of at most 1048576 letters and parts. -/
namespace Go.Proofs.YtmfbidhnafpkdaaDoor
open Go.RowKit
set_option linter.unusedVariables false
set_option linter.unusedSimpArgs false
structure St7 (w0 : World) (xv yv sv bv cv : Value) (a b ab ba : List Rul) (S : List Par) (w : World) : Prop where
  s : St3 w0 xv yv sv a b S w
  one : Rz w bv ab
  two : Rz w cv ba
theorem St7.below {w0 w w' : World} {xv yv sv bv cv : Value} {a b ab ba : List Rul} {S : List Par} (h : St7 w0 xv yv sv bv cv a b ab ba S w) (hb : Below w.heap.size w w') : St7 w0 xv yv sv bv cv a b ab ba S w' :=
  ⟨h.s.below hb, h.one.below hb, h.two.below hb⟩
def isR (p : Par) : Rul := ⟨p.a, 1, p.b⟩
theorem right_lt {S : List Par} (h : rightL S = true) : ∀ (j i : Nat) (x y : Par), i < j → S[i]? = some x → S[j]? = some y → cmpB x.a y.a < 0
  | 0, i, x, y, hij, _, _ => by omega
  | k + 1, i, x, y, hij, hx, hy => by
    have hall := h
    unfold rightL at hall
    simp only [Bool.and_eq_true, decide_eq_true_eq, List.all_eq_true, List.mem_range] at hall
    have hl := (List.getElem?_eq_some_iff.1 hy).1
    obtain ⟨z, hz⟩ : ∃ z, S[k]? = some z := ⟨_, List.getElem?_eq_getElem (by omega)⟩
    have hk := hall.2 (k + 1) hl
    rw [okAt_s hy hz] at hk
    simp only [Bool.and_eq_true, decide_eq_true_eq] at hk
    rcases Nat.lt_or_ge i k with hik | hik
    · exact cmpB_cmp.lt_le (right_lt h k i x z hik hx hz) (by omega)
    · obtain rfl : i = k := by omega
      rw [hx] at hz
      cases hz
      omega
theorem getL_at : ∀ {S : List Par} {i : Nat} {p : Par}, S[i]? = some p → (∀ k y, k < i → S[k]? = some y → cmpB y.a p.a ≠ 0) → getL S p.a = p.b
  | [], i, p, h, _ => by simp at h
  | x :: S, 0, p, h, _ => by
    simp only [List.getElem?_cons_zero, Option.some.injEq] at h
    subst h
    rw [getL, if_pos (cmpB_cmp.refl _)]
  | x :: S, i + 1, p, h, hd => by
    rw [getL, if_neg (hd 0 x (by omega) rfl)]
    exact getL_at (S := S) (i := i) (by simpa using h) (fun k y hk hy => hd (k + 1) y (by omega) (by simpa using hy))
theorem isR_all {S : List Par} (h : rightL S = true) : allL (S.map isR) S = true := by
  unfold allL
  rw [List.all_eq_true]
  intro x hx
  obtain ⟨p, hp, rfl⟩ := List.mem_map.1 hx
  obtain ⟨i, hi⟩ := List.getElem?_of_mem hp
  have : getL S p.a = p.b := getL_at hi (fun k y hk hy => by have := right_lt h i k y p hk hy hi; omega)
  simp [oneL, isR, this]
theorem isR_right {S : List Par} (h : rightL S = true) : rightR (S.map isR) = true := by
  have hall := h
  unfold rightL at hall
  simp only [Bool.and_eq_true, decide_eq_true_eq, List.all_eq_true, List.mem_range] at hall
  unfold rightR
  rw [List.length_map, decide_eq_true hall.1, Bool.true_and, List.all_eq_true]
  intro x hx
  obtain ⟨p, hp, rfl⟩ := List.mem_map.1 hx
  obtain ⟨i, hi⟩ := List.getElem?_of_mem hp
  have hk := hall.2 i (List.getElem?_eq_some_iff.1 hi).1
  have hnv : nmB p.a = true ∧ vlB p.b = true := by
    unfold okAt at hk
    rw [hi] at hk
    simp only [Bool.and_eq_true] at hk
    exact hk.1
  simp [okR, isR, hnv.1, hnv.2]
set_option maxRecDepth 100000 in
set_option maxHeartbeats 40000000 in
theorem law_mnarrows (va vb vs : Value) (a b : List Rul) (S : List Par) (w : World) (ha : Rz w va a) (hb : Rz w vb b) (hp : Pz w vs S) (hg : Sg w) (hok : ∀ x ∈ S, x.ok) (hsa : szR a ≤ 5242880) (hsb : szR b ≤ 5242880) (hss : szP S ≤ 1048576) :
    Calls Tryd.prog 5 #[va, vb, vs] w fun e w' => e = .returned (.bool true) ∧ Below w.heap.size w w' := by
  have la := szR_len a
  have lb := szR_len b
  have lp := szP_len S
  have hz := szP_of hss
  obtain ⟨ab, hab⟩ : ∃ ab, a ++ b = ab := ⟨_, rfl⟩
  obtain ⟨ba, hba⟩ : ∃ ba, b ++ a = ba := ⟨_, rfl⟩
  have hAB : allL ab S = (allL a S && allL b S) := by rw [← hab, allL_append]
  have hBA : allL ba S = (allL a S && allL b S) := by rw [← hba, allL_append, Bool.and_comm]
  have cB : ∀ {xv yv sv bv cv : Value} (w' : World), St7 w xv yv sv bv cv a b ab ba S w' → Calls Tryd.prog 12 #[bv, sv] w' fun e w'' => e = .returned (.bool (allL ab S)) ∧ Below w'.heap.size w' w'' := fun w' st => mall_any _ _ _ S w' st.one st.s.p st.s.g hz
  have cA : ∀ {xv yv sv bv cv : Value} (w' : World), St7 w xv yv sv bv cv a b ab ba S w' → Calls Tryd.prog 12 #[cv, sv] w' fun e w'' => e = .returned (.bool (allL ba S)) ∧ Below w'.heap.size w' w'' := fun w' st => mall_any _ _ _ S w' st.two st.s.p st.s.g hz
  have cX : ∀ {xv yv sv bv cv : Value} (w' : World), St7 w xv yv sv bv cv a b ab ba S w' → Calls Tryd.prog 12 #[xv, sv] w' fun e w'' => e = .returned (.bool (allL a S)) ∧ Below w'.heap.size w' w'' := fun w' st => mall_any _ _ _ S w' st.s.x st.s.p st.s.g hz
  have cR : ∀ {xv yv sv bv cv : Value} (w' : World), St7 w xv yv sv bv cv a b ab ba S w' → Calls Tryd.prog 16 #[sv] w' fun e w'' => e = .returned (.bool (rightL S)) ∧ Below w'.heap.size w' w'' := fun w' st => pright_any _ S w' st.s.p hok
  rw [hAB] at cB
  rw [hBA] at cA
  have AB := hide hab
  have BA := hide hba
  have k1 := rto_any _ a w ha (by omega)
  clear hAB hab hBA hba
  cases hr : rightL S with
  | false =>
    rw [hr] at cR
    cases hpa : allL a S && allL b S with
    | true =>
      rw [hpa] at cB cA
      have hpx : allL a S = true := by rw [Bool.and_eq_true] at hpa; exact hpa.1
      rw [hpx] at cX
      clear hpa hpx hr hok
      go_enter Tryd.func5, Tryd.ntmps5
      go_wp2_with (first
        | (go_at_call 10; (with_reducible refine k1.mono ?_); rintro e w1 ⟨⟨u1, rfl, ho1⟩, hb1⟩; have hz1 := Rz.own ho1; obtain ⟨B1, d1, rfl⟩ := hz1.shape; have k2 := rto_any _ b w1 (hb.below hb1) (by omega))
        | (go_at_call 10; (with_reducible refine k2.mono ?_); rintro e w2 ⟨⟨u2, rfl, ho2⟩, hb2⟩; have hz2 := Rz.own ho2; obtain ⟨B2, d2, rfl⟩ := hz2.shape; have hb02 := hb1.trans (hb2.mono hb1.size); have k3 := lto_any _ S w2 (hp.below hb02) (by omega))
        | (go_at_call 13; (with_reducible refine k3.mono ?_); rintro e w3 ⟨⟨u3, rfl, ho3⟩, hb3⟩; have hz3 := Pz.own ho3; obtain ⟨B3, d3, rfl⟩ := hz3.shape; have hb03 := hb02.trans (hb3.mono hb02.size); have st3 : St3 w _ _ _ a b S w3 := ⟨hb03, (hz1.below hb2).below hb3, hz2.below hb3, hz3, hg.below hb03⟩; obtain ⟨g1, c1', w4, g2, c2', w5, r1, r2, hbz, hb5⟩ := run_bothR st3.x st3.y (by omega); rw [AB.out] at r2 hbz; have st5 := st3.below hb5; obtain ⟨g3, c3', w6, g4, c4', w7, r3, r4, hbz2, hb7⟩ := run_bothR st5.y st5.x (by omega); rw [BA.out] at r4 hbz2; have st7 : St7 w _ _ _ _ _ a b ab ba S w7 := ⟨st5.below hb7, hbz.below hb7, hbz2⟩; have k8 := mawake_any _ st7.s.g)
        | (at_builtin; refine wpList_append_run rfl (.tmp 21) (.tmp 22) 26 rfl rfl rfl r1 ?_)
        | (at_builtin; refine wpList_append_run rfl (.tmp 23) (.tmp 24) 26 rfl rfl rfl r2 ?_)
        | (at_builtin; refine wpList_append_run rfl (.tmp 26) (.tmp 27) 26 rfl rfl rfl r3 ?_)
        | (at_builtin; refine wpList_append_run rfl (.tmp 28) (.tmp 29) 26 rfl rfl rfl r4 ?_)
        | (go_at_call 8; (with_reducible refine k8.mono ?_); rintro e w8 ⟨rfl, hb8⟩; have st8 := st7.below hb8)
        | (go_at_call 12; (with_reducible refine (cB _ st8).mono ?_); rintro e w9 ⟨rfl, hb9⟩; have st9 := (st8).below hb9) | (go_at_call 12; (with_reducible refine (cA _ st9).mono ?_); rintro e w10 ⟨rfl, hb10⟩; have st10 := (st9).below hb10) | (go_at_call 12; (with_reducible refine (cB _ st10).mono ?_); rintro e w11 ⟨rfl, hb11⟩; have st11 := (st10).below hb11) | (go_at_call 12; (with_reducible refine (cX _ st11).mono ?_); rintro e w12 ⟨rfl, hb12⟩; have st12 := (st11).below hb12)
        | (go_at_call 16; (with_reducible refine (cR _ st12).mono ?_); rintro e w13 ⟨rfl, hb13⟩; have st13 := (st12).below hb13))
      go_ret
      exact ⟨rfl, st13.s.low⟩
    | false =>
      rw [hpa] at cB cA
      clear hpa hr hok
      go_enter Tryd.func5, Tryd.ntmps5
      go_wp2_with (first
        | (go_at_call 10; (with_reducible refine k1.mono ?_); rintro e w1 ⟨⟨u1, rfl, ho1⟩, hb1⟩; have hz1 := Rz.own ho1; obtain ⟨B1, d1, rfl⟩ := hz1.shape; have k2 := rto_any _ b w1 (hb.below hb1) (by omega))
        | (go_at_call 10; (with_reducible refine k2.mono ?_); rintro e w2 ⟨⟨u2, rfl, ho2⟩, hb2⟩; have hz2 := Rz.own ho2; obtain ⟨B2, d2, rfl⟩ := hz2.shape; have hb02 := hb1.trans (hb2.mono hb1.size); have k3 := lto_any _ S w2 (hp.below hb02) (by omega))
        | (go_at_call 13; (with_reducible refine k3.mono ?_); rintro e w3 ⟨⟨u3, rfl, ho3⟩, hb3⟩; have hz3 := Pz.own ho3; obtain ⟨B3, d3, rfl⟩ := hz3.shape; have hb03 := hb02.trans (hb3.mono hb02.size); have st3 : St3 w _ _ _ a b S w3 := ⟨hb03, (hz1.below hb2).below hb3, hz2.below hb3, hz3, hg.below hb03⟩; obtain ⟨g1, c1', w4, g2, c2', w5, r1, r2, hbz, hb5⟩ := run_bothR st3.x st3.y (by omega); rw [AB.out] at r2 hbz; have st5 := st3.below hb5; obtain ⟨g3, c3', w6, g4, c4', w7, r3, r4, hbz2, hb7⟩ := run_bothR st5.y st5.x (by omega); rw [BA.out] at r4 hbz2; have st7 : St7 w _ _ _ _ _ a b ab ba S w7 := ⟨st5.below hb7, hbz.below hb7, hbz2⟩; have k8 := mawake_any _ st7.s.g)
        | (at_builtin; refine wpList_append_run rfl (.tmp 21) (.tmp 22) 26 rfl rfl rfl r1 ?_)
        | (at_builtin; refine wpList_append_run rfl (.tmp 23) (.tmp 24) 26 rfl rfl rfl r2 ?_)
        | (at_builtin; refine wpList_append_run rfl (.tmp 26) (.tmp 27) 26 rfl rfl rfl r3 ?_)
        | (at_builtin; refine wpList_append_run rfl (.tmp 28) (.tmp 29) 26 rfl rfl rfl r4 ?_)
        | (go_at_call 8; (with_reducible refine k8.mono ?_); rintro e w8 ⟨rfl, hb8⟩; have st8 := st7.below hb8)
        | (go_at_call 12; (with_reducible refine (cB _ st8).mono ?_); rintro e w9 ⟨rfl, hb9⟩; have st9 := (st8).below hb9) | (go_at_call 12; (with_reducible refine (cA _ st9).mono ?_); rintro e w10 ⟨rfl, hb10⟩; have st10 := (st9).below hb10) | (go_at_call 12; (with_reducible refine (cB _ st10).mono ?_); rintro e w11 ⟨rfl, hb11⟩; have st11 := (st10).below hb11) | (go_at_call 12; (with_reducible refine (cX _ st11).mono ?_); rintro e w12 ⟨rfl, hb12⟩; have st12 := (st11).below hb12)
        | (go_at_call 16; (with_reducible refine (cR _ st11).mono ?_); rintro e w13 ⟨rfl, hb13⟩; have st13 := (st11).below hb13))
      go_ret
      exact ⟨rfl, st13.s.low⟩
  | true =>
    rw [hr] at cR
    obtain ⟨L2, hL2⟩ : ∃ L2, S.map isR = L2 := ⟨_, rfl⟩
    have hL2i : ∀ j p, S[j]? = some p → L2[j]? = some (isR p) := fun j p h => by rw [← hL2, List.getElem?_map, h]; rfl
    have L2h := hide (⟨hL2i, (by rw [← hL2]; simp), (by rw [← hL2]; exact isR_all hr), (by rw [← hL2]; exact isR_right hr), fun x hx => by
      rw [← hL2] at hx
      obtain ⟨p, hp', rfl⟩ := List.mem_map.1 hx
      exact ⟨(hok p hp').1, (hok p hp').2, (show (-9223372036854775808 : Int) ≤ 1 by decide), (show (1 : Int) ≤ 9223372036854775807 by decide)⟩⟩ : (∀ j p, S[j]? = some p → L2[j]? = some (isR p)) ∧ L2.length = S.length ∧ allL L2 S = true ∧ rightR L2 = true ∧ ∀ x ∈ L2, x.ok)
    clear hL2i hL2 hok hr
    cases hpa : allL a S && allL b S with
    | true =>
      rw [hpa] at cB cA
      have hpx : allL a S = true := by rw [Bool.and_eq_true] at hpa; exact hpa.1
      rw [hpx] at cX
      clear hpa hpx
      go_enter Tryd.func5, Tryd.ntmps5
      go_wp2_with (first
        | (go_at_call 10; (with_reducible refine k1.mono ?_); rintro e w1 ⟨⟨u1, rfl, ho1⟩, hb1⟩; have hz1 := Rz.own ho1; obtain ⟨B1, d1, rfl⟩ := hz1.shape; have k2 := rto_any _ b w1 (hb.below hb1) (by omega))
        | (go_at_call 10; (with_reducible refine k2.mono ?_); rintro e w2 ⟨⟨u2, rfl, ho2⟩, hb2⟩; have hz2 := Rz.own ho2; obtain ⟨B2, d2, rfl⟩ := hz2.shape; have hb02 := hb1.trans (hb2.mono hb1.size); have k3 := lto_any _ S w2 (hp.below hb02) (by omega))
        | (go_at_call 13; (with_reducible refine k3.mono ?_); rintro e w3 ⟨⟨u3, rfl, ho3⟩, hb3⟩; have hz3 := Pz.own ho3; obtain ⟨B3, d3, rfl⟩ := hz3.shape; have hb03 := hb02.trans (hb3.mono hb02.size); have st3 : St3 w _ _ _ a b S w3 := ⟨hb03, (hz1.below hb2).below hb3, hz2.below hb3, hz3, hg.below hb03⟩; obtain ⟨g1, c1', w4, g2, c2', w5, r1, r2, hbz, hb5⟩ := run_bothR st3.x st3.y (by omega); rw [AB.out] at r2 hbz; have st5 := st3.below hb5; obtain ⟨g3, c3', w6, g4, c4', w7, r3, r4, hbz2, hb7⟩ := run_bothR st5.y st5.x (by omega); rw [BA.out] at r4 hbz2; have st7 : St7 w _ _ _ _ _ a b ab ba S w7 := ⟨st5.below hb7, hbz.below hb7, hbz2⟩; have k8 := mawake_any _ st7.s.g)
        | (at_builtin; refine wpList_append_run rfl (.tmp 21) (.tmp 22) 26 rfl rfl rfl r1 ?_)
        | (at_builtin; refine wpList_append_run rfl (.tmp 23) (.tmp 24) 26 rfl rfl rfl r2 ?_)
        | (at_builtin; refine wpList_append_run rfl (.tmp 26) (.tmp 27) 26 rfl rfl rfl r3 ?_)
        | (at_builtin; refine wpList_append_run rfl (.tmp 28) (.tmp 29) 26 rfl rfl rfl r4 ?_)
        | (go_at_call 8; (with_reducible refine k8.mono ?_); rintro e w8 ⟨rfl, hb8⟩; have st8 := st7.below hb8)
        | (go_at_call 12; (with_reducible refine (cB _ st8).mono ?_); rintro e w9 ⟨rfl, hb9⟩; have st9 := (st8).below hb9) | (go_at_call 12; (with_reducible refine (cA _ st9).mono ?_); rintro e w10 ⟨rfl, hb10⟩; have st10 := (st9).below hb10) | (go_at_call 12; (with_reducible refine (cB _ st10).mono ?_); rintro e w11 ⟨rfl, hb11⟩; have st11 := (st10).below hb11) | (go_at_call 12; (with_reducible refine (cX _ st11).mono ?_); rintro e w12 ⟨rfl, hb12⟩; have st12 := (st11).below hb12)
        | (go_at_call 16; (with_reducible refine (cR _ st12).mono ?_); rintro e w13 ⟨rfl, hb13⟩; have st13 := (st12).below hb13))
      have hp13 := st13.s.p
      have hW := st13.s.low
      have hcA : ∀ (U : World) (u : Value), Below w13.heap.size w13 U → Rz U u L2 → _ := fun U u hU hu => mall_any u _ L2 S U hu (st13.s.p.below hU) (st13.s.g.below hU) hz
      obtain ⟨Q, hQ⟩ : ∃ Q, w13.heap.size = Q := ⟨_, rfl⟩
      have hB0 : Below Q w13 w13 := by rw [← hQ]; exact Below.refl _ _
      rw [hQ] at hcA
      obtain ⟨i0, hi, hz0, hz1, hz2⟩ := info_parts infoR
      clear st13 k1 cA cB cX cR
      go_loopw [12, 58] (fun s12 s58 wr => ∃ j : Nat, j ≤ S.length ∧ s58 = .int .i64 (j : Int) ∧ wr.ownsRow Q 35 3 s12 j (rsV (L2.take j)) ∧ Below Q w13 wr) (fun _ s58 _ => ((S.length : Int) - intOf s58).toNat)
      case atStart => exact ⟨0, by omega, rfl, World.ownsRow_nil _ _ _ _, hB0⟩
      case round =>
        clear hB0
        obtain ⟨j, hj, rfl, hown, hbel⟩ := hrel
        have hszw : Q ≤ wr.heap.size := by rw [← hQ]; exact hbel.size
        by_cases hlt : j < S.length
        · obtain ⟨p, hx⟩ : ∃ x, S[j]? = some x := ⟨_, List.getElem?_eq_getElem hlt⟩
          obtain ⟨bb, o, rfl, hbb, m0, m1⟩ := (hp13.below (by rw [hQ]; exact hbel)).at_ hx
          have H := hide (rsV_take1 (L2h.out.1 j p hx))
          have hjj : (j : Int) < S.length := by omega
          clear hcA hp13 hx
          go_wp2_with (at_builtin; go_must (refine wpList_append_own _ rfl (.tmp 62) (.tmp 68) 26 rfl (Q) 35 i0 (.agg #[.string ⟨#[]⟩, .int .i64 0, .string ⟨#[]⟩]) 3 40 Tryd.underlying26 hi hz0 hz1 hz2 rfl (by decide) _ (j) _ rfl (((hown.alloc _).alloc _)) ⟨wr.heap.size + 1, 0, none⟩ 1 1 ((isR p).cells) rfl rfl ?c1 ?c2 ?c3 ?c4 ?c5 ?_))
          case c1 => first | exact fun j u hu => hu | exact cells_new_at _ #[.string p.a, .int .i64 1, .string p.b] _ rfl | exact cells_new_at _ #[.string p.a, .int .i64 1, .string p.b] _ (by simp)
          case c2 => exact fun u hu => rsV_one (l := [isR p]) (by rw [rsV_cons]; exact List.mem_append_left _ hu)
          case c3 => unfold maxLen; omega
          case c4 => omega
          case c5 => first | omega | (simp; omega)
          intro v' W1 hown1 hg1 _
          have hbel1 := own_below ((hbel.alloc hszw _).alloc (by simp; omega) _) ((hown.alloc _).alloc _) hg1 (Nat.le_refl _) (by simp; omega)
          rw [H.out] at hown1
          clear hg1 hbel hown
          go_wp2
          go_roundw
          case rel => exact ⟨j + 1, by omega, by go_num, hown1, hbel1⟩
          case measure => first | (simp [intOf]; done) | (simp [intOf]; omega)
        · obtain rfl : j = S.length := by omega
          rw [List.take_of_length_le (by rw [L2h.out.2.1]; exact Nat.le_refl _)] at hown
          have hz8 := Rz.own hown
          obtain ⟨A8, c8, rfl⟩ := hz8.shape
          have hk1 := hcA _ _ hbel hz8
          rw [L2h.out.2.2.1] at hk1
          have hk2 := fun U hU => mright_any (.slice A8 L2.length c8) L2 U (hz8.below hU) L2h.out.2.2.2.2
          rw [L2h.out.2.2.2.1] at hk2
          go_wp2_with (first
            | (go_at_call 12; (with_reducible refine hk1.mono ?_); rintro e v1 ⟨rfl, hv1⟩)
            | (go_at_call 9; (with_reducible refine (hk2 _ hv1).mono ?_); rintro e v2 ⟨rfl, hv2⟩))
          go_ret
          exact ⟨rfl, hW.trans ((hbel.trans ((hv1.trans (hv2.mono hv1.size)).mono hszw)).mono (by rw [← hQ]; exact hW.size))⟩
    | false =>
      rw [hpa] at cB cA
      clear hpa
      go_enter Tryd.func5, Tryd.ntmps5
      go_wp2_with (first
        | (go_at_call 10; (with_reducible refine k1.mono ?_); rintro e w1 ⟨⟨u1, rfl, ho1⟩, hb1⟩; have hz1 := Rz.own ho1; obtain ⟨B1, d1, rfl⟩ := hz1.shape; have k2 := rto_any _ b w1 (hb.below hb1) (by omega))
        | (go_at_call 10; (with_reducible refine k2.mono ?_); rintro e w2 ⟨⟨u2, rfl, ho2⟩, hb2⟩; have hz2 := Rz.own ho2; obtain ⟨B2, d2, rfl⟩ := hz2.shape; have hb02 := hb1.trans (hb2.mono hb1.size); have k3 := lto_any _ S w2 (hp.below hb02) (by omega))
        | (go_at_call 13; (with_reducible refine k3.mono ?_); rintro e w3 ⟨⟨u3, rfl, ho3⟩, hb3⟩; have hz3 := Pz.own ho3; obtain ⟨B3, d3, rfl⟩ := hz3.shape; have hb03 := hb02.trans (hb3.mono hb02.size); have st3 : St3 w _ _ _ a b S w3 := ⟨hb03, (hz1.below hb2).below hb3, hz2.below hb3, hz3, hg.below hb03⟩; obtain ⟨g1, c1', w4, g2, c2', w5, r1, r2, hbz, hb5⟩ := run_bothR st3.x st3.y (by omega); rw [AB.out] at r2 hbz; have st5 := st3.below hb5; obtain ⟨g3, c3', w6, g4, c4', w7, r3, r4, hbz2, hb7⟩ := run_bothR st5.y st5.x (by omega); rw [BA.out] at r4 hbz2; have st7 : St7 w _ _ _ _ _ a b ab ba S w7 := ⟨st5.below hb7, hbz.below hb7, hbz2⟩; have k8 := mawake_any _ st7.s.g)
        | (at_builtin; refine wpList_append_run rfl (.tmp 21) (.tmp 22) 26 rfl rfl rfl r1 ?_)
        | (at_builtin; refine wpList_append_run rfl (.tmp 23) (.tmp 24) 26 rfl rfl rfl r2 ?_)
        | (at_builtin; refine wpList_append_run rfl (.tmp 26) (.tmp 27) 26 rfl rfl rfl r3 ?_)
        | (at_builtin; refine wpList_append_run rfl (.tmp 28) (.tmp 29) 26 rfl rfl rfl r4 ?_)
        | (go_at_call 8; (with_reducible refine k8.mono ?_); rintro e w8 ⟨rfl, hb8⟩; have st8 := st7.below hb8)
        | (go_at_call 12; (with_reducible refine (cB _ st8).mono ?_); rintro e w9 ⟨rfl, hb9⟩; have st9 := (st8).below hb9) | (go_at_call 12; (with_reducible refine (cA _ st9).mono ?_); rintro e w10 ⟨rfl, hb10⟩; have st10 := (st9).below hb10) | (go_at_call 12; (with_reducible refine (cB _ st10).mono ?_); rintro e w11 ⟨rfl, hb11⟩; have st11 := (st10).below hb11) | (go_at_call 12; (with_reducible refine (cX _ st11).mono ?_); rintro e w12 ⟨rfl, hb12⟩; have st12 := (st11).below hb12)
        | (go_at_call 16; (with_reducible refine (cR _ st11).mono ?_); rintro e w13 ⟨rfl, hb13⟩; have st13 := (st11).below hb13))
      have hp13 := st13.s.p
      have hW := st13.s.low
      have hcA : ∀ (U : World) (u : Value), Below w13.heap.size w13 U → Rz U u L2 → _ := fun U u hU hu => mall_any u _ L2 S U hu (st13.s.p.below hU) (st13.s.g.below hU) hz
      obtain ⟨Q, hQ⟩ : ∃ Q, w13.heap.size = Q := ⟨_, rfl⟩
      have hB0 : Below Q w13 w13 := by rw [← hQ]; exact Below.refl _ _
      rw [hQ] at hcA
      obtain ⟨i0, hi, hz0, hz1, hz2⟩ := info_parts infoR
      clear st13 k1 cA cB cX cR
      go_loopw [12, 58] (fun s12 s58 wr => ∃ j : Nat, j ≤ S.length ∧ s58 = .int .i64 (j : Int) ∧ wr.ownsRow Q 35 3 s12 j (rsV (L2.take j)) ∧ Below Q w13 wr) (fun _ s58 _ => ((S.length : Int) - intOf s58).toNat)
      case atStart => exact ⟨0, by omega, rfl, World.ownsRow_nil _ _ _ _, hB0⟩
      case round =>
        clear hB0
        obtain ⟨j, hj, rfl, hown, hbel⟩ := hrel
        have hszw : Q ≤ wr.heap.size := by rw [← hQ]; exact hbel.size
        by_cases hlt : j < S.length
        · obtain ⟨p, hx⟩ : ∃ x, S[j]? = some x := ⟨_, List.getElem?_eq_getElem hlt⟩
          obtain ⟨bb, o, rfl, hbb, m0, m1⟩ := (hp13.below (by rw [hQ]; exact hbel)).at_ hx
          have H := hide (rsV_take1 (L2h.out.1 j p hx))
          have hjj : (j : Int) < S.length := by omega
          clear hcA hp13 hx
          go_wp2_with (at_builtin; go_must (refine wpList_append_own _ rfl (.tmp 62) (.tmp 68) 26 rfl (Q) 35 i0 (.agg #[.string ⟨#[]⟩, .int .i64 0, .string ⟨#[]⟩]) 3 40 Tryd.underlying26 hi hz0 hz1 hz2 rfl (by decide) _ (j) _ rfl (((hown.alloc _).alloc _)) ⟨wr.heap.size + 1, 0, none⟩ 1 1 ((isR p).cells) rfl rfl ?c1 ?c2 ?c3 ?c4 ?c5 ?_))
          case c1 => first | exact fun j u hu => hu | exact cells_new_at _ #[.string p.a, .int .i64 1, .string p.b] _ rfl | exact cells_new_at _ #[.string p.a, .int .i64 1, .string p.b] _ (by simp)
          case c2 => exact fun u hu => rsV_one (l := [isR p]) (by rw [rsV_cons]; exact List.mem_append_left _ hu)
          case c3 => unfold maxLen; omega
          case c4 => omega
          case c5 => first | omega | (simp; omega)
          intro v' W1 hown1 hg1 _
          have hbel1 := own_below ((hbel.alloc hszw _).alloc (by simp; omega) _) ((hown.alloc _).alloc _) hg1 (Nat.le_refl _) (by simp; omega)
          rw [H.out] at hown1
          clear hg1 hbel hown
          go_wp2
          go_roundw
          case rel => exact ⟨j + 1, by omega, by go_num, hown1, hbel1⟩
          case measure => first | (simp [intOf]; done) | (simp [intOf]; omega)
        · obtain rfl : j = S.length := by omega
          rw [List.take_of_length_le (by rw [L2h.out.2.1]; exact Nat.le_refl _)] at hown
          have hz8 := Rz.own hown
          obtain ⟨A8, c8, rfl⟩ := hz8.shape
          have hk1 := hcA _ _ hbel hz8
          rw [L2h.out.2.2.1] at hk1
          have hk2 := fun U hU => mright_any (.slice A8 L2.length c8) L2 U (hz8.below hU) L2h.out.2.2.2.2
          rw [L2h.out.2.2.2.1] at hk2
          go_wp2_with (first
            | (go_at_call 12; (with_reducible refine hk1.mono ?_); rintro e v1 ⟨rfl, hv1⟩)
            | (go_at_call 9; (with_reducible refine (hk2 _ hv1).mono ?_); rintro e v2 ⟨rfl, hv2⟩))
          go_ret
          exact ⟨rfl, hW.trans ((hbel.trans ((hv1.trans (hv2.mono hv1.size)).mono hszw)).mono (by rw [← hQ]; exact hW.size))⟩
section
open Go.ChangeShapes Go.WideShapes Go.ChangeAt Go.Joins
variable {H : Type} {enc : TypeId × Value → H}
set_option maxRecDepth 100000 in
theorem matchNarrows_walk : LawWalkD enc 5 Tryd.f5 := by
  intro W base args ds ps hval hA hlt _ hk hs hg
  rw [Tryd.params5] at hA hval hs
  obtain ⟨v0, v1, v2, d0, d1, d2, p0, p1, p2, rfl, rfl, rfl, h0, h1, h2⟩ := trodAll_three hA
  obtain ⟨a, ha, _, hda⟩ := ruls_open (hval 0 _ v0 rfl rfl) h0
  obtain ⟨b, hb, _, hdb⟩ := ruls_open (hval 1 _ v1 rfl rfl) h1
  obtain ⟨S, hS, hok, hdS⟩ := pars_open (hval 2 _ v2 rfl rfl) h2
  have hk' := bulk_bound hk
  simp only [Rows.uptoBulkAll] at hk'
  exact law_mnarrows _ _ _ a b S W ha hb hS hg hok (ruls_small hda (by omega)) (ruls_small hdb (by omega)) (pars_small hdS (by omega))
set_option maxRecDepth 100000 in
theorem matchNarrows_met (os : Os) : (Rows.OpenSpec.upto Rows.matchNarrowsSpec).preRow enc Tryd.prog Tryd.f5 [] false signsD ((World.doorLaid Tryd.prog 14 os).forCall (fun _ _ => 0) ⟨#[], #[.slice none 0 0, .slice none 0 0, .slice none 0 0], []⟩).memory #[.slice none 0 0, .slice none 0 0, .slice none 0 0] := by
  have hw : (DataW.whole enc Tryd.prog ((World.doorLaid Tryd.prog 14 os).forCall (fun _ _ => 0) ⟨#[], #[.slice none 0 0, .slice none 0 0, .slice none 0 0], []⟩).memory Tryd.f5.params.toList (Rows.OpenSpec.upto Rows.matchNarrowsSpec).vars false (#[.slice none 0 0, .slice none 0 0, .slice none 0 0] : Array Value).toList 8).map (fun x => (x.1, x.2.1)) =
      some ([.nil, .nil, .nil], []) := by kernel_rfl
  obtain ⟨⟨x1, x2, x3⟩, hx, hx1⟩ := Option.map_eq_some_iff.1 hw
  simp only [Prod.mk.injEq] at hx1
  obtain ⟨rfl, rfl⟩ := hx1
  exact OpenSpec.preRow_of_cond 8 hx (by kernel_rfl) (fun k hk => by cases hk; rfl) (by kernel_rfl) (door_plain os _)
set_option maxRecDepth 100000 in
theorem matchNarrows_lifted (os : Os) (started : os.Started) (H : Type) (enc : TypeId × Value → H) (F : Stop.Interp) :
    ReturnsInHanded {} Tryd.checked os 5 .any ((Rows.OpenSpec.upto Rows.matchNarrowsSpec).preRow enc Tryd.checked.prog Tryd.f5 [] false signsD) (((Rows.OpenSpec.upto Rows.matchNarrowsSpec).at F).post enc Tryd.checked.prog Tryd.f5 false true false false) :=
  law_lifted_door (s := Rows.OpenSpec.upto Rows.matchNarrowsSpec) (s0 := Rows.matchNarrowsSpec) rfl rfl own started (by kernel_rfl) Tryd.func5 (by kernel_rfl) rfl Tryd.underlying4 rfl rfl rfl
    (fun ds h => by obtain ⟨d0, d1, d2, rfl⟩ := list3 h; rfl)
    (door_witness #[.slice none 0 0, .slice none 0 0, .slice none 0 0] (by kernel_rfl) (by kernel_rfl) (by kernel_rfl) (matchNarrows_met os))
    matchNarrows_walk
theorem matchNarrows_row : Rows.MatchNarrowsUptoSaid :=
  OpenClaim.holds_of_cond 5 Tryd.f5 rfl rfl rfl rfl rfl rfl rfl ⟨rfl, rfl, rfl, rfl, rfl⟩ rfl rfl rfl rfl rfl (by kernel_rfl) Tryd.func5 (by kernel_rfl)
    (of_decide_eq_true (by kernel_rfl)) (by unfold Func.isWrapper; rw [if_neg (of_decide_eq_false (by kernel_rfl))]; exact ⟨rfl, rfl⟩)
    (fun os started H enc _ F => by rw [OpenClaim.pre_eq_preRow]; exact matchNarrows_lifted os started H enc F)
theorem matchNarrows_holds : Rows.MatchNarrowsUptoCardSaid :=
  Claim7.holds_tied_plain_at .later [] [.data] true Rows.matchNarrowsUptoCard.stood.harness false
    matchNarrows_row (fun _ h => by cases h) (by kernel_rfl) (fun _ h => by cases h) matchNarrowsUpto_row_tie rfl ⟨rfl, rfl⟩ (by kernel_rfl) rfl
    (fun f fn hf hfn => by
      obtain rfl : f = 5 := Option.some.inj ((show Tryd.prog.funcNamed "slackwater/slackwaterlaw06.MatchNarrows" = some 5 by kernel_rfl).symm.trans hf) |>.symm
      obtain rfl : fn = Tryd.f5 := (Option.some.inj (Tryd.func5.symm.trans hfn)).symm
      exact ⟨by kernel_rfl, fun j t ht => by
        rw [Tryd.params5] at ht
        have hm : t ∈ [22, 22, 23] := by simpa using Array.mem_of_getElem? ht
        have hall : ([22, 22, 23].all fun u => !Tryd.prog.wantsStandIn u) = true := by kernel_rfl
        exact (show Tryd.prog.wantsStandIn t = false by simpa using List.all_eq_true.1 hall t hm)⟩)
    (by kernel_rfl)
#print axioms matchNarrows_holds
end
end Go.Proofs.YtmfbidhnafpkdaaDoor
