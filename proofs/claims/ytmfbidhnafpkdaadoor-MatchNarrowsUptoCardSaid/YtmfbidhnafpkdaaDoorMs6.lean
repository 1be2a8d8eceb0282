import Derived.Test.YtmfbidhnafpkdaaDoorMu
/-! MatchSplits: rules of two lists hold just if those of both do; of a rule and its contrary just one holds; what is a label's value holds, begins with and is itself. Of rules, labels and a name that are together of at most 1048576 letters and parts. -/
namespace Go.Proofs.YtmfbidhnafpkdaaDoor
open Go.RowKit
set_option linter.unusedVariables false
set_option linter.unusedSimpArgs false
structure St3 (w0 : World) (xv yv sv : Value) (a b : List Rul) (S : List Par) (w : World) : Prop where
  low : Below w0.heap.size w0 w
  x : Rz w xv a
  y : Rz w yv b
  p : Pz w sv S
  g : Sg w
theorem St3.below {w0 w w' : World} {xv yv sv : Value} {a b : List Rul} {S : List Par} (h : St3 w0 xv yv sv a b S w) (hb : Below w.heap.size w w') : St3 w0 xv yv sv a b S w' :=
  ⟨h.low.trans (hb.mono h.low.size), h.x.below hb, h.y.below hb, h.p.below hb, h.g.below hb⟩
def isL (nm v : ByteArray) : List Rul := [⟨nm, 1, v⟩, ⟨nm, 3, v⟩, ⟨nm, 4, v⟩]
def notL (nm v : ByteArray) : List Rul := [⟨nm, 2, v⟩]
structure St6 (w0 : World) (xv yv sv bv iv nv : Value) (a b ab : List Rul) (S : List Par) (nm v : ByteArray) (w : World) : Prop where
  s : St3 w0 xv yv sv a b S w
  both : Rz w bv ab
  i : Rz w iv (isL nm v)
  n : Rz w nv (notL nm v)
theorem St6.below {w0 w w' : World} {xv yv sv bv iv nv : Value} {a b ab : List Rul} {S : List Par} {nm v : ByteArray} (h : St6 w0 xv yv sv bv iv nv a b ab S nm v w) (hb : Below w.heap.size w w') : St6 w0 xv yv sv bv iv nv a b ab S nm v w' :=
  ⟨h.s.below hb, h.both.below hb, h.i.below hb, h.n.below hb⟩
theorem lits (w : World) (nm v : ByteArray) :
    Rz (w.alloc (.cells #[.string nm, .int .i64 1, .string v, .string nm, .int .i64 3, .string v, .string nm, .int .i64 4, .string v] 35)) (.slice (some ⟨w.heap.size, 0, none⟩) 3 3) (isL nm v) ∧
    Rz ((w.alloc (.cells #[.string nm, .int .i64 1, .string v, .string nm, .int .i64 3, .string v, .string nm, .int .i64 4, .string v] 35)).alloc (.cells #[.string nm, .int .i64 2, .string v] 35)) (.slice (some ⟨w.heap.size + 1, 0, none⟩) 1 1) (notL nm v) := by
  have h1 := Blk.new w 35 #[.string nm, .int .i64 1, .string v, .string nm, .int .i64 3, .string v, .string nm, .int .i64 4, .string v]
  have h2 := Blk.new (w.alloc (.cells #[.string nm, .int .i64 1, .string v, .string nm, .int .i64 3, .string v, .string nm, .int .i64 4, .string v] 35)) 35 #[.string nm, .int .i64 2, .string v]
  have e : (w.alloc (.cells #[.string nm, .int .i64 1, .string v, .string nm, .int .i64 3, .string v, .string nm, .int .i64 4, .string v] 35)).heap.size = w.heap.size + 1 := by simp
  rw [e] at h2
  exact ⟨Rz.own (base := 0) (n := 3) (t := 35) (h1.own (b := 0) (size := 3) (n := 3) (cap := 3) (Nat.zero_le _) (Nat.le_refl _) (by unfold maxLen; omega) rfl rfl rfl),
    Rz.own (base := 0) (n := 1) (t := 35) (h2.own (b := 0) (size := 3) (n := 1) (cap := 1) (Nat.zero_le _) (Nat.le_refl _) (by unfold maxLen; omega) rfl rfl rfl)⟩
theorem isL_all {S : List Par} {nm v : ByteArray} (h : getL S nm = v) : allL (isL nm v) S = true := by
  have hp : v.data.toList.isPrefixOf v.data.toList = true := List.isPrefixOf_iff_prefix.2 (List.prefix_refl _)
  have hc : Lib.contains v.data.toList v.data.toList = true := contains_at (i := 0) (Nat.zero_le _) hp
  have h1 : oneL S ⟨nm, 1, v⟩ = true := by unfold oneL; rw [if_pos rfl]; simp [h]
  have h3 : oneL S ⟨nm, 3, v⟩ = true := by
    unfold oneL
    rw [if_neg (show ¬ ((3 : Int) = 1) by decide), if_neg (show ¬ ((3 : Int) = 2) by decide), if_pos rfl, h]
    exact hp
  have h4 : oneL S ⟨nm, 4, v⟩ = true := by
    unfold oneL
    rw [if_neg (show ¬ ((4 : Int) = 1) by decide), if_neg (show ¬ ((4 : Int) = 2) by decide), if_neg (show ¬ ((4 : Int) = 3) by decide), if_pos rfl, h]
    exact hc
  unfold allL isL
  simp only [List.all_cons, List.all_nil, h1, h3, h4, Bool.and_true]
theorem notL_all {S : List Par} {nm v : ByteArray} (h : getL S nm = v) : allL (notL nm v) S = false := by
  simp [allL, notL, oneL, h]
theorem allL_append (a b : List Rul) (S : List Par) : allL (a ++ b) S = (allL a S && allL b S) := by simp [allL]
set_option maxRecDepth 100000 in
set_option maxHeartbeats 40000000 in
theorem law_msplits (va vb vs : Value) (a b : List Rul) (S : List Par) (nm : ByteArray) (w : World) (ha : Rz w va a) (hb : Rz w vb b) (hp : Pz w vs S) (hg : Sg w) (hsa : szR a ≤ 5242880) (hsb : szR b ≤ 5242880) (hss : szP S ≤ 1048576) :
    Calls Tryd.prog 4 #[va, vb, vs, .string nm] w fun e w' => e = .returned (.bool true) ∧ Below w.heap.size w w' := by
  have la := szR_len a
  have lb := szR_len b
  have lp := szP_len S
  have hz := szP_of hss
  obtain ⟨v, hv⟩ : ∃ v, getL S nm = v := ⟨_, rfl⟩
  obtain ⟨ab, hab⟩ : ∃ ab, a ++ b = ab := ⟨_, rfl⟩
  have hAB : allL ab S = (allL a S && allL b S) := by rw [← hab, allL_append]
  have cI : ∀ {xv yv sv bv iv nv : Value} (w' : World), St6 w xv yv sv bv iv nv a b ab S nm v w' → Calls Tryd.prog 12 #[iv, sv] w' fun e w'' => e = .returned (.bool true) ∧ Below w'.heap.size w' w'' := fun w' st => by
    have := mall_any _ _ _ S w' st.i st.s.p st.s.g hz
    rw [isL_all hv] at this
    exact this
  have cN : ∀ {xv yv sv bv iv nv : Value} (w' : World), St6 w xv yv sv bv iv nv a b ab S nm v w' → Calls Tryd.prog 12 #[nv, sv] w' fun e w'' => e = .returned (.bool false) ∧ Below w'.heap.size w' w'' := fun w' st => by
    have := mall_any _ _ _ S w' st.n st.s.p st.s.g hz
    rw [notL_all hv] at this
    exact this
  have cB : ∀ {xv yv sv bv iv nv : Value} (w' : World), St6 w xv yv sv bv iv nv a b ab S nm v w' → Calls Tryd.prog 12 #[bv, sv] w' fun e w'' => e = .returned (.bool (allL ab S)) ∧ Below w'.heap.size w' w'' := fun w' st => mall_any _ _ _ S w' st.both st.s.p st.s.g hz
  have cX : ∀ {xv yv sv bv iv nv : Value} (w' : World), St6 w xv yv sv bv iv nv a b ab S nm v w' → Calls Tryd.prog 12 #[xv, sv] w' fun e w'' => e = .returned (.bool (allL a S)) ∧ Below w'.heap.size w' w'' := fun w' st => mall_any _ _ _ S w' st.s.x st.s.p st.s.g hz
  have cY : ∀ {xv yv sv bv iv nv : Value} (w' : World), St6 w xv yv sv bv iv nv a b ab S nm v w' → Calls Tryd.prog 12 #[yv, sv] w' fun e w'' => e = .returned (.bool (allL b S)) ∧ Below w'.heap.size w' w'' := fun w' st => mall_any _ _ _ S w' st.s.y st.s.p st.s.g hz
  rw [hAB] at cB
  have AB := hide hab
  have E := hide hv
  have k1 := rto_any _ a w ha (by omega)
  clear hAB hab hv
  cases hpa : allL a S with
  | true =>
    rw [hpa] at cB cX
    cases hpb : allL b S with
    | true =>
      rw [hpb] at cB cY
      clear hpa hpb
      go_enter Tryd.func4, Tryd.ntmps4
      go_wp2_with (first
        | (go_at_call 10; (with_reducible refine k1.mono ?_); rintro e w1 ⟨⟨u1, rfl, ho1⟩, hb1⟩; have hz1 := Rz.own ho1; obtain ⟨B1, d1, rfl⟩ := hz1.shape; have k2 := rto_any _ b w1 (hb.below hb1) (by omega))
        | (go_at_call 10; (with_reducible refine k2.mono ?_); rintro e w2 ⟨⟨u2, rfl, ho2⟩, hb2⟩; have hz2 := Rz.own ho2; obtain ⟨B2, d2, rfl⟩ := hz2.shape; have hb02 := hb1.trans (hb2.mono hb1.size); have k3 := lto_any _ S w2 (hp.below hb02) (by omega))
        | (go_at_call 13; (with_reducible refine k3.mono ?_); rintro e w3 ⟨⟨u3, rfl, ho3⟩, hb3⟩; have hz3 := Pz.own ho3; obtain ⟨B3, d3, rfl⟩ := hz3.shape; have hb03 := hb02.trans (hb3.mono hb02.size); have k4 := pget_any _ S nm w3 hz3; rw [E.out] at k4; have st3 : St3 w _ _ _ a b S w3 := ⟨hb03, (hz1.below hb2).below hb3, hz2.below hb3, hz3, hg.below hb03⟩)
        | (go_at_call 15; (with_reducible refine k4.mono ?_); rintro e w4 ⟨rfl, hb4⟩; have st4 := st3.below hb4; obtain ⟨g1, c1', w5, g2, c2', w6, r1, r2, hbz, hb6⟩ := run_bothR st4.x st4.y (by omega); rw [AB.out] at r2 hbz; have st6 := st4.below hb6; obtain ⟨hI, hN⟩ := lits w6 nm v)
        | (at_builtin; refine wpList_append_run rfl (.tmp 25) (.tmp 26) 26 rfl rfl rfl r1 ?_)
        | (at_builtin; refine wpList_append_run rfl (.tmp 27) (.tmp 28) 26 rfl rfl rfl r2 ?_)
        | (go_at_call 8; (with_reducible refine (mawake_any _ (st6.g.below (by (repeat' (first | with_reducible exact Below.refl _ _ | with_reducible refine Below.ext ?_ ?_ _ | with_reducible refine Below.alloc ?_ ?_ _ | with_reducible refine Below.setCell ?_ ?_ _ | with_reducible refine Below.drew ?_ | with_reducible assumption | (simp [World.size_ext]; done) | (simp [World.size_ext]; omega)))))).mono ?_); rintro e w7 ⟨rfl, hb7⟩; have st7 : St6 w _ _ _ _ _ _ a b ab S nm v w7 := ⟨st6.below (Below.trans (by (repeat' (first | with_reducible exact Below.refl _ _ | with_reducible refine Below.ext ?_ ?_ _ | with_reducible refine Below.alloc ?_ ?_ _ | with_reducible refine Below.setCell ?_ ?_ _ | with_reducible refine Below.drew ?_ | with_reducible assumption | (simp [World.size_ext]; done) | (simp [World.size_ext]; omega)))) (hb7.mono (by first | (simp; done) | (simp; omega)))), hbz.below (Below.trans (by (repeat' (first | with_reducible exact Below.refl _ _ | with_reducible refine Below.ext ?_ ?_ _ | with_reducible refine Below.alloc ?_ ?_ _ | with_reducible refine Below.setCell ?_ ?_ _ | with_reducible refine Below.drew ?_ | with_reducible assumption | (simp [World.size_ext]; done) | (simp [World.size_ext]; omega)))) (hb7.mono (by first | (simp; done) | (simp; omega)))), hI.below (Below.trans (by (repeat' (first | with_reducible exact Below.refl _ _ | with_reducible refine Below.ext ?_ ?_ _ | with_reducible refine Below.alloc ?_ ?_ _ | with_reducible refine Below.setCell ?_ ?_ _ | with_reducible refine Below.drew ?_ | with_reducible assumption | (simp [World.size_ext]; done) | (simp [World.size_ext]; omega)))) (hb7.mono (by first | (simp; done) | (simp; omega)))), hN.below hb7⟩)
        | (go_at_call 12; (with_reducible refine (cB _ st7).mono ?_); rintro e w8 ⟨rfl, hb8⟩; have st8 := (st7).below hb8) | (go_at_call 12; (with_reducible refine (cX _ st8).mono ?_); rintro e w9 ⟨rfl, hb9⟩; have st9 := (st8).below hb9) | (go_at_call 12; (with_reducible refine (cY _ st9).mono ?_); rintro e w10 ⟨rfl, hb10⟩; have st10 := (st9).below hb10) | (go_at_call 12; (with_reducible refine (cI _ st10).mono ?_); rintro e w11 ⟨rfl, hb11⟩; have st11 := (st10).below hb11) | (go_at_call 12; (with_reducible refine (cN _ st11).mono ?_); rintro e w12 ⟨rfl, hb12⟩; have st12 := (st11).below hb12) | (go_at_call 12; (with_reducible refine (cI _ st9).mono ?_); rintro e w13 ⟨rfl, hb13⟩; have st13 := (st9).below hb13) | (go_at_call 12; (with_reducible refine (cN _ st13).mono ?_); rintro e w14 ⟨rfl, hb14⟩; have st14 := (st13).below hb14))
      go_ret
      first | exact ⟨rfl, st12.s.low⟩ | exact ⟨rfl, st14.s.low⟩
    | false =>
      rw [hpb] at cB cY
      clear hpa hpb
      go_enter Tryd.func4, Tryd.ntmps4
      go_wp2_with (first
        | (go_at_call 10; (with_reducible refine k1.mono ?_); rintro e w1 ⟨⟨u1, rfl, ho1⟩, hb1⟩; have hz1 := Rz.own ho1; obtain ⟨B1, d1, rfl⟩ := hz1.shape; have k2 := rto_any _ b w1 (hb.below hb1) (by omega))
        | (go_at_call 10; (with_reducible refine k2.mono ?_); rintro e w2 ⟨⟨u2, rfl, ho2⟩, hb2⟩; have hz2 := Rz.own ho2; obtain ⟨B2, d2, rfl⟩ := hz2.shape; have hb02 := hb1.trans (hb2.mono hb1.size); have k3 := lto_any _ S w2 (hp.below hb02) (by omega))
        | (go_at_call 13; (with_reducible refine k3.mono ?_); rintro e w3 ⟨⟨u3, rfl, ho3⟩, hb3⟩; have hz3 := Pz.own ho3; obtain ⟨B3, d3, rfl⟩ := hz3.shape; have hb03 := hb02.trans (hb3.mono hb02.size); have k4 := pget_any _ S nm w3 hz3; rw [E.out] at k4; have st3 : St3 w _ _ _ a b S w3 := ⟨hb03, (hz1.below hb2).below hb3, hz2.below hb3, hz3, hg.below hb03⟩)
        | (go_at_call 15; (with_reducible refine k4.mono ?_); rintro e w4 ⟨rfl, hb4⟩; have st4 := st3.below hb4; obtain ⟨g1, c1', w5, g2, c2', w6, r1, r2, hbz, hb6⟩ := run_bothR st4.x st4.y (by omega); rw [AB.out] at r2 hbz; have st6 := st4.below hb6; obtain ⟨hI, hN⟩ := lits w6 nm v)
        | (at_builtin; refine wpList_append_run rfl (.tmp 25) (.tmp 26) 26 rfl rfl rfl r1 ?_)
        | (at_builtin; refine wpList_append_run rfl (.tmp 27) (.tmp 28) 26 rfl rfl rfl r2 ?_)
        | (go_at_call 8; (with_reducible refine (mawake_any _ (st6.g.below (by (repeat' (first | with_reducible exact Below.refl _ _ | with_reducible refine Below.ext ?_ ?_ _ | with_reducible refine Below.alloc ?_ ?_ _ | with_reducible refine Below.setCell ?_ ?_ _ | with_reducible refine Below.drew ?_ | with_reducible assumption | (simp [World.size_ext]; done) | (simp [World.size_ext]; omega)))))).mono ?_); rintro e w7 ⟨rfl, hb7⟩; have st7 : St6 w _ _ _ _ _ _ a b ab S nm v w7 := ⟨st6.below (Below.trans (by (repeat' (first | with_reducible exact Below.refl _ _ | with_reducible refine Below.ext ?_ ?_ _ | with_reducible refine Below.alloc ?_ ?_ _ | with_reducible refine Below.setCell ?_ ?_ _ | with_reducible refine Below.drew ?_ | with_reducible assumption | (simp [World.size_ext]; done) | (simp [World.size_ext]; omega)))) (hb7.mono (by first | (simp; done) | (simp; omega)))), hbz.below (Below.trans (by (repeat' (first | with_reducible exact Below.refl _ _ | with_reducible refine Below.ext ?_ ?_ _ | with_reducible refine Below.alloc ?_ ?_ _ | with_reducible refine Below.setCell ?_ ?_ _ | with_reducible refine Below.drew ?_ | with_reducible assumption | (simp [World.size_ext]; done) | (simp [World.size_ext]; omega)))) (hb7.mono (by first | (simp; done) | (simp; omega)))), hI.below (Below.trans (by (repeat' (first | with_reducible exact Below.refl _ _ | with_reducible refine Below.ext ?_ ?_ _ | with_reducible refine Below.alloc ?_ ?_ _ | with_reducible refine Below.setCell ?_ ?_ _ | with_reducible refine Below.drew ?_ | with_reducible assumption | (simp [World.size_ext]; done) | (simp [World.size_ext]; omega)))) (hb7.mono (by first | (simp; done) | (simp; omega)))), hN.below hb7⟩)
        | (go_at_call 12; (with_reducible refine (cB _ st7).mono ?_); rintro e w8 ⟨rfl, hb8⟩; have st8 := (st7).below hb8) | (go_at_call 12; (with_reducible refine (cX _ st8).mono ?_); rintro e w9 ⟨rfl, hb9⟩; have st9 := (st8).below hb9) | (go_at_call 12; (with_reducible refine (cY _ st9).mono ?_); rintro e w10 ⟨rfl, hb10⟩; have st10 := (st9).below hb10) | (go_at_call 12; (with_reducible refine (cI _ st10).mono ?_); rintro e w11 ⟨rfl, hb11⟩; have st11 := (st10).below hb11) | (go_at_call 12; (with_reducible refine (cN _ st11).mono ?_); rintro e w12 ⟨rfl, hb12⟩; have st12 := (st11).below hb12) | (go_at_call 12; (with_reducible refine (cI _ st9).mono ?_); rintro e w13 ⟨rfl, hb13⟩; have st13 := (st9).below hb13) | (go_at_call 12; (with_reducible refine (cN _ st13).mono ?_); rintro e w14 ⟨rfl, hb14⟩; have st14 := (st13).below hb14))
      go_ret
      first | exact ⟨rfl, st12.s.low⟩ | exact ⟨rfl, st14.s.low⟩
  | false =>
    rw [hpa] at cB cX
    rw [Bool.false_and] at cB
    clear hpa
    go_enter Tryd.func4, Tryd.ntmps4
    go_wp2_with (first
      | (go_at_call 10; (with_reducible refine k1.mono ?_); rintro e w1 ⟨⟨u1, rfl, ho1⟩, hb1⟩; have hz1 := Rz.own ho1; obtain ⟨B1, d1, rfl⟩ := hz1.shape; have k2 := rto_any _ b w1 (hb.below hb1) (by omega))
      | (go_at_call 10; (with_reducible refine k2.mono ?_); rintro e w2 ⟨⟨u2, rfl, ho2⟩, hb2⟩; have hz2 := Rz.own ho2; obtain ⟨B2, d2, rfl⟩ := hz2.shape; have hb02 := hb1.trans (hb2.mono hb1.size); have k3 := lto_any _ S w2 (hp.below hb02) (by omega))
      | (go_at_call 13; (with_reducible refine k3.mono ?_); rintro e w3 ⟨⟨u3, rfl, ho3⟩, hb3⟩; have hz3 := Pz.own ho3; obtain ⟨B3, d3, rfl⟩ := hz3.shape; have hb03 := hb02.trans (hb3.mono hb02.size); have k4 := pget_any _ S nm w3 hz3; rw [E.out] at k4; have st3 : St3 w _ _ _ a b S w3 := ⟨hb03, (hz1.below hb2).below hb3, hz2.below hb3, hz3, hg.below hb03⟩)
      | (go_at_call 15; (with_reducible refine k4.mono ?_); rintro e w4 ⟨rfl, hb4⟩; have st4 := st3.below hb4; obtain ⟨g1, c1', w5, g2, c2', w6, r1, r2, hbz, hb6⟩ := run_bothR st4.x st4.y (by omega); rw [AB.out] at r2 hbz; have st6 := st4.below hb6; obtain ⟨hI, hN⟩ := lits w6 nm v)
      | (at_builtin; refine wpList_append_run rfl (.tmp 25) (.tmp 26) 26 rfl rfl rfl r1 ?_)
      | (at_builtin; refine wpList_append_run rfl (.tmp 27) (.tmp 28) 26 rfl rfl rfl r2 ?_)
      | (go_at_call 8; (with_reducible refine (mawake_any _ (st6.g.below (by (repeat' (first | with_reducible exact Below.refl _ _ | with_reducible refine Below.ext ?_ ?_ _ | with_reducible refine Below.alloc ?_ ?_ _ | with_reducible refine Below.setCell ?_ ?_ _ | with_reducible refine Below.drew ?_ | with_reducible assumption | (simp [World.size_ext]; done) | (simp [World.size_ext]; omega)))))).mono ?_); rintro e w7 ⟨rfl, hb7⟩; have st7 : St6 w _ _ _ _ _ _ a b ab S nm v w7 := ⟨st6.below (Below.trans (by (repeat' (first | with_reducible exact Below.refl _ _ | with_reducible refine Below.ext ?_ ?_ _ | with_reducible refine Below.alloc ?_ ?_ _ | with_reducible refine Below.setCell ?_ ?_ _ | with_reducible refine Below.drew ?_ | with_reducible assumption | (simp [World.size_ext]; done) | (simp [World.size_ext]; omega)))) (hb7.mono (by first | (simp; done) | (simp; omega)))), hbz.below (Below.trans (by (repeat' (first | with_reducible exact Below.refl _ _ | with_reducible refine Below.ext ?_ ?_ _ | with_reducible refine Below.alloc ?_ ?_ _ | with_reducible refine Below.setCell ?_ ?_ _ | with_reducible refine Below.drew ?_ | with_reducible assumption | (simp [World.size_ext]; done) | (simp [World.size_ext]; omega)))) (hb7.mono (by first | (simp; done) | (simp; omega)))), hI.below (Below.trans (by (repeat' (first | with_reducible exact Below.refl _ _ | with_reducible refine Below.ext ?_ ?_ _ | with_reducible refine Below.alloc ?_ ?_ _ | with_reducible refine Below.setCell ?_ ?_ _ | with_reducible refine Below.drew ?_ | with_reducible assumption | (simp [World.size_ext]; done) | (simp [World.size_ext]; omega)))) (hb7.mono (by first | (simp; done) | (simp; omega)))), hN.below hb7⟩)
      | (go_at_call 12; (with_reducible refine (cB _ st7).mono ?_); rintro e w8 ⟨rfl, hb8⟩; have st8 := (st7).below hb8) | (go_at_call 12; (with_reducible refine (cX _ st8).mono ?_); rintro e w9 ⟨rfl, hb9⟩; have st9 := (st8).below hb9) | (go_at_call 12; (with_reducible refine (cY _ st9).mono ?_); rintro e w10 ⟨rfl, hb10⟩; have st10 := (st9).below hb10) | (go_at_call 12; (with_reducible refine (cI _ st10).mono ?_); rintro e w11 ⟨rfl, hb11⟩; have st11 := (st10).below hb11) | (go_at_call 12; (with_reducible refine (cN _ st11).mono ?_); rintro e w12 ⟨rfl, hb12⟩; have st12 := (st11).below hb12) | (go_at_call 12; (with_reducible refine (cI _ st9).mono ?_); rintro e w13 ⟨rfl, hb13⟩; have st13 := (st9).below hb13) | (go_at_call 12; (with_reducible refine (cN _ st13).mono ?_); rintro e w14 ⟨rfl, hb14⟩; have st14 := (st13).below hb14))
    go_ret
    first | exact ⟨rfl, st12.s.low⟩ | exact ⟨rfl, st14.s.low⟩
section
open Go.ChangeShapes Go.WideShapes Go.ChangeAt Go.Joins
variable {H : Type} {enc : TypeId × Value → H}
set_option maxRecDepth 100000 in
theorem matchSplits_walk : LawWalkD enc 4 Tryd.f4 := by
  intro W base args ds ps hval hA hlt _ hk hs hg
  rw [Tryd.params4] at hA hval hs
  obtain ⟨v0, v1, v2, v3, d0, d1, d2, d3, p0, p1, p2, p3, rfl, rfl, rfl, h0, h1, h2, h3⟩ := trodAll_four hA
  obtain ⟨a, ha, _, hda⟩ := ruls_open (hval 0 _ v0 rfl rfl) h0
  obtain ⟨b, hb, _, hdb⟩ := ruls_open (hval 1 _ v1 rfl rfl) h1
  obtain ⟨S, hS, _, hdS⟩ := pars_open (hval 2 _ v2 rfl rfl) h2
  obtain ⟨nm, rfl, _, rfl⟩ := str_open3 (hval 3 _ v3 rfl rfl) h3
  have hk' := bulk_bound hk
  simp only [Rows.uptoBulkAll, bulk_string] at hk'
  exact law_msplits _ _ _ a b S nm W ha hb hS hg (ruls_small hda (by omega)) (ruls_small hdb (by omega)) (pars_small hdS (by omega))
set_option maxRecDepth 100000 in
theorem matchSplits_met (os : Os) : (Rows.OpenSpec.upto Rows.matchSplitsSpec).preRow enc Tryd.prog Tryd.f4 [] false signsD ((World.doorLaid Tryd.prog 14 os).forCall (fun _ _ => 0) ⟨#[], #[.slice none 0 0, .slice none 0 0, .slice none 0 0, .string ⟨#[]⟩], []⟩).memory #[.slice none 0 0, .slice none 0 0, .slice none 0 0, .string ⟨#[]⟩] := by
  have hw : (DataW.whole enc Tryd.prog ((World.doorLaid Tryd.prog 14 os).forCall (fun _ _ => 0) ⟨#[], #[.slice none 0 0, .slice none 0 0, .slice none 0 0, .string ⟨#[]⟩], []⟩).memory Tryd.f4.params.toList (Rows.OpenSpec.upto Rows.matchSplitsSpec).vars false (#[.slice none 0 0, .slice none 0 0, .slice none 0 0, .string ⟨#[]⟩] : Array Value).toList 8).map (fun x => (x.1, x.2.1)) =
      some ([.nil, .nil, .nil, .lit (.string [])], []) := by kernel_rfl
  obtain ⟨⟨x1, x2, x3⟩, hx, hx1⟩ := Option.map_eq_some_iff.1 hw
  simp only [Prod.mk.injEq] at hx1
  obtain ⟨rfl, rfl⟩ := hx1
  exact OpenSpec.preRow_of_cond 8 hx (by kernel_rfl) (fun k hk => by cases hk; rfl) (by kernel_rfl) (door_plain os _)
set_option maxRecDepth 100000 in
theorem matchSplits_lifted (os : Os) (started : os.Started) (H : Type) (enc : TypeId × Value → H) (F : Stop.Interp) :
    ReturnsInHanded {} Tryd.checked os 4 .any ((Rows.OpenSpec.upto Rows.matchSplitsSpec).preRow enc Tryd.checked.prog Tryd.f4 [] false signsD) (((Rows.OpenSpec.upto Rows.matchSplitsSpec).at F).post enc Tryd.checked.prog Tryd.f4 false true false false) :=
  law_lifted_door (s := Rows.OpenSpec.upto Rows.matchSplitsSpec) (s0 := Rows.matchSplitsSpec) rfl rfl own started (by kernel_rfl) Tryd.func4 (by kernel_rfl) rfl Tryd.underlying4 rfl rfl rfl
    (fun ds h => by obtain ⟨d0, d1, d2, d3, rfl⟩ := list4 h; rfl)
    (door_witness #[.slice none 0 0, .slice none 0 0, .slice none 0 0, .string ⟨#[]⟩] (by kernel_rfl) (by kernel_rfl) (by kernel_rfl) (matchSplits_met os))
    matchSplits_walk
theorem matchSplits_row : Rows.MatchSplitsUptoSaid :=
  OpenClaim.holds_of_cond 4 Tryd.f4 rfl rfl rfl rfl rfl rfl rfl ⟨rfl, rfl, rfl, rfl, rfl⟩ rfl rfl rfl rfl rfl (by kernel_rfl) Tryd.func4 (by kernel_rfl)
    (of_decide_eq_true (by kernel_rfl)) (by unfold Func.isWrapper; rw [if_neg (of_decide_eq_false (by kernel_rfl))]; exact ⟨rfl, rfl⟩)
    (fun os started H enc _ F => by rw [OpenClaim.pre_eq_preRow]; exact matchSplits_lifted os started H enc F)
theorem matchSplits_holds : Rows.MatchSplitsUptoCardSaid :=
  Claim7.holds_tied_plain_at .later [] [.data] true Rows.matchSplitsUptoCard.stood.harness false
    matchSplits_row (fun _ h => by cases h) (by kernel_rfl) (fun _ h => by cases h) matchSplitsUpto_row_tie rfl ⟨rfl, rfl⟩ (by kernel_rfl) rfl
    (fun f fn hf hfn => by
      obtain rfl : f = 4 := Option.some.inj ((show Tryd.prog.funcNamed "slackwater/slackwaterlaw06.MatchSplits" = some 4 by kernel_rfl).symm.trans hf) |>.symm
      obtain rfl : fn = Tryd.f4 := (Option.some.inj (Tryd.func4.symm.trans hfn)).symm
      exact ⟨by kernel_rfl, fun j t ht => by
        rw [Tryd.params4] at ht
        have hm : t ∈ [22, 22, 23, 9] := by simpa using Array.mem_of_getElem? ht
        have hall : ([22, 22, 23, 9].all fun u => !Tryd.prog.wantsStandIn u) = true := by kernel_rfl
        exact (show Tryd.prog.wantsStandIn t = false by simpa using List.all_eq_true.1 hall t hm)⟩)
    (by kernel_rfl)
#print axioms matchSplits_holds
end
end Go.Proofs.YtmfbidhnafpkdaaDoor
