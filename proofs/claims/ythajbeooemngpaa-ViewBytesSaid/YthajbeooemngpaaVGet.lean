import Derived.Test.YthajbeooemngpaaVCopy
import Derived.Test.YthajbeooemngpaaMr2
import Derived.Test.YthajbeooemngpaaRd5
/-! A view off a reader: the program's. -/
namespace Go.Proofs.Ythajbeooemngpaa
open Go.RowKit
set_option linter.unusedVariables false
set_option linter.unusedSimpArgs false
/-- Numbers off bytes. -/
def glP : Nat → Rest → List Int × Rest
  | 0, r => ([], r)
  | j + 1, r => ((glP j r).1 ++ [zag (numP (glP j r).2).1], (numP (glP j r).2).2)
theorem glP_length : ∀ (j : Nat) (r : Rest), (glP j r).1.length = j
  | 0, _ => rfl
  | j + 1, r => by simp [glP, glP_length j r]
structure Gv where
  e : Int
  p : Int
  l : List Int
  r : Rest
def gvP (r : Rest) : Gv := ⟨zag (numP r).1, zag (numP (numP r).2).1, (glP (countP 8 (numP (numP r).2).2).1 (countP 8 (numP (numP r).2).2).2).1, (glP (countP 8 (numP (numP r).2).2).1 (countP 8 (numP (numP r).2).2).2).2⟩
def getV (r : Rest) : Gv := if (gvP r).r.e ≠ 0 then ⟨0, 0, [], (gvP r).r⟩ else gvP r
theorem count8_le (r : Rest) : (countP 8 r).1 ≤ 8 := by
  unfold countP
  split
  · simp
  · rename_i h
    have : ¬(8 : Int).toNat < (numP r).1 := fun h' => h (.inl h')
    simpa using this
theorem ri_any (g b : Nat) (r : Rest) (w : World) (h : Rdr w g b r.xs r.e) :
    Calls Try.prog 50 #[.pointer (some ⟨g, 0, none⟩)] w fun e' w' => e' = .returned (.int .i64 (zag (numP r).1)) ∧ Rdr w' g b (numP r).2.xs (numP r).2.e ∧ Only w w' g := rdint_any g b r.xs r.e w h
theorem rc_any (g b : Nat) (r : Rest) (w : World) (h : Rdr w g b r.xs r.e) :
    Calls Try.prog 60 #[.pointer (some ⟨g, 0, none⟩), .int .i64 8] w fun e' w' => e' = .returned (.int .i64 ((countP 8 r).1 : Nat)) ∧ Rdr w' g b (countP 8 r).2.xs (countP 8 r).2.e ∧ Only w w' g := rdcount_any g b r.xs r.e 8 w h (by unfold I64; omega)
theorem gvP_eq {r r1 r2 r3 : Rest} {n1 n2 n3 : Nat} (h1 : numP r = (n1, r1)) (h2 : numP r1 = (n2, r2)) (h3 : countP 8 r2 = (n3, r3)) : gvP r = ⟨zag n1, zag n2, (glP n3 r3).1, (glP n3 r3).2⟩ := by
  unfold gvP
  simp only [h1, h2, h3]
theorem Rdr.low {w w' : World} {B g b : Nat} {xs : List Nat} {e : Int} (h : Rdr w g b xs e) (hb : Below B w w') (h1 : g < B) (h2 : b < B) : Rdr w' g b xs e := by
  have hl := h.lt
  obtain ⟨⟨A, c, k1, k2, k3, k4⟩, hn⟩ := h
  exact ⟨⟨A, c, k1.below hb h1, k2.keep (Nat.lt_of_lt_of_le hl.2 hb.size) (hb.block b h2), k3, k4⟩, hn⟩
theorem Only.low {w w' w'' : World} {g B : Nat} (h : Only w w' g) (hb : Below B w' w'') (hB : w.heap.size ≤ B) : Only w w'' g :=
  ⟨hb.os.trans h.os, hb.tape.trans h.tape, hb.output.trans h.output, Nat.le_trans h.size hb.size, fun k hk hg => (hb.block k (by omega)).trans (h.block k hk hg)⟩
theorem getV_bd (r : Rest) : (getV r).l.length ≤ 8 := by
  unfold getV
  split
  · simp
  · unfold gvP
    rw [glP_length]
    exact count8_le _
set_option maxRecDepth 100000 in
set_option maxHeartbeats 4000000 in
theorem pget_any (g b : Nat) (r : Rest) (w : World) (h : Rdr w g b r.xs r.e) :
    Calls Try.prog 63 #[.pointer (some ⟨g, 0, none⟩)] w fun o w' => (∃ v, o = .returned (.agg #[.int .i64 (getV r).e, .int .i64 (getV r).p, v]) ∧ w'.ownsRow w.heap.size 3 1 v (getV r).l.length (ints (getV r).l)) ∧ Rdr w' g b (getV r).r.xs (getV r).r.e ∧ Only w w' g := by
  have hlt := h.lt
  obtain ⟨i0, hi, hz0, hz1, hz2⟩ := info_parts infoI64
  have h0 : Rdr (w.alloc (.cells #[.int .i64 0, .int .i64 0, .slice none 0 0] 56)) g b r.xs r.e := h.below (Below.alloc (Below.refl _ _) (Nat.le_refl _) _)
  have hZ := Blk.new w 56 #[.int .i64 0, .int .i64 0, .slice none 0 0]
  have hi1 := fun w' h' => ri_any g b r w' h'
  have h8 := fun r2 => count8_le r2
  rcases hq1 : numP r with ⟨n1, r1⟩
  rw [hq1] at hi1
  have hi2 := fun w' h' => ri_any g b r1 w' h'
  rcases hq2 : numP r1 with ⟨n2, r2⟩
  rw [hq2] at hi2
  have hi3 := fun w' h' => rc_any g b r2 w' h'
  replace h8 := h8 r2
  rcases hq3 : countP 8 r2 with ⟨n3, r3⟩
  rw [hq3] at hi3 h8
  have hgv := gvP_eq hq1 hq2 hq3
  unfold getV
  rw [hgv]
  simp only at hi1 hi2 hi3 h8 ⊢
  clear hq1 hq2 hq3 hgv
  generalize zag n1 = E at *
  generalize zag n2 = P at *
  go_enter Try.func63, Try.ntmps63
  go_wp2_with (first | (go_at_call 50; (with_reducible refine (hi1 _ h0).mono ?_); rintro e w1 ⟨rfl, hr1, ho1⟩) | (go_at_call 50; (with_reducible refine (hi2 _ hr1).mono ?_); rintro e w2 ⟨rfl, hr2, ho2⟩; have hr2' := Rdr.below hr2 (Below.alloc (Below.refl _ _) (Nat.le_refl _) (.cells #[.int .i64 E, .int .i64 P, .slice none 0 0] 56))) | (go_at_call 60; (with_reducible refine (hi3 _ hr2').mono ?_); rintro e w3 ⟨rfl, hr3, ho3⟩))
  have hs1 := ho1.size
  have hs2 := ho2.size
  have hs3 := ho3.size
  simp only [World.size_alloc] at hs1 hs3
  have hV := Blk.only (Blk.new w2 56 #[.int .i64 E, .int .i64 P, .slice none 0 0]) ho3 (by omega)
  have hZ3 := Blk.only ((Blk.only (Blk.only hZ ho1 (by omega)) ho2 (by omega)).alloc (.cells #[.int .i64 E, .int .i64 P, .slice none 0 0] 56)) ho3 (by omega)
  have hO3 : Only w w3 g := ((((Only.refl w g).alloc _).trans ho1).trans ho2).alloc (.cells #[.int .i64 E, .int .i64 P, .slice none 0 0] 56) |>.trans ho3
  clear hi1 hi2 hi3 h0 hZ hr1 ho1 hr2 hr2' ho2 ho3
  have hp2 : w.heap.size + 1 ≤ w2.heap.size := by omega
  generalize w2.heap.size = pv at *
  go_loopw [11] (fun vi wr => ∃ (j : Nat) (v : Value), j ≤ n3 ∧ vi = .int .i64 (j : Int) ∧ Blk wr pv 56 #[.int .i64 E, .int .i64 P, v] ∧ wr.ownsRow (pv + 1) 3 1 v j (ints (glP j r3).1) ∧ Rdr wr g b (glP j r3).2.xs (glP j r3).2.e ∧ Blk wr w.heap.size 56 #[.int .i64 0, .int .i64 0, .slice none 0 0] ∧ Only w wr g) (fun vi _ => ((n3 : Int) - intOf vi).toNat)
  case atStart => exact ⟨0, _, by omega, rfl, hV, World.ownsRow_nil _ _ _ _, hr3, hZ3, hO3⟩
  case round =>
    clear hV hr3 hZ3 hO3
    obtain ⟨j, v, hj, rfl, hV, hown, hr, hZ, hO⟩ := hrel
    obtain ⟨wo, rfl⟩ : ∃ wo : World, wo = wr := ⟨_, rfl⟩
    have cV := hV.cell
    have fV := hV.frozen
    have lV := hV.lt
    have hrl := hr.lt
    by_cases hlt' : j < n3
    · have hjl : (j : Int) < n3 := by omega
      have hgl : glP (j + 1) r3 = ((glP j r3).1 ++ [zag (numP (glP j r3).2).1], (numP (glP j r3).2).2) := rfl
      have hI := fun w' h' => ri_any g b (glP j r3).2 w' h'
      have hgl1 := glP_length j r3
      generalize (glP j r3).1 = L at *
      generalize (glP j r3).2 = R at *
      rcases hq : numP R with ⟨m, R'⟩
      rw [hq] at hI hgl
      simp only at hI hgl
      generalize zag m = y at *
      have hG := hide hgl
      clear hgl hq
      go_wp2
      refine wp_region_only g [1] [0, 2, 6] [(true, false, 0), (true, true, 1), (true, false, 2), (false, true, 3), (false, true, 4), (false, false, 5), (true, false, 6), (false, false, 7)] (by kernel_rfl) (by kernel_rfl) (fun Y => ?_); simp only [List.map_cons, List.map_nil, List.getD_cons_zero, List.getD_cons_succ]
      have hVY := Blk.ext hV Y
      have hrY := Rdr.below hr (World.below_ext wo Y)
      have hgp : pv ≠ g := by omega
      (repeat (first | (refine First.wpF_pure (fun K hK => ?_); go_simp; first | (refine hK _ _ ?_; clear hK K) | (apply Exists.intro; refine ⟨fun _ => ?_, hK _ _ ?_⟩; fail)) | (refine First.wpF_free (fun K hK => ?_); go_simp; first | (refine hK _ _ ?_; clear hK K))))
      (refine first_read rfl (v := v) (fun w' hw' => ?_) (fun K hK => ?_); rotate_left 1; go_simp; refine hK _ _ ?_; clear hK K; rotate_left 1; (have hB' := Blk.only hVY hw' hgp; have c' := Blk.cell hB'; go_simp))
      (repeat (first | (refine First.wpF_pure (fun K hK => ?_); go_simp; first | (refine hK _ _ ?_; clear hK K) | (apply Exists.intro; refine ⟨fun _ => ?_, hK _ _ ?_⟩; fail)) | (refine First.wpF_free (fun K hK => ?_); go_simp; first | (refine hK _ _ ?_; clear hK K))))
      refine First.wpF_must (fun K hK => ?_)
      go_wp2_with (go_at_call 50; (with_reducible refine (hI _ hrY).mono ?_); rintro e w5 ⟨rfl, hr5, ho5⟩)
      (refine hK _ _ (fun hnd => by first | exact Bool.noConfusion hnd | exact ho5) ?_; clear hK K)
      have hs5 := ho5.size
      simp only [World.size_ext] at hs5
      have hown5 := own_only (own_ext hown Y) ho5 (by omega)
      have hV5 := Blk.only hVY ho5 hgp
      have hZ5 := Blk.only (Blk.ext hZ Y) ho5 (by omega)
      have hO5 : Only w w5 g := (hO.ext Y).trans ho5
      clear hI hr hrY hVY hown hV hZ cV fV hO ho5
      (repeat (first | (refine First.wpF_pure (fun K hK => ?_); go_simp; first | (refine hK _ _ ?_; clear hK K) | (apply Exists.intro; refine ⟨fun _ => ?_, hK _ _ ?_⟩; fail)) | (refine First.wpF_free (fun K hK => ?_); go_simp; first | (refine hK _ _ ?_; clear hK K))))
      refine First.wpF_must (fun K hK => ?_)
      go_wp2
      (refine hK _ _ (fun hnd => by first | exact Bool.noConfusion hnd | exact Only.alloc (Only.refl _ _) _) ?_; clear hK K)
      (repeat (first | (refine First.wpF_pure (fun K hK => ?_); go_simp; first | (refine hK _ _ ?_; clear hK K) | (apply Exists.intro; refine ⟨fun _ => ?_, hK _ _ ?_⟩; fail)) | (refine First.wpF_free (fun K hK => ?_); go_simp; first | (refine hK _ _ ?_; clear hK K))))
      refine First.wpF_must (fun K hK => ?_)
      go_wp2_with (at_builtin; refine wpList_append_own _ rfl _ _ 54 rfl (pv + 1) 3 i0 (.int .i64 0) 1 8 Try.underlying54 hi hz0 hz1 hz2 rfl (by decide) _ _ _ rfl (own_alloc hown5 _) _ 1 1 [.int .i64 y] rfl rfl ?c1 ?c2 ?c3 ?c4 ?c5 ?_)
      case c1 => exact cells_new _ #[.int .i64 y] _
      case c2 => intro u hu; simp at hu; subst hu; rfl
      case c3 => unfold maxLen; omega
      case c4 => omega
      case c5 => simp; omega
      intro v' w6 hown6 hgrow hnil
      have hb6 : Below (pv + 1) (w5.alloc (.cells #[.int .i64 y] 3)) w6 := own_below (Below.refl _ _) (own_alloc hown5 _) hgrow (Nat.le_refl _) (by simp; omega)
      obtain ⟨A6, k6, rfl, hk6⟩ := own_sl hown6
      have hV6 := (hV5.alloc (.cells #[.int .i64 y] 3)).below hb6 (by omega)
      have cV6 := hV6.cell
      have fV6 := hV6.frozen
      have lV6 := hV6.lt
      go_wp2
      (refine hK _ _ (fun hnd => by first | exact Bool.noConfusion hnd | exact Only.refl _ _ | ((repeat (refine Only.set_ ?_ (.inl rfl) _)); exact Only.refl _ _)) ?_; clear hK K)
      (repeat (first | (refine First.wpF_pure (fun K hK => ?_); go_simp; first | (refine hK _ _ ?_; clear hK K) | (apply Exists.intro; refine ⟨fun _ => ?_, hK _ _ ?_⟩; fail)) | (refine First.wpF_free (fun K hK => ?_); go_simp; first | (refine hK _ _ ?_; clear hK K))))
      refine First.wpF_must (fun K hK => ?_)
      go_wp2
      (refine hK _ _ (fun hnd => by first | exact Bool.noConfusion hnd | exact Only.refl _ _ | ((repeat (refine Only.set_ ?_ (.inl rfl) _)); exact Only.refl _ _)) ?_; clear hK K)
      refine First.wpF_nil ?_
      go_wp2
      go_roundw
      case rel =>
        refine ⟨j + 1, .slice A6 (j + 1) k6, by omega, by go_num, Blk.set_to hV6 rfl, ?_, ?_, ((hZ5.alloc _).below hb6 (by omega)).far (by show w.heap.size ≠ pv; omega) _, (Only.low (hO5.alloc _) hb6 (by omega)).set_ (.inr (by show w.heap.size ≤ pv; omega)) _⟩
        · rw [hG.out]
          simp only [ints_append]
          exact own_set hown6 (by show pv < pv + 1; omega) _
        · rw [hG.out]
          exact Rdr.only (Rdr.low (Rdr.below hr5 (Below.alloc (Below.refl _ _) (Nat.le_refl _) (.cells #[.int .i64 y] 3))) hb6 (by omega) (by omega)) (Only.setCell w6 pv 2 _) (by omega) (by omega)
      case measure => simp [intOf]; omega
    · obtain rfl : n3 = j := by omega
      have hgl1 := glP_length n3 r3
      generalize hgl : glP n3 r3 = GL at *
      obtain ⟨L, R⟩ := GL
      simp only at hr hown hgl1 ⊢
      obtain ⟨A6, k6, rfl, hk6⟩ := own_sl hown
      have cZ := hZ.cell
      have fZ := hZ.frozen
      have lZ := hZ.lt
      by_cases he : R.e = 0
      · have he' : (R.e != 0) = false := by simpa using he
        have H := hide (⟨hown, hr, hO⟩ : _ ∧ _ ∧ _)
        go_wp2_with (go_at_call 53; (with_reducible refine (rderr_any _ _ _ _ _ hr).mono ?_); rintro e w8 ⟨rfl, hw8⟩; subst hw8)
        all_goals
          obtain ⟨hown, hr, hO⟩ := H.out
          rw [he] at hr
          refine bodyPost_cell Try.results63 rfl (Blk.three hZ) Try.underlying56 rfl (by kernel_rfl) rfl ⟨⟨_, rfl, own_low (own_set (own_set (own_set hown (by show w.heap.size < pv + 1; omega) _) (by show w.heap.size < pv + 1; omega) _) (by show w.heap.size < pv + 1; omega) _) (by omega)⟩, ?_, ((hO.set_ (.inr (Nat.le_refl _)) _).set_ (.inr (Nat.le_refl _)) _).set_ (.inr (Nat.le_refl _)) _⟩
          exact Rdr.only hr ((((Only.refl wo w.heap.size).set_ (.inl rfl) _).set_ (.inl rfl) _).set_ (.inl rfl) _) (by omega) (by omega)
      · have he' : (R.e != 0) = true := by simpa using he
        have H := hide (⟨hown, hr, hO⟩ : _ ∧ _ ∧ _)
        go_wp2_with (go_at_call 53; (with_reducible refine (rderr_any _ _ _ _ _ hr).mono ?_); rintro e w8 ⟨rfl, hw8⟩; subst hw8)
        all_goals
          obtain ⟨hown, hr, hO⟩ := H.out
          refine bodyPost_cell Try.results63 rfl (Blk.three hZ) Try.underlying56 rfl (by kernel_rfl) rfl ⟨⟨_, rfl, World.ownsRow_nil _ _ _ _⟩, ?_, ((hO.set_ (.inr (Nat.le_refl _)) _).set_ (.inr (Nat.le_refl _)) _).set_ (.inr (Nat.le_refl _)) _⟩
          exact Rdr.only hr ((((Only.refl wo w.heap.size).set_ (.inl rfl) _).set_ (.inl rfl) _).set_ (.inl rfl) _) (by omega) (by omega)
end Go.Proofs.Ythajbeooemngpaa
