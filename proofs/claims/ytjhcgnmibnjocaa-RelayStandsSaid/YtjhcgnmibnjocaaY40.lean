import Derived.Test.YtjhcgnmibnjocaaY39
/-! A message off bytes: the document's. -/
namespace Go.Proofs.Ytjhcgnmibnjocaa
open Go.RowKit Go.Maps
set_option linter.unusedVariables false
set_option linter.unusedSimpArgs false
theorem dint_at (q : Nat) (A : Option Addr) (c : Nat) (l : List Nat) (r : Rest) (hby : ∀ x ∈ l, x < 256) (hlen : l.length ≤ 140737488355328) (w : World) (h : Mst w q A c l r) {n : Nat} {r' : Rest} (hq : numP r = (n, r')) :
    Calls Try.prog 60 #[.pointer (some ⟨q, 0, none⟩)] w fun e' w' => e' = .returned (.int .i64 (zag n)) ∧ Mst w' q A c l r' ∧ Only w w' q := by
  have := di_any q A c l r hby hlen w h
  rw [hq] at this
  exact this
set_option maxRecDepth 100000 in
set_option maxHeartbeats 4000000 in
theorem ddecode_any (A : Option Addr) (c : Nat) (bs : List Nat) (w : World) (hr : Reads w w.heap.size 1 A bs.length (u8s bs)) (hx : ∀ x ∈ bs, x < 256) (hnil : A = none → c = 0) (hc1 : bs.length ≤ c) (hc2 : c ≤ maxLen) (hlen : bs.length ≤ 140737488355328) :
    Calls Try.prog 25 #[.slice A bs.length c] w fun o w' => (∃ vm vl, o = .returned (.tuple #[.agg #[.int .i64 (decP bs).1.k, .int .i64 (decP bs).1.e, .int .i64 (decP bs).1.v.e, .int .i64 (decP bs).1.v.p, vm, .int .i64 (decP bs).1.i, .int .i64 (decP bs).1.s, vl], .int .i64 (decP bs).2]) ∧ MgW w' (fun k => k < w.heap.size) vm vl (decP bs).1) ∧ Below w.heap.size w w' := by
  have hAlt : 0 < bs.length → ∀ b, A = some b → b.block < w.heap.size := fun h0 a ha => by
    obtain ⟨a', e, hb, _⟩ := hr.2 (by omega)
    rw [ha] at e; cases e; exact hb
  obtain ⟨r, hrr⟩ : ∃ r : Rest, r = ⟨bs, 0⟩ := ⟨_, rfl⟩
  obtain ⟨DP, hDP⟩ : ∃ DP, DP = decP bs := ⟨_, rfl⟩
  rw [← hDP]
  unfold decP at hDP
  rw [← hrr] at hDP
  rcases hq1 : numP r with ⟨n1, r1⟩
  rcases hq2 : numP r1 with ⟨n2, r2⟩
  generalize hG : getV r2 = G at *
  rcases hq4 : numP G.r with ⟨n4, r4⟩
  rcases hq5 : numP r4 with ⟨n5, r5⟩
  generalize hL : getL r5 = L at *
  rw [msgP_eq hq1 hq2 hG hq4 hq5 hL] at hDP
  simp only at hDP
  have hb0 : Below w.heap.size w (((w.alloc (.cells #[.int .i64 0, .int .i64 0, .int .i64 0, .int .i64 0, .slice none 0 0, .int .i64 0, .int .i64 0, .slice none 0 0] 35)).alloc (.cells #[.slice A bs.length c, .int .i64 0, .int .i64 0] 119)).alloc (.cells #[.int .i64 0, .int .i64 0, .int .i64 0, .int .i64 0, .slice none 0 0, .int .i64 0, .int .i64 0, .slice none 0 0] 35)) :=
    ((Below.alloc (Below.refl _ _) (Nat.le_refl _) _).alloc (by simp) _).alloc (by simp; omega) _
  have hz0 := (Blk.alloc (Blk.alloc (Blk.new w 35 #[.int .i64 0, .int .i64 0, .int .i64 0, .int .i64 0, .slice none 0 0, .int .i64 0, .int .i64 0, .slice none 0 0]) (.cells #[.slice A bs.length c, .int .i64 0, .int .i64 0] 119)) (.cells #[.int .i64 0, .int .i64 0, .int .i64 0, .int .i64 0, .slice none 0 0, .int .i64 0, .int .i64 0, .slice none 0 0] 35))
  have hq0 : Mst (((w.alloc (.cells #[.int .i64 0, .int .i64 0, .int .i64 0, .int .i64 0, .slice none 0 0, .int .i64 0, .int .i64 0, .slice none 0 0] 35)).alloc (.cells #[.slice A bs.length c, .int .i64 0, .int .i64 0] 119)).alloc (.cells #[.int .i64 0, .int .i64 0, .int .i64 0, .int .i64 0, .slice none 0 0, .int .i64 0, .int .i64 0, .slice none 0 0] 35)) (w.heap.size + 1) A c bs r :=
    ⟨0, 0, ⟨Blk.alloc (Blk.made w (.cells #[.int .i64 0, .int .i64 0, .int .i64 0, .int .i64 0, .slice none 0 0, .int .i64 0, .int .i64 0, .slice none 0 0] 35) 119 #[.slice A bs.length c, .int .i64 0, .int .i64 0]) _, Reads.kp hr (Kp.of_below (S := fun _ => False) hb0) (fun _ _ _ h => h), fun h0 a ha => by have := hAlt h0 a ha; omega, Nat.zero_le _⟩, by rw [hrr, restP_ok]; rfl⟩
  have hm0 : Blk (((w.alloc (.cells #[.int .i64 0, .int .i64 0, .int .i64 0, .int .i64 0, .slice none 0 0, .int .i64 0, .int .i64 0, .slice none 0 0] 35)).alloc (.cells #[.slice A bs.length c, .int .i64 0, .int .i64 0] 119)).alloc (.cells #[.int .i64 0, .int .i64 0, .int .i64 0, .int .i64 0, .slice none 0 0, .int .i64 0, .int .i64 0, .slice none 0 0] 35)) (w.heap.size + 2) 35 #[.int .i64 0, .int .i64 0, .int .i64 0, .int .i64 0, .slice none 0 0, .int .i64 0, .int .i64 0, .slice none 0 0] := by
    have := Blk.new ((w.alloc (.cells #[.int .i64 0, .int .i64 0, .int .i64 0, .int .i64 0, .slice none 0 0, .int .i64 0, .int .i64 0, .slice none 0 0] 35)).alloc (.cells #[.slice A bs.length c, .int .i64 0, .int .i64 0] 119)) 35 #[.int .i64 0, .int .i64 0, .int .i64 0, .int .i64 0, .slice none 0 0, .int .i64 0, .int .i64 0, .slice none 0 0]
    simpa using this
  go_enter Try.func25, Try.ntmps25
  go_upto_region 3 with fail
  refine abstr (fun W => Below w.heap.size w W ∧ Mst W (w.heap.size + 1) A c bs r ∧ Blk W w.heap.size 35 #[.int .i64 0, .int .i64 0, .int .i64 0, .int .i64 0, .slice none 0 0, .int .i64 0, .int .i64 0, .slice none 0 0] ∧ Blk W (w.heap.size + 2) 35 #[.int .i64 0, .int .i64 0, .int .i64 0, .int .i64 0, .slice none 0 0, .int .i64 0, .int .i64 0, .slice none 0 0]) ⟨hb0, hq0, hz0, hm0⟩ (fun W hW => ?_)
  clear hb0 hq0 hz0 hm0 hr
  obtain ⟨hb1, hr1, hz1, hm1⟩ := hW
  have hgq : w.heap.size + 1 < w.heap.size + 2 := by omega
  generalize hpm : w.heap.size + 2 = pm at *
  generalize hgg : w.heap.size + 1 = g at *
  have hpl := hm1.lt
  have hgz : w.heap.size < g := by omega
  have hAp : 0 < bs.length → ∀ b, A = some b → b.block ≠ pm := fun h0 a ha => by have := hAlt h0 a ha; omega
  have hAg : ∀ W : World, w.heap.size ≤ W.heap.size → 0 < bs.length → ∀ b, A = some b → b.block < W.heap.size := fun W hs h0 a ha => by have := hAlt h0 a ha; omega
  clear hpm hgg
  go_upto_region 6 with (first | (go_at_call 60; (with_reducible refine (dint_at g A c bs r hx hlen W hr1 hq1).mono ?_); rintro e w2 ⟨rfl, hr2, hO2⟩; have hm2 := Blk.only hm1 hO2 (by omega); have f2 := hm2.frozen; have cc2 := hm2.cell; have l2 := hm2.lt; have hr2' := hr2.far (p := ⟨pm, 0, none⟩) (by show g ≠ pm; omega) hAp (.int .i64 (zag n1)); have hm2' := hm2.set_ 0 (.int .i64 (zag n1))) | (go_at_call 60; (with_reducible refine (dint_at g A c bs r1 hx hlen _ hr2' hq2).mono ?_); rintro e w3 ⟨rfl, hr3, hO3⟩; have hm3 := Blk.only hm2' hO3 (by omega); have f3 := hm3.frozen; have cc3 := hm3.cell; have l3 := hm3.lt; have hr3' := hr3.far (p := ⟨pm, 1, none⟩) (by show g ≠ pm; omega) hAp (.int .i64 (zag n2)); have hm3' := hm3.set_ 1 (.int .i64 (zag n2)); have hs3 := hO3.size; (simp only [World.size_setCell] at hs3); have hgt3 := dget_any g A c bs r2 hx hlen _ hr3' (by simp; omega) (hAg _ (by have := hb1.size; have := hO2.size; simp; omega)); rw [hG] at hgt3) | (go_at_call 61; (with_reducible refine hgt3.mono ?_); rintro e w4 ⟨⟨v4, rfl, ho4⟩, hr4, hO4⟩; have hm4 := Blk.only hm3' hO4 (by omega); have c4 := hm4.cell; have f4 := hm4.frozen; have l4 := hm4.lt; obtain ⟨A4, c4', rfl, _⟩ := own_sl ho4))
  have hs2 := hO2.size
  have hs4 := hO4.size
  have hs1 := hb1.size
  simp only [World.size_setCell] at hs4
  have hrd4 := Reads.of_own ho4
  have hadd4 := own_addr ho4
  simp only [World.size_setCell] at hadd4
  refine abstr (fun W => Below w.heap.size w W ∧ Mst W g A c bs G.r ∧ Blk W w.heap.size 35 #[.int .i64 0, .int .i64 0, .int .i64 0, .int .i64 0, .slice none 0 0, .int .i64 0, .int .i64 0, .slice none 0 0] ∧ Blk W pm 35 #[.int .i64 (zag n1), .int .i64 (zag n2), .int .i64 G.e, .int .i64 G.p, .slice A4 G.l.length c4', .int .i64 0, .int .i64 0, .slice none 0 0] ∧ Reads W W.heap.size 1 A4 G.l.length (ints G.l)) ⟨?_, ?_, ?_, ?_, ?_⟩ (fun W5 hW5 => ?_)
  · have h2 := (hb1.trans (hO2.below (by omega) (by omega))).setCell (p := ⟨pm, 0, none⟩) (by show w.heap.size ≤ pm; omega) (.int .i64 (zag n1))
    have h3 := (h2.trans (hO3.below (by omega) (by simp; omega))).setCell (p := ⟨pm, 1, none⟩) (by show w.heap.size ≤ pm; omega) (.int .i64 (zag n2))
    exact (((h3.trans (hO4.below (by omega) (by simp; omega))).setCell (by show w.heap.size ≤ pm; omega) _).setCell (by show w.heap.size ≤ pm; omega) _).setCell (by show w.heap.size ≤ pm; omega) _
  · exact (((hr4.far (by show g ≠ pm; omega) hAp _).far (by show g ≠ pm; omega) hAp _).far (by show g ≠ pm; omega) hAp _)
  · have h2 := (Blk.only hz1 hO2 (by omega)).far (p := ⟨pm, 0, none⟩) (by show w.heap.size ≠ pm; omega) (.int .i64 (zag n1))
    have h3 := (Blk.only h2 hO3 (by omega)).far (p := ⟨pm, 1, none⟩) (by show w.heap.size ≠ pm; omega) (.int .i64 (zag n2))
    exact (((Blk.only h3 hO4 (by omega)).far (by show w.heap.size ≠ pm; omega) _).far (by show w.heap.size ≠ pm; omega) _).far (by show w.heap.size ≠ pm; omega) _
  · exact ((hm4.set_ 2 _).set_ 3 _).set_ 4 _
  · exact Reads.kp hrd4 (S := fun k => k = pm) ((Kp.put w4 pm 2 _).trans ((Kp.put _ pm 3 _).trans (Kp.put _ pm 4 _))) (fun h0 a ha he => by have := (hadd4 a ha).1; omega)
  have hA4 : ∀ a, A4 = some a → pm < a.block := fun a ha => by have := (hadd4 a ha).1; omega
  clear hb1 hr1 hz1 hm1 hr2 hr3 hr4 hr2' hr3' hm2 hm3 hm2' hm3' hm4 hO2 hO3 hO4 ho4 f2 f3 f4 cc2 cc3 c4 l2 l3 l4 hs1 hs2 hs3 hs4 hrd4 hadd4 hgt3 hpl W w2 w3 w4
  obtain ⟨hb5, hr5, hz5, hm5, hrd5⟩ := hW5
  have hs5 := hb5.size
  have hl5 := hm5.lt
  have hld := fun W hW hq hA => dgetlog_any g A c bs r5 hx hlen ⟨hc1, hc2, hnil⟩ W hW hq hA
  rw [hL] at hld
  go_upto_region 9 with (first | (go_at_call 60; (with_reducible refine (dint_at g A c bs G.r hx hlen W5 hr5 hq4).mono ?_); rintro e w2 ⟨rfl, hr2, hO2⟩; have hm2 := Blk.only hm5 hO2 (by omega); have f2 := hm2.frozen; have cc2 := hm2.cell; have l2 := hm2.lt; have hr2' := hr2.far (p := ⟨pm, 5, none⟩) (by show g ≠ pm; omega) hAp (.int .i64 (zag n4)); have hm2' := hm2.set_ 5 (.int .i64 (zag n4))) | (go_at_call 60; (with_reducible refine (dint_at g A c bs r4 hx hlen _ hr2' hq5).mono ?_); rintro e w3 ⟨rfl, hr3, hO3⟩; have hm3 := Blk.only hm2' hO3 (by omega); have f3 := hm3.frozen; have cc3 := hm3.cell; have l3 := hm3.lt; have hr3' := hr3.far (p := ⟨pm, 6, none⟩) (by show g ≠ pm; omega) hAp (.int .i64 (zag n5)); have hm3' := hm3.set_ 6 (.int .i64 (zag n5)); have hs3 := hO3.size; (simp only [World.size_setCell] at hs3); have hgt3 := hld _ hr3' (by simp; omega) (hAg _ (by have := hO2.size; simp; omega))) | (go_at_call 62; (with_reducible refine hgt3.mono ?_); rintro e w4 ⟨⟨A9, c9, rfl, ho4⟩, hr4, hO4⟩; have hm4 := Blk.only hm3' hO4 (by omega); have c4 := hm4.cell; have f4 := hm4.frozen; have l4 := hm4.lt))
  have hs2 := hO2.size
  have hs4 := hO4.size
  simp only [World.size_setCell] at hs4
  have hM4 : MgW w4 (fun k => k ≤ pm) (.slice A4 G.l.length c4') (.slice A9 L.1.length c9) ⟨zag n1, zag n2, ⟨G.e, G.p, G.l⟩, zag n4, zag n5, L.1⟩ := by
    have hk2 : Kp (fun k => k ≤ pm) W5 w4 := (((Kp.of_only hO2 (S := fun k => k = g) rfl).weaken (fun k hk => by omega)).trans ((Kp.put w2 pm 5 _).weaken (fun k hk => by omega))).trans ((((Kp.of_only hO3 (S := fun k => k = g) rfl).weaken (fun k hk => by omega)).trans ((Kp.put w3 pm 6 _).weaken (fun k hk => by omega))).trans ((Kp.of_only hO4 (S := fun k => k = g) rfl).weaken (fun k hk => by omega)))
    exact ⟨⟨A4, c4', rfl, Reads.kp hrd5 hk2 (fun h0 a ha he => by have := hA4 a ha; omega), fun h0 a ha ht => by have := hA4 a ha; omega⟩, A9, c9, rfl, ho4.ents rfl (fun k hk => by simp; omega) (fun k hk => .inl (by simp; omega))⟩
  refine abstr (fun W => Below w.heap.size w W ∧ Mst W g A c bs L.2 ∧ Blk W w.heap.size 35 #[.int .i64 0, .int .i64 0, .int .i64 0, .int .i64 0, .slice none 0 0, .int .i64 0, .int .i64 0, .slice none 0 0] ∧ Blk W pm 35 #[.int .i64 (zag n1), .int .i64 (zag n2), .int .i64 G.e, .int .i64 G.p, .slice A4 G.l.length c4', .int .i64 (zag n4), .int .i64 (zag n5), .slice A9 L.1.length c9] ∧ MgW W (fun k => k ≤ pm) (.slice A4 G.l.length c4') (.slice A9 L.1.length c9) ⟨zag n1, zag n2, ⟨G.e, G.p, G.l⟩, zag n4, zag n5, L.1⟩) ⟨?_, ?_, ?_, ?_, ?_⟩ (fun W10 hW10 => ?_)
  · have h2 := (hb5.trans (hO2.below (by omega) (by omega))).setCell (p := ⟨pm, 5, none⟩) (by show w.heap.size ≤ pm; omega) (.int .i64 (zag n4))
    have h3 := (h2.trans (hO3.below (by omega) (by simp; omega))).setCell (p := ⟨pm, 6, none⟩) (by show w.heap.size ≤ pm; omega) (.int .i64 (zag n5))
    exact (h3.trans (hO4.below (by omega) (by simp; omega))).setCell (by show w.heap.size ≤ pm; omega) _
  · exact hr4.far (by show g ≠ pm; omega) hAp _
  · have h2 := (Blk.only hz5 hO2 (by omega)).far (p := ⟨pm, 5, none⟩) (by show w.heap.size ≠ pm; omega) (.int .i64 (zag n4))
    have h3 := (Blk.only h2 hO3 (by omega)).far (p := ⟨pm, 6, none⟩) (by show w.heap.size ≠ pm; omega) (.int .i64 (zag n5))
    exact (Blk.only h3 hO4 (by omega)).far (by show w.heap.size ≠ pm; omega) _
  · exact hm4.set_ 7 _
  · exact hM4.kp ((Kp.put w4 pm 7 _).weaken (fun k hk => by omega))
  clear hb5 hr5 hz5 hm5 hrd5 hr2 hr3 hr4 hr2' hr3' hm2 hm3 hm2' hm3' hm4 hO2 hO3 hO4 ho4 f2 f3 f4 cc2 cc3 c4 l2 l3 l4 hs5 hs2 hs3 hs4 hgt3 hld hM4 hl5 W5 w2 w3 w4
  obtain ⟨hb10, hr10, hz10, hm10, hM10⟩ := hW10
  have hs10 := hb10.size
  have hEn := de_any g A c bs L.2 hlen W10 hr10
  generalize endP L.2 = EP at *
  by_cases he : EP.e = 0
  · rw [if_neg (by simpa using he)] at hDP
    subst hDP
    have he' : (EP.e != 0) = false := by simp [he]
    go_wp2_with (go_at_call 63; (with_reducible refine hEn.mono ?_); rintro e w11 ⟨rfl, hO11⟩; have hm11 := Blk.only hm10 hO11 (by omega); have hz11 := Blk.only hz10 hO11 (by omega); have c11 := hm11.cell; have l11 := hm11.lt; have c12 := hz11.cell; have f12 := hz11.frozen; have l12 := hz11.lt)
    refine bodyPost_cell_tmp Try.results25 rfl (Blk.eight hz11) Try.underlying35 rfl (by kernel_rfl) rfl ⟨⟨_, _, rfl, ?_⟩, ?_⟩
    · exact ((hM10.kp ((Kp.of_only hO11 (S := fun k => k = g) rfl).weaken (fun k hk => by omega))).kp (Kp.eight (S := fun k => k ≤ pm) (Kp.refl _ w11) (by omega) _ _ _ _ _ _ _ _)).sub fun k _ hk => by omega
    · exact (hb10.trans (hO11.below (by omega) (by omega))).trans (Kp.below (S := fun k => k = w.heap.size) (Kp.eight (S := fun k => k = w.heap.size) (Kp.refl _ w11) rfl _ _ _ _ _ _ _ _) (by have := hO11.size; omega) (fun k hk => by omega))
  · rw [if_pos (by simpa using he)] at hDP
    subst hDP
    have he' : (EP.e != 0) = true := by simpa using he
    go_wp2_with (go_at_call 63; (with_reducible refine hEn.mono ?_); rintro e w11 ⟨rfl, hO11⟩; have hz11 := Blk.only hz10 hO11 (by omega); have c12 := hz11.cell; have f12 := hz11.frozen; have l12 := hz11.lt)
    refine bodyPost_cell_tmp Try.results25 rfl (Blk.eight hz11) Try.underlying35 rfl (by kernel_rfl) rfl ⟨⟨_, _, rfl, MgW.none _ _⟩, ?_⟩
    exact (hb10.trans (hO11.below (by omega) (by omega))).trans (Kp.below (S := fun k => k = w.heap.size) (Kp.eight (S := fun k => k = w.heap.size) (Kp.refl _ w11) rfl _ _ _ _ _ _ _ _) (by have := hO11.size; omega) (fun k hk => by omega))
end Go.Proofs.Ytjhcgnmibnjocaa
