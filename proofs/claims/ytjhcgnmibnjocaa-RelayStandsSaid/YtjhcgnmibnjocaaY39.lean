import Derived.Test.YtjhcgnmibnjocaaY38
import Derived.Test.YtjhcgnmibnjocaaY30
/-! A message off bytes: the program's. -/
namespace Go.Proofs.Ytjhcgnmibnjocaa
open Go.RowKit Go.Maps
set_option linter.unusedVariables false
set_option linter.unusedSimpArgs false
/-- A message off bytes. -/
def msgP (r : Rest) : Mg × Rest :=
  (⟨zag (numP r).1, zag (numP (numP r).2).1, ⟨(getV (numP (numP r).2).2).e, (getV (numP (numP r).2).2).p, (getV (numP (numP r).2).2).l⟩, zag (numP (getV (numP (numP r).2).2).r).1, zag (numP (numP (getV (numP (numP r).2).2).r).2).1,
    (getL (numP (numP (getV (numP (numP r).2).2).r).2).2).1⟩, (getL (numP (numP (getV (numP (numP r).2).2).r).2).2).2)
def Mg.none : Mg := ⟨0, 0, Vi.none, 0, 0, []⟩
def decP (bs : List Nat) : Mg × Int := if (endP (msgP ⟨bs, 0⟩).2).e ≠ 0 then (Mg.none, (endP (msgP ⟨bs, 0⟩).2).e) else ((msgP ⟨bs, 0⟩).1, 0)
theorem msgP_eq {r r1 r2 r4 r5 : Rest} {n1 n2 n4 n5 : Nat} {G : Gv} {L : List Ent × Rest} (h1 : numP r = (n1, r1)) (h2 : numP r1 = (n2, r2)) (h3 : getV r2 = G) (h4 : numP G.r = (n4, r4)) (h5 : numP r4 = (n5, r5)) (h6 : getL r5 = L) : msgP r = (⟨zag n1, zag n2, ⟨G.e, G.p, G.l⟩, zag n4, zag n5, L.1⟩, L.2) := by
  unfold msgP
  simp only [h1, h2, h3, h4, h5, h6]
theorem rint_at (g b : Nat) (r : Rest) (w : World) (h : Rdr w g b r.xs r.e) {n : Nat} {r' : Rest} (hq : numP r = (n, r')) :
    Calls Try.prog 56 #[.pointer (some ⟨g, 0, none⟩)] w fun e' w' => e' = .returned (.int .i64 (zag n)) ∧ Rdr w' g b r'.xs r'.e ∧ Only w w' g := by
  have := rdint_any g b r.xs r.e w h
  rw [show (⟨r.xs, r.e⟩ : Rest) = r from rfl, hq] at this
  exact this
theorem Rdr.set_ {w : World} {g b : Nat} {xs : List Nat} {e : Int} (h : Rdr w g b xs e) {p : Nat} (i : Nat) (u : Value) (h1 : g ≠ p) (h2 : b ≠ p) : Rdr (w.setCell ⟨p, i, none⟩ u) g b xs e := h.only (Only.setCell w p i u) h1 h2
theorem Kp.put (w : World) (p i : Nat) (u : Value) : Kp (fun k => k = p) w (w.setCell ⟨p, i, none⟩ u) :=
  Kp.set_ (S := fun k => k = p) (Kp.refl _ w) (p := ⟨p, i, none⟩) (.inl rfl) u
theorem MgW.none (w : World) (T : Nat → Prop) : MgW w T (.slice none 0 0) (.slice none 0 0) Mg.none :=
  ⟨⟨Option.none, 0, rfl, Reads.none_, fun h0 => absurd h0 (by simp [Mg.none, Vi.none])⟩, Option.none, 0, rfl, ⟨⟨[], rfl, Reads.none_, fun _ h => by cases h⟩, rfl, fun h0 => absurd h0 (by simp [Mg.none])⟩⟩
set_option maxRecDepth 100000 in
set_option maxHeartbeats 4000000 in
theorem rdecode_any (A : Option Addr) (c : Nat) (bs : List Nat) (w : World) (hr : Reads w w.heap.size 1 A bs.length (u8s bs)) (hx : ∀ x ∈ bs, x < 256) (hnil : A = none → c = 0) (hlen : bs.length ≤ 140737488355328) :
    Calls Try.prog 24 #[.slice A bs.length c] w fun o w' => (∃ vm vl, o = .returned (.tuple #[.agg #[.int .i64 (decP bs).1.k, .int .i64 (decP bs).1.e, .int .i64 (decP bs).1.v.e, .int .i64 (decP bs).1.v.p, vm, .int .i64 (decP bs).1.i, .int .i64 (decP bs).1.s, vl], .int .i64 (decP bs).2]) ∧ MgW w' (fun k => k < w.heap.size) vm vl (decP bs).1) ∧ Below w.heap.size w w' := by
  have hR0 : Reads (w.alloc (.cells #[.int .i64 0, .int .i64 0, .int .i64 0, .int .i64 0, .slice none 0 0, .int .i64 0, .int .i64 0, .slice none 0 0] 54)) (w.alloc (.cells #[.int .i64 0, .int .i64 0, .int .i64 0, .int .i64 0, .slice none 0 0, .int .i64 0, .int .i64 0, .slice none 0 0] 54)).heap.size 1 A bs.length (u8s bs) := (hr.alloc (Nat.le_refl _) _).more (by simp)
  have hRd := read_any A c bs _ hR0 hx hnil hlen
  have hZ := Blk.new w 54 #[.int .i64 0, .int .i64 0, .int .i64 0, .int .i64 0, .slice none 0 0, .int .i64 0, .int .i64 0, .slice none 0 0]
  obtain ⟨r, hrr⟩ : ∃ r : Rest, r = ⟨bs, 0⟩ := ⟨_, rfl⟩
  obtain ⟨DP, hDP⟩ : ∃ DP, DP = decP bs := ⟨_, rfl⟩
  rw [← hDP]
  unfold decP at hDP
  rw [← hrr] at hDP
  rcases hq1 : numP r with ⟨n1, r1⟩
  rcases hq2 : numP r1 with ⟨n2, r2⟩
  generalize hG : getV r2 = G at *
  rcases hq4 : numP G.r with ⟨n4, r4⟩
  rcases hq5 : numP r4 with ⟨n5, r5⟩
  generalize hL : getL r5 = L at *
  rw [msgP_eq hq1 hq2 hG hq4 hq5 hL] at hDP
  simp only at hDP
  go_enter Try.func24, Try.ntmps24
  go_upto_region 3 with (first | (go_at_call 55; (with_reducible refine hRd.mono ?_); rintro e w1 ⟨g, b, rfl, hr1, hg, hb, hb1⟩; have hr1' : Rdr w1 g b r.xs r.e := by (rw [hrr]; exact hr1)) | (go_at_call 56; (with_reducible refine (rint_at g b r w1 hr1' hq1).mono ?_); rintro e w2 ⟨rfl, hr2, ho2⟩) | (go_at_call 56; (with_reducible refine (rint_at g b r1 w2 hr2 hq2).mono ?_); rintro e w3 ⟨rfl, hr3, ho3⟩))
  have hs1 := hb1.size
  have hs2 := ho2.size
  have hs3 := ho3.size
  have hlt3 := hr3.lt
  simp only [World.size_alloc] at hs1 hg hb
  refine abstr (fun W => Below w.heap.size w W ∧ Rdr W g b r2.xs r2.e ∧ Blk W w.heap.size 54 #[.int .i64 0, .int .i64 0, .int .i64 0, .int .i64 0, .slice none 0 0, .int .i64 0, .int .i64 0, .slice none 0 0] ∧ Blk W w3.heap.size 54 #[.int .i64 (zag n1), .int .i64 (zag n2), .int .i64 0, .int .i64 0, .slice none 0 0, .int .i64 0, .int .i64 0, .slice none 0 0]) ⟨?_, hr3.below (Below.alloc (Below.refl _ _) (Nat.le_refl _) _), ?_, Blk.new _ _ _⟩ (fun W hW => ?_)
  · exact (((Below.alloc (Below.refl _ _) (Nat.le_refl _) _).trans (hb1.mono (by simp))).trans ((ho2.below (by omega) (by omega)).trans (ho3.below (by omega) (by omega)))).alloc (by omega) _
  · exact (Blk.only (Blk.only (hZ.below hb1 hZ.lt) ho2 (by omega)) ho3 (by omega)).alloc _
  have hpm : g < w3.heap.size ∧ b < w3.heap.size ∧ w.heap.size < w3.heap.size := ⟨hlt3.1, hlt3.2, by omega⟩
  clear hRd hZ hR0 hr1 hr1' hb1 hr2 ho2 hr3 ho3 hs1 hs2 hs3 hlt3
  generalize w3.heap.size = pm at *
  obtain ⟨hbW, hrW, hzW, hmW⟩ := hW
  have hsW := hbW.size
  have hgt : pm < W.heap.size := hmW.lt
  have c1 := hmW.cell
  have f1 := hmW.frozen
  have hPg := pget_any g b r2 W hrW
  rw [hG] at hPg
  go_upto_region 4 with (go_at_call 57; (with_reducible refine hPg.mono ?_); rintro e w4 ⟨⟨v4, rfl, ho4⟩, hr4, hO4⟩; have hm4 := Blk.only hmW hO4 (by omega); have c4 := hm4.cell; have f4 := hm4.frozen; have l4 := hm4.lt; obtain ⟨A4, c4', rfl, _⟩ := own_sl ho4)
  have hs4 := hO4.size
  have hrd4 := Reads.of_own ho4
  have hadd4 := own_addr ho4
  refine abstr (fun W => Below w.heap.size w W ∧ Rdr W g b G.r.xs G.r.e ∧ Blk W w.heap.size 54 #[.int .i64 0, .int .i64 0, .int .i64 0, .int .i64 0, .slice none 0 0, .int .i64 0, .int .i64 0, .slice none 0 0] ∧ Blk W pm 54 #[.int .i64 (zag n1), .int .i64 (zag n2), .int .i64 G.e, .int .i64 G.p, .slice A4 G.l.length c4', .int .i64 0, .int .i64 0, .slice none 0 0] ∧ Reads W W.heap.size 1 A4 G.l.length (ints G.l) ∧ pm < W.heap.size) ⟨?_, ?_, ?_, ?_, ?_, ?_⟩ (fun W5 hW5 => ?_)
  · exact (((hbW.trans (hO4.below (by omega) (by omega))).setCell (by show w.heap.size ≤ pm; omega) _).setCell (by show w.heap.size ≤ pm; omega) _).setCell (by show w.heap.size ≤ pm; omega) _
  · exact (((hr4.set_ 2 _ (by omega) (by omega)).set_ 3 _ (by omega) (by omega)).set_ 4 _ (by omega) (by omega))
  · exact (((Blk.only hzW hO4 (by omega)).far (by show w.heap.size ≠ pm; omega) _).far (by show w.heap.size ≠ pm; omega) _).far (by show w.heap.size ≠ pm; omega) _
  · exact ((hm4.set_ 2 _).set_ 3 _).set_ 4 _
  · exact Reads.kp hrd4 (S := fun k => k = pm) ((Kp.put w4 pm 2 _).trans ((Kp.put _ pm 3 _).trans (Kp.put _ pm 4 _))) (fun h0 a ha he => by have := (hadd4 a ha).1; omega)
  · simp; omega
  have hA4 : ∀ a, A4 = some a → pm < a.block := fun a ha => by have := (hadd4 a ha).1; omega
  clear hbW hrW hzW hmW hsW hgt c1 f1 hPg ho4 hr4 hO4 hm4 c4 f4 l4 hs4 hrd4 hadd4 W w4
  obtain ⟨hb5, hr5, hz5, hm5, hrd5, hl5⟩ := hW5
  have hs5 := hb5.size
  go_upto_region 5 with (first | (go_at_call 56; (with_reducible refine (rint_at g b G.r W5 hr5 hq4).mono ?_); rintro e w6 ⟨rfl, hr6, hO6⟩; have hm6 := Blk.only hm5 hO6 (by omega)) | (go_at_call 56; (with_reducible refine (rint_at g b r4 w6 hr6 hq5).mono ?_); rintro e w7 ⟨rfl, hr7, hO7⟩; have hm7 := Blk.only hm6 hO7 (by omega); have c7 := hm7.cell; have f7 := hm7.frozen; have l7 := hm7.lt))
  have hs6 := hO6.size
  have hs7 := hO7.size
  refine abstr (fun W => Below w.heap.size w W ∧ Rdr W g b r5.xs r5.e ∧ Blk W w.heap.size 54 #[.int .i64 0, .int .i64 0, .int .i64 0, .int .i64 0, .slice none 0 0, .int .i64 0, .int .i64 0, .slice none 0 0] ∧ Blk W pm 54 #[.int .i64 (zag n1), .int .i64 (zag n2), .int .i64 G.e, .int .i64 G.p, .slice A4 G.l.length c4', .int .i64 (zag n4), .int .i64 (zag n5), .slice none 0 0] ∧ Reads W W.heap.size 1 A4 G.l.length (ints G.l) ∧ pm < W.heap.size) ⟨?_, ?_, ?_, ?_, ?_, ?_⟩ (fun W8 hW8 => ?_)
  · exact ((((hb5.trans (hO6.below (by omega) (by omega))).trans (hO7.below (by omega) (by omega))).setCell (by show w.heap.size ≤ pm; omega) _).setCell (by show w.heap.size ≤ pm; omega) _)
  · exact (hr7.set_ 5 _ (by omega) (by omega)).set_ 6 _ (by omega) (by omega)
  · exact ((Blk.only (Blk.only hz5 hO6 (by omega)) hO7 (by omega)).far (by show w.heap.size ≠ pm; omega) _).far (by show w.heap.size ≠ pm; omega) _
  · exact (hm7.set_ 5 _).set_ 6 _
  · exact Reads.kp (Reads.kp (Reads.kp hrd5 (Kp.of_only hO6 (S := fun k => k = g) rfl) (fun h0 a ha he => by have := hA4 a ha; omega)) (Kp.of_only hO7 (S := fun k => k = g) rfl) (fun h0 a ha he => by have := hA4 a ha; omega)) (S := fun k => k = pm) ((Kp.put w7 pm 5 _).trans (Kp.put _ pm 6 _)) (fun h0 a ha he => by have := hA4 a ha; omega)
  · simp; omega
  clear hb5 hr5 hz5 hm5 hrd5 hl5 hr6 hO6 hm6 hr7 hO7 hm7 c7 f7 l7 hs5 hs6 hs7 W5 w6 w7
  obtain ⟨hb8, hr8, hz8, hm8, hrd8, hl8⟩ := hW8
  have hs8 := hb8.size
  have hGl := getlog_any g b r5 W8 hr8
  rw [hL] at hGl
  go_upto_region 6 with (go_at_call 58; (with_reducible refine hGl.mono ?_); rintro e w9 ⟨⟨A9, c9, rfl, ho9⟩, hr9, hO9⟩; have hm9 := Blk.only hm8 hO9 (by omega); have c9' := hm9.cell; have f9 := hm9.frozen; have l9 := hm9.lt)
  have hs9 := hO9.size
  have hM9 : MgW w9 (fun k => k ≤ pm) (.slice A4 G.l.length c4') (.slice A9 L.1.length c9) ⟨zag n1, zag n2, ⟨G.e, G.p, G.l⟩, zag n4, zag n5, L.1⟩ :=
    ⟨⟨A4, c4', rfl, Reads.kp hrd8 (Kp.of_only hO9 (S := fun k => k = g) rfl) (fun h0 a ha he => by have := hA4 a ha; omega), fun h0 a ha ht => by have := hA4 a ha; omega⟩, A9, c9, rfl, ho9.ents rfl (fun k hk => by omega) (fun k hk => .inl (by omega))⟩
  refine abstr (fun W => Below w.heap.size w W ∧ Rdr W g b L.2.xs L.2.e ∧ Blk W w.heap.size 54 #[.int .i64 0, .int .i64 0, .int .i64 0, .int .i64 0, .slice none 0 0, .int .i64 0, .int .i64 0, .slice none 0 0] ∧ Blk W pm 54 #[.int .i64 (zag n1), .int .i64 (zag n2), .int .i64 G.e, .int .i64 G.p, .slice A4 G.l.length c4', .int .i64 (zag n4), .int .i64 (zag n5), .slice A9 L.1.length c9] ∧ MgW W (fun k => k ≤ pm) (.slice A4 G.l.length c4') (.slice A9 L.1.length c9) ⟨zag n1, zag n2, ⟨G.e, G.p, G.l⟩, zag n4, zag n5, L.1⟩) ⟨?_, ?_, ?_, ?_, ?_⟩ (fun W10 hW10 => ?_)
  · exact (hb8.trans (hO9.below (by omega) (by omega))).setCell (by show w.heap.size ≤ pm; omega) _
  · exact hr9.set_ 7 _ (by omega) (by omega)
  · exact (Blk.only hz8 hO9 (by omega)).far (by show w.heap.size ≠ pm; omega) _
  · exact hm9.set_ 7 _
  · exact hM9.kp ((Kp.put w9 pm 7 _).weaken (fun k hk => by omega))
  clear hb8 hr8 hz8 hm8 hrd8 hl8 hs8 hGl ho9 hr9 hO9 hm9 c9' f9 l9 hs9 hM9 W8 w9
  obtain ⟨hb10, hr10, hz10, hm10, hM10⟩ := hW10
  have hs10 := hb10.size
  have hEn := rdend_any g b L.2.xs L.2.e W10 hr10
  rw [show (⟨L.2.xs, L.2.e⟩ : Rest) = L.2 from rfl] at hEn
  generalize endP L.2 = EP at *
  by_cases he : EP.e = 0
  · rw [if_neg (by simpa using he)] at hDP
    subst hDP
    have he' : (EP.e != 0) = false := by simp [he]
    go_wp2_with (go_at_call 59; (with_reducible refine hEn.mono ?_); rintro e w11 ⟨rfl, hr11, hO11⟩; have hm11 := Blk.only hm10 hO11 (by omega); have hz11 := Blk.only hz10 hO11 (by omega); have c11 := hm11.cell; have l11 := hm11.lt; have c12 := hz11.cell; have f12 := hz11.frozen; have l12 := hz11.lt)
    refine bodyPost_cell_tmp Try.results24 rfl (Blk.eight hz11) Try.underlying54 rfl (by kernel_rfl) rfl ⟨⟨_, _, rfl, ?_⟩, ?_⟩
    · exact ((hM10.kp ((Kp.of_only hO11 (S := fun k => k = g) rfl).weaken (fun k hk => by omega))).kp (Kp.eight (S := fun k => k ≤ pm) (Kp.refl _ w11) (by omega) _ _ _ _ _ _ _ _)).sub fun k _ hk => by omega
    · exact (hb10.trans (hO11.below (by omega) (by omega))).trans (Kp.below (S := fun k => k = w.heap.size) (Kp.eight (S := fun k => k = w.heap.size) (Kp.refl _ w11) rfl _ _ _ _ _ _ _ _) (by have := hO11.size; omega) (fun k hk => by omega))
  · rw [if_pos (by simpa using he)] at hDP
    subst hDP
    have he' : (EP.e != 0) = true := by simpa using he
    go_wp2_with (go_at_call 59; (with_reducible refine hEn.mono ?_); rintro e w11 ⟨rfl, hr11, hO11⟩; have hz11 := Blk.only hz10 hO11 (by omega); have c12 := hz11.cell; have f12 := hz11.frozen; have l12 := hz11.lt)
    refine bodyPost_cell_tmp Try.results24 rfl (Blk.eight hz11) Try.underlying54 rfl (by kernel_rfl) rfl ⟨⟨_, _, rfl, MgW.none _ _⟩, ?_⟩
    exact (hb10.trans (hO11.below (by omega) (by omega))).trans (Kp.below (S := fun k => k = w.heap.size) (Kp.eight (S := fun k => k = w.heap.size) (Kp.refl _ w11) rfl _ _ _ _ _ _ _ _) (by have := hO11.size; omega) (fun k hk => by omega))
end Go.Proofs.Ytjhcgnmibnjocaa
