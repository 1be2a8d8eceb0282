import Derived.Test.YtjhcgnmibnjocaaGreatW3
/-! The document's record of an entry. -/
namespace Go.Proofs.YtjhcgnmibnjocaaGreat
open Go.RowKit Go.Maps
set_option linter.unusedVariables false
set_option linter.unusedSimpArgs false
theorem EntsD.one {w : World} {T : Nat → Prop} {v : Value} {x : Ent} (h : Bsl w T v x.t) (hx : x.ok) (hT : ¬T w.heap.size) : Ents (w.alloc (.cells #[.int .i64 x.e, v] 79)) T (some ⟨w.heap.size, 0, none⟩) 1 [x] := by
 have hb : Below w.heap.size w (w.alloc (.cells #[.int .i64 x.e, v] 79)) := Below.alloc (Below.refl _ _) (Nat.le_refl _) _
 refine ⟨⟨[⟨x, v⟩], rfl, ⟨rfl, fun _ => ⟨_, rfl, by simp, fun j u hu => ?_⟩⟩, fun m hm => ?_⟩, rfl, fun _ a ha => by cases ha; exact hT⟩
 ·rw [add_plain, (Blk.new w 79 #[.int .i64 x.e, v]).cell, Nat.zero_add]
  have : emV [⟨x, v⟩] = [.int .i64 x.e, v] := rfl
  rw [this] at hu
  simpa using hu
 ·simp only [List.mem_singleton] at hm
  subst hm
  exact ⟨h.kp ⟨hb.os, hb.tape, hb.output, hb.size, fun k hk _ => hb.block k hk⟩, hx⟩
theorem Row.own_ge {w : World} {base : Nat} {v : Value} {xs : List Nat} (h : Row w base v xs) : ∀ k, v.ownBlock = some k → base ≤ k ∧ k < w.heap.size := fun k hk => by
 obtain ⟨A, c, rfl, _⟩ := own_sl h
 cases A with
 | none => cases hk
 | some ad => cases hk; exact own_addr h _ rfl
set_option maxRecDepth 100000 in
set_option maxHeartbeats 4000000 in
theorem drecEntry_any {T0 : Nat → Prop} (n : Nat) (x : Ent) (u : Value) (w : World) (hu : Bsl w T0 u x.t) (hx : x.ok) (hn : n ≤ 4096) :
  Calls Tryz.prog 42 #[.int .i64 (n : Int), .agg #[.int .i64 x.e, u]] w fun r w' => ∃ v, r = .returned v ∧ Row w' w.heap.size v (recEntryP n x) ∧ Below w.heap.size w w' := by
 have h2 := numB_le 2 (by omega)
 have hz : I64 (n : Int) := by unfold I64; omega
 have h3 := numB_le _ (zig_lt _ hz)
 obtain ⟨uA, un, uc, rfl⟩ := hu.sl
 have hU : Bsl w (fun k => w.heap.size ≤ k) (.slice uA un uc) x.t := hu.sub fun k hk ht => by omega
 have hB := Blk.new w 79 #[.int .i64 x.e, .slice uA un uc]
 have hb0 : Below w.heap.size w (w.alloc (.cells #[.int .i64 x.e, .slice uA un uc] 79)) := Below.alloc (Below.refl _ _) (Nat.le_refl _) _
 go_enter Tryz.func42, Tryz.ntmps42
 go_wp2
 refine wp_region_tree_below (w.heap.size + 1) [3] [1] (.fork [(true, false, 1), (true, true, 3)] true 0 (.fork [] true 2 (.leaf [(false, false, 4), (false, false, 5), (false, false, 6)]) false 4 (.leaf [(false, false, 2), (false, false, 5), (false, false, 6)])) false 4 (.leaf [(false, false, 0), (false, false, 2), (false, false, 5), (false, false, 6)])) (by kernel_rfl) (by kernel_rfl) (fun Y => ?_); simp only [First.wpT, List.map_cons, List.map_nil, List.getD_cons_zero, List.getD_cons_succ]
 have hBY := Blk.ext hB Y
 have lt1 : w.heap.size < w.heap.size + 1 := by omega
 have hbY : Below w.heap.size w ((w.alloc (.cells #[.int .i64 x.e, .slice uA un uc] 79)).ext Y) := hb0.trans ((World.below_ext _ Y).mono (by simp))
 have hN := rnum_any (w.heap.size + 1) (.slice none 0 0) [] 2 ((w.alloc (.cells #[.int .i64 x.e, .slice uA un uc] 79)).ext Y) (Row.nil _ _) (by simp [World.size_ext] <;> omega) (by unfold U64; omega) (by simp)
 simp only [List.nil_append] at hN
 rw [show (2 : Int).toNat = 2 from rfl] at hN
 (repeat (first | (refine wfp fun K hK => ?_; go_simp; refine hK _ _ ?_; clear hK K) | (refine wff fun K hK => ?_; go_simp; refine hK _ _ ?_; clear hK K)))
 (refine first_read rfl (v := .agg #[.int .i64 x.e, .slice uA un uc]) (fun w' hw' => ?_) (fun K hK => ?_); rotate_left 1; go_simp; refine hK _ _ ?_; clear hK K; rotate_left 1; (have hB' := Blk.below hBY hw' lt1; have c' := Blk.cell hB'; go_simp))
 (repeat (first | (refine wfp fun K hK => ?_; go_simp; refine hK _ _ ?_; clear hK K) | (refine wff fun K hK => ?_; go_simp; refine hK _ _ ?_; clear hK K)))
 refine First.wpF_nil ?_
 refine First.Both.mk ?_ ?_
 ·refine First.wpF_must (fun K hK => ?_)
  go_wp2_with (go_at_call 71; (with_reducible refine hN.mono ?_); rintro r w1 ⟨v1, rfl, hr1, hc1⟩; have hb1 := Chg.below hc1 (Row.nil _ (w.heap.size + 1)) (by simp [World.size_ext] <;> omega))
  (refine hK _ _ (fun _ => hb1) ?_; clear hK K)
  have hs1 := hb1.size
  simp only [World.size_ext, World.size_alloc] at hs1
  have hb01 : Below w.heap.size w w1 := hbY.trans (hb1.mono (by omega))
  have hg1 := Row.own_ge hr1
  refine First.wpF_nil ?_
  (repeat (first | (refine wfp fun K hK => ?_; go_simp; refine hK _ _ ?_; clear hK K) | (refine wff fun K hK => ?_; go_simp; refine hK _ _ ?_; clear hK K)))
  refine First.wpF_nil ?_
  refine First.Both.mk ?_ ?_
  ·refine First.wpF_must (fun K hK => ?_)
   go_wp2_with (go_at_call 78; (with_reducible refine (rint_any (w.heap.size + 1) _ _ (n : Int) w1 hr1 (by omega) hz (by omega)).mono ?_); rintro r w2 ⟨v2, rfl, hr2, hc2⟩; have hb2 := Chg.below hc2 hr1 (by omega))
   (refine hK _ _ (fun _ => hb2) ?_; clear hK K)
   have hs2 := hb2.size
   have hb02 : Below w.heap.size w w2 := hb01.trans (hb2.mono (by omega))
   have hg2 := Row.own_ge hr2
   refine First.wpF_nil ?_
   (repeat (first | (refine wfp fun K hK => ?_; go_simp; refine hK _ _ ?_; clear hK K) | (refine wff fun K hK => ?_; go_simp; refine hK _ _ ?_; clear hK K)))
   refine First.wpF_must (fun K hK => ?_)
   go_wp2
   (refine hK _ _ (fun _ => Below.alloc (Below.refl _ _) (by omega) _) ?_; clear hK K)
   have hE : Ents (w2.alloc (.cells #[.int .i64 x.e, .slice uA un uc] 79)) (fun k => v2.ownBlock = some k ∨ (w2.alloc (.cells #[.int .i64 x.e, .slice uA un uc] 79)).heap.size ≤ k) (some ⟨w2.heap.size, 0, none⟩) 1 [x] := EntsD.one ((hU.kp (Kp.of_below hb02)).sub fun k _ hk => hk.elim (fun e => by have := hg2 k e; omega) (fun e => by rw [World.size_alloc] at e; omega)) hx (fun e => e.elim (fun e => by have := hg2 _ e; omega) (fun e => by rw [World.size_alloc] at e; omega))
   have hr3 := own_alloc hr2 (.cells #[.int .i64 x.e, .slice uA un uc] 79)
   have hb3 := hb02.alloc hb02.size (.cells #[.int .i64 x.e, .slice uA un uc] 79)
   have hPL := dputLogG_any (w.heap.size + 1) _ _ _ 1 1 [x] _ hr3 (by have := hb3.size; simp only [World.size_alloc] at *; omega) hE (by omega) (by simp only [List.length_append]; omega)
   (repeat (first | (refine wfp fun K hK => ?_; go_simp; refine hK _ _ ?_; clear hK K) | (refine wff fun K hK => ?_; go_simp; refine hK _ _ ?_; clear hK K)))
   refine First.wpF_must (fun K hK => ?_)
   go_wp2_with (go_at_call 77; (with_reducible refine hPL.mono ?_); rintro r w9 ⟨v9, rfl, hr9, hc9⟩; have hb9 := Chg.below hc9 hr3 (by have := hb3.size; simp only [World.size_alloc] at *; omega))
   (refine hK _ _ (fun _ => hb9) ?_; clear hK K)
   (repeat (first | (refine wfp fun K hK => ?_; go_simp; refine hK _ _ ?_; clear hK K) | (refine wff fun K hK => ?_; go_simp; refine hK _ _ ?_; clear hK K)))
   refine First.wpF_must (fun K hK => ?_)
   go_wp2
   (refine hK _ _ (fun _ => Below.refl _ _) ?_; clear hK K)
   refine First.wpF_nil ?_
   go_wp2
   go_ret
   exact ⟨v9, rfl, own_low (show Row w9 (w.heap.size + 1) v9 (recEntryP n x) by simpa [recEntryP, List.append_assoc] using hr9) (Nat.le_succ _), hb3.trans (hb9.mono (Nat.le_succ _))⟩
  ·refine First.wpF_must (fun K hK => ?_)
   go_wp2
   (refine hK _ _ (fun _ => Below.alloc (Below.refl _ _) (by omega) _) ?_; clear hK K)
   have hE1 : Ents (w1.alloc (.cells #[.int .i64 x.e, .slice uA un uc] 79)) (fun k => v1.ownBlock = some k ∨ (w1.alloc (.cells #[.int .i64 x.e, .slice uA un uc] 79)).heap.size ≤ k) (some ⟨w1.heap.size, 0, none⟩) 1 [x] := EntsD.one ((hU.kp (Kp.of_below hb01)).sub fun k _ hk => hk.elim (fun e => by have := hg1 k e; omega) (fun e => by rw [World.size_alloc] at e; omega)) hx (fun e => e.elim (fun e => by have := hg1 _ e; omega) (fun e => by rw [World.size_alloc] at e; omega))
   have hr2 : Row (w1.alloc (.cells #[.int .i64 x.e, .slice uA un uc] 79)) (w.heap.size + 1) v1 (numB 2) := own_alloc hr1 (.cells #[.int .i64 x.e, .slice uA un uc] 79)
   have hb2 := hb01.alloc hb01.size (.cells #[.int .i64 x.e, .slice uA un uc] 79)
   refine First.wpF_nil ?_
   (repeat (first | (refine wfp fun K hK => ?_; go_simp; refine hK _ _ ?_; clear hK K) | (refine wff fun K hK => ?_; go_simp; refine hK _ _ ?_; clear hK K)))
   refine First.wpF_must (fun K hK => ?_)
   go_wp2_with (go_at_call 78; (with_reducible refine (rint_any (w.heap.size + 1) _ _ (n : Int) _ hr2 (by simp only [World.size_alloc]; omega) hz (by omega)).mono ?_); rintro r w3 ⟨v3, rfl, hr3, hc3⟩; have hb3' := Chg.below hc3 hr2 (by simp only [World.size_alloc]; omega))
   (refine hK _ _ (fun _ => hb3') ?_; clear hK K)
   have hb3 := hb2.trans (hb3'.mono (Nat.le_succ _))
   have hs3 : w.heap.size + 1 ≤ w3.heap.size := by have := hb3'.size; simp only [World.size_alloc] at this; omega
   have hE : Ents w3 (fun k => v3.ownBlock = some k ∨ w3.heap.size ≤ k) (some ⟨w1.heap.size, 0, none⟩) 1 [x] := (hE1.kp (Kp.of_chg _ hc3)).sub fun k hk ht => ht.elim (fun e => hc3.lies.elim (fun e2 => .inl (e2 ▸ e)) (fun ⟨b2, e2, hl2⟩ => by rw [e2] at e; cases e; exact .inr hl2)) (fun e => by omega)
   have hPL := dputLogG_any (w.heap.size + 1) _ _ _ 1 1 [x] _ hr3 (by have := hb3.size; simp only [World.size_alloc] at *; omega) hE (by omega) (by simp only [List.length_append]; omega)
   (repeat (first | (refine wfp fun K hK => ?_; go_simp; refine hK _ _ ?_; clear hK K) | (refine wff fun K hK => ?_; go_simp; refine hK _ _ ?_; clear hK K)))
   refine First.wpF_must (fun K hK => ?_)
   go_wp2_with (go_at_call 77; (with_reducible refine hPL.mono ?_); rintro r w9 ⟨v9, rfl, hr9, hc9⟩; have hb9 := Chg.below hc9 hr3 (by have := hb3.size; simp only [World.size_alloc] at *; omega))
   (refine hK _ _ (fun _ => hb9) ?_; clear hK K)
   (repeat (first | (refine wfp fun K hK => ?_; go_simp; refine hK _ _ ?_; clear hK K) | (refine wff fun K hK => ?_; go_simp; refine hK _ _ ?_; clear hK K)))
   refine First.wpF_must (fun K hK => ?_)
   go_wp2
   (refine hK _ _ (fun _ => Below.refl _ _) ?_; clear hK K)
   refine First.wpF_nil ?_
   go_wp2
   go_ret
   exact ⟨v9, rfl, own_low (show Row w9 (w.heap.size + 1) v9 (recEntryP n x) by simpa [recEntryP, List.append_assoc] using hr9) (Nat.le_succ _), hb3.trans (hb9.mono (Nat.le_succ _))⟩
 ·refine First.wpF_must (fun K hK => ?_)
  go_wp2
  (refine hK _ _ (fun _ => Below.alloc (Below.refl _ _) (by simp only [World.size_ext, World.size_alloc]; omega) _) ?_; clear hK K)
  have hsY := hbY.size
  have hE1 := EntsD.one (T := fun k => w.heap.size ≤ k ∧ k ≠ ((w.alloc (.cells #[.int .i64 x.e, .slice uA un uc] 79)).ext Y).heap.size) ((hU.kp (Kp.of_below hbY)).sub fun k _ hk => hk.1) hx (fun e => e.2 rfl)
  have hbA := hbY.alloc hsY (.cells #[.int .i64 x.e, .slice uA un uc] 79)
  have hN1 := rnum_any ((((w.alloc (.cells #[.int .i64 x.e, .slice uA un uc] 79)).ext Y).alloc (.cells #[.int .i64 x.e, .slice uA un uc] 79)).heap.size) (.slice none 0 0) [] 2 _ (Row.nil _ _) (Nat.le_refl _) (by unfold U64; omega) (by simp)
  simp only [List.nil_append] at hN1
  rw [show (2 : Int).toNat = 2 from rfl] at hN1
  generalize hVV : ((w.alloc (.cells #[.int .i64 x.e, .slice uA un uc] 79)).ext Y) = V at *
  refine First.wpF_nil ?_
  (repeat (first | (refine wfp fun K hK => ?_; go_simp; refine hK _ _ ?_; clear hK K) | (refine wff fun K hK => ?_; go_simp; refine hK _ _ ?_; clear hK K)))
  refine First.wpF_must (fun K hK => ?_)
  go_wp2_with (go_at_call 71; (with_reducible refine hN1.mono ?_); rintro r w1 ⟨v1, rfl, hr1, hc1⟩; have hb1 := Chg.below hc1 (Row.nil _ _) (Nat.le_refl _))
  have hsV : w.heap.size + 1 ≤ (V.alloc (.cells #[.int .i64 x.e, .slice uA un uc] 79)).heap.size := by simp only [World.size_alloc]; omega
  have hsV' : w.heap.size ≤ (V.alloc (.cells #[.int .i64 x.e, .slice uA un uc] 79)).heap.size := by omega
  (refine hK _ _ (fun _ => hb1.mono hsV) ?_; clear hK K)
  (repeat (first | (refine wfp fun K hK => ?_; go_simp; refine hK _ _ ?_; clear hK K) | (refine wff fun K hK => ?_; go_simp; refine hK _ _ ?_; clear hK K)))
  refine First.wpF_must (fun K hK => ?_)
  go_wp2_with (go_at_call 78; (with_reducible refine (rint_any (V.alloc (.cells #[.int .i64 x.e, .slice uA un uc] 79)).heap.size _ _ (n : Int) w1 hr1 hb1.size hz (by omega)).mono ?_); rintro r w3 ⟨v3, rfl, hr3, hc3⟩; have hb3 := Chg.below hc3 hr1 hb1.size)
  (refine hK _ _ (fun _ => hb3.mono hsV) ?_; clear hK K)
  have hb03 : Below w.heap.size w w3 := hbA.trans ((hb1.trans hb3).mono hsV')
  have hg3 := Row.own_ge hr3
  have hE : Ents w3 (fun k => v3.ownBlock = some k ∨ w3.heap.size ≤ k) (some ⟨V.heap.size, 0, none⟩) 1 [x] := (hE1.kp (Kp.of_below (hb1.trans hb3))).sub fun k hk ht => ht.elim (fun e => by have := (hg3 k e).1; simp only [World.size_alloc] at this; exact ⟨by omega, by omega⟩) (fun e => by omega)
  have hVs : V.heap.size = w.heap.size + 1 + Y.blocks.size := by rw [← hVV]; simp only [World.size_ext, World.size_alloc]
  rw [hVs] at hE
  have hPL := dputLogG_any (V.alloc (.cells #[.int .i64 x.e, .slice uA un uc] 79)).heap.size _ _ _ 1 1 [x] _ hr3 (hb1.trans hb3).size hE (by omega) (by simp only [List.length_append]; omega)
  (repeat (first | (refine wfp fun K hK => ?_; go_simp; refine hK _ _ ?_; clear hK K) | (refine wff fun K hK => ?_; go_simp; refine hK _ _ ?_; clear hK K)))
  refine First.wpF_must (fun K hK => ?_)
  go_wp2_with (go_at_call 77; (with_reducible refine hPL.mono ?_); rintro r w9 ⟨v9, rfl, hr9, hc9⟩; have hb9 := Chg.below hc9 hr3 (hb1.trans hb3).size)
  (refine hK _ _ (fun _ => hb9.mono hsV) ?_; clear hK K)
  (repeat (first | (refine wfp fun K hK => ?_; go_simp; refine hK _ _ ?_; clear hK K) | (refine wff fun K hK => ?_; go_simp; refine hK _ _ ?_; clear hK K)))
  refine First.wpF_must (fun K hK => ?_)
  go_wp2
  (refine hK _ _ (fun _ => Below.refl _ _) ?_; clear hK K)
  refine First.wpF_nil ?_
  go_wp2
  go_ret
  exact ⟨v9, rfl, own_low (show Row w9 (V.alloc (.cells #[.int .i64 x.e, .slice uA un uc] 79)).heap.size v9 (recEntryP n x) by simpa [recEntryP, List.append_assoc] using hr9) hsV', hb03.trans (hb9.mono hsV')⟩
end Go.Proofs.YtjhcgnmibnjocaaGreat
