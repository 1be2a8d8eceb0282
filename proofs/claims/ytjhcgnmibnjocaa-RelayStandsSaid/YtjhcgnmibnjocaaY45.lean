import Derived.Test.YtjhcgnmibnjocaaY44
/-! Entries and a message of the program as the document's. -/
namespace Go.Proofs.Ytjhcgnmibnjocaa
open Go.RowKit Go.Maps
set_option linter.unusedVariables false
set_option linter.unusedSimpArgs false
set_option maxRecDepth 100000 in
set_option maxHeartbeats 4000000 in
theorem back_any {T : Nat → Prop} (A : Option Addr) (n c : Nat) (l : List Ent) (w : World) (h : Ents w T A n l) (hTl : ∀ k, T k → k < w.heap.size) (hn : n ≤ 1000000) :
    Calls Try.prog 35 #[.slice A n c] w fun e w' => ∃ A1 c1, e = .returned (.slice A1 n c1) ∧ Ents w' T A1 n l ∧ Below w.heap.size w w' := by
  have hln := h.len
  go_enter Try.func35, Try.ntmps35
  go_wp2
  go_loopw [3, 8] (fun vo vi wr => ∃ j : Nat, j ≤ n ∧ vi = .int .i64 (j : Int) ∧ OwnD wr (fun k => T k ∨ vo.ownBlock = some k) w.heap.size vo (l.take j) ∧ Below w.heap.size w wr) (fun _ vi _ => ((n : Int) - intOf vi).toNat)
  case atStart => exact ⟨0, by omega, rfl, OwnD.nil _ _ _, Below.refl _ _⟩
  case round =>
    obtain ⟨j, hj, rfl, hO, hb⟩ := hrel
    obtain ⟨wo, rfl⟩ : ∃ wo : World, wo = wr := ⟨_, rfl⟩
    have hso := hb.size
    obtain ⟨vA, vc, hv⟩ := hO.sl
    rw [show (l.take j).length = j by rw [List.length_take]; omega] at hv
    subst hv
    by_cases hlt : j < n
    · have hlj : (j : Int) < n := by omega
      have hE : Ents wo (fun k => T k ∨ w.heap.size ≤ k) A n l := (h.sub (T' := fun k => T k ∨ w.heap.size ≤ k) (fun k hk ht => ht.elim id (fun h => by omega))).kp (Kp.of_below hb)
      obtain ⟨b, o, A2, c2, x, rfl, hbl, hg, hxo, m1, m2, hB⟩ := hE.at_ hlt
      have htk : l.take (j + 1) = l.take j ++ [x] := by rw [List.take_add_one, hg]; rfl
      have hge := ownD_ge hO
      have hbA : Below wo.heap.size wo (wo.alloc (.cells #[.int .i64 x.e, .slice A2 x.t.length c2] 103)) := Below.alloc (Below.refl _ _) (Nat.le_refl _) _
      have hO2 := hO.below hbA
      have hBT := (hB.kp (Kp.of_below hbA)).sub (T' := fun k => T k ∨ (Value.slice vA j vc).ownBlock = some k) (fun k _ hk => hk.imp id (fun e => (hge k e).1))
      have HO := hide htk
      clear htk hg hE
      go_wp2_with (at_builtin; refine app_entD rfl (.tmp 12) (.tmp 18) rfl (fun k => T k ∨ (Value.slice vA j vc).ownBlock = some k) w.heap.size (.slice vA j vc) (l.take j) ⟨x, .slice A2 x.t.length c2⟩ _ rfl rfl hO2 ⟨hBT, hxo⟩ (fun k hk => .inr hk) (wo.heap.size + 1) (by simp) rfl (by rw [List.length_take]; omega) (by simp; omega) (fun v' w4 ho4 hc4 hs4 => ?_))
      go_roundw
      case rel =>
        refine ⟨j + 1, by omega, by go_num, ?_, ?_⟩
        · rw [HO.out]
          exact ho4.sub fun k _ hk => hk.elim (fun h => .inl (.inl h)) .inr
        · exact (hb.alloc hso _).trans (hc4.low (fun k hk => (hge k hk).1) (by simp; omega))
      case measure => simp [intOf]; omega
    · obtain rfl : j = n := by omega
      rw [List.take_of_length_le (by omega)] at hO
      go_wp2
      go_ret
      exact ⟨vA, vc, rfl, hO.ents hln hTl (fun k hk => .inl hk), hb⟩
set_option maxRecDepth 100000 in
set_option maxHeartbeats 4000000 in
theorem from_any {T : Nat → Prop} (m : Mg) (vm vl : Value) (w : World) (h : MgW w T vm vl m) (hTl : ∀ k, T k → k < w.heap.size) (hn : m.log.length ≤ 1000000) :
    Calls Try.prog 29 #[.agg #[.int .i64 m.k, .int .i64 m.e, .int .i64 m.v.e, .int .i64 m.v.p, vm, .int .i64 m.i, .int .i64 m.s, vl]] w fun e w' => ∃ vm' vl', e = .returned (.agg #[.int .i64 m.k, .int .i64 m.e, .int .i64 m.v.e, .int .i64 m.v.p, vm', .int .i64 m.i, .int .i64 m.s, vl']) ∧ MgW w' T vm' vl' m ∧ Below w.heap.size w w' := by
  obtain ⟨A, c, B, d, rfl, rfl, hr, hrT, hE⟩ := h.sl
  have hb0 : Below w.heap.size w ((w.alloc (.cells #[.int .i64 m.k, .int .i64 m.e, .int .i64 m.v.e, .int .i64 m.v.p, (.slice A m.v.l.length c), .int .i64 m.i, .int .i64 m.s, (.slice B m.log.length d)] 54)).alloc (.cells #[.int .i64 0, .int .i64 0, .int .i64 0, .int .i64 0, .slice none 0 0, .int .i64 0, .int .i64 0, .slice none 0 0] 35)) := (Below.alloc (Below.refl _ _) (Nat.le_refl _) _).alloc (by simp) _
  have hZ := Blk.made w (.cells #[.int .i64 m.k, .int .i64 m.e, .int .i64 m.v.e, .int .i64 m.v.p, (.slice A m.v.l.length c), .int .i64 m.i, .int .i64 m.s, (.slice B m.log.length d)] 54) 35 #[.int .i64 0, .int .i64 0, .int .i64 0, .int .i64 0, .slice none 0 0, .int .i64 0, .int .i64 0, .slice none 0 0]
  go_enter Try.func29, Try.ntmps29
  go_wp2
  refine First.wp_region_first_ext [1, 3, 5, 8, 10, 12] [0, 2, 4, 7, 9, 11, 14] [(true, false, 0), (true, true, 1), (true, false, 2), (true, true, 3), (true, false, 4), (true, true, 5), (true, false, 7), (true, true, 8), (true, false, 9), (true, true, 10), (true, false, 11), (true, true, 12), (false, true, 6), (false, true, 13), (true, false, 14), (false, false, 15)] (by kernel_rfl) (by kernel_rfl) (fun X => ?_); simp only [List.map_cons, List.map_nil, List.getD_cons_zero, List.getD_cons_succ]
  have hZX := hZ.ext X
  have hbX := hb0.trans ((World.below_ext _ X).mono (by simp <;> omega))
  have hEX := (hE.sub (T' := fun k => T k ∨ k = w.heap.size + 1) (fun k hk ht => ht.elim id (fun e => by omega))).kp (Kp.of_below hbX)
  have hsX := hbX.size
  have hfr := fun W => vfrom_any m.v.e m.v.p A m.v.l.length c W
  (repeat (first | (refine First.wpF_pure (fun K hK => ?_); go_simp; first | (refine hK _ _ ?_; clear hK K) | (apply Exists.intro; refine ⟨fun _ => ?_, hK _ _ ?_⟩; fail)) | (refine First.wpF_free (fun K hK => ?_); go_simp; first | (refine hK _ _ ?_; clear hK K))))
  refine First.wpF_must (fun K hK => ?_)
  go_wp2_with (go_at_call 74; (with_reducible refine (hfr _).mono ?_); rintro e w2 ⟨rfl, hb2⟩)
  have hgr2 : First.Grown _ w2 := World.ext_of_below hb2
  (refine hK _ _ (fun hnd => by first | exact Bool.noConfusion hnd | assumption | with_reducible exact grown_alloc _ _ | with_reducible exact First.Grown.refl _ | with_reducible exact First.Grown.cat _ _ _ | with_reducible exact First.Grown.ext _ _) ?_; clear hK K)
  have hE2 := hEX.kp (Kp.of_below hb2)
  have hs2 := hb2.size
  simp only [World.size_ext, World.size_alloc] at hs2
  have hT2 : ∀ k, (T k ∨ k = w.heap.size + 1) → k < w2.heap.size := fun k hk => hk.elim (fun hk => by have := hTl k hk; omega) (fun e => by omega)
  have hbk := fun W h ht => back_any (T := fun k => T k ∨ k = w.heap.size + 1) B m.log.length d m.log W h ht hn
  (repeat (first | (refine First.wpF_pure (fun K hK => ?_); go_simp; first | (refine hK _ _ ?_; clear hK K) | (apply Exists.intro; refine ⟨fun _ => ?_, hK _ _ ?_⟩; fail)) | (refine First.wpF_free (fun K hK => ?_); go_simp; first | (refine hK _ _ ?_; clear hK K))))
  refine First.wpF_must (fun K hK => ?_)
  go_wp2_with (go_at_call 35; (with_reducible refine (hbk _ hE2 hT2).mono ?_); rintro e w3 ⟨A3, c3, rfl, hE3, hb3⟩)
  have hgr3 : First.Grown _ w3 := World.ext_of_below hb3
  (refine hK _ _ (fun hnd => by first | exact Bool.noConfusion hnd | assumption | with_reducible exact grown_alloc _ _ | with_reducible exact First.Grown.refl _ | with_reducible exact First.Grown.cat _ _ _ | with_reducible exact First.Grown.ext _ _) ?_; clear hK K)
  have hs3 := hb3.size
  have hZ3 := (hZX.below hb2 (by simp only [World.size_ext, World.size_alloc]; omega)).below hb3 (by omega)
  have cZ := hZ3.cell
  have fZ := hZ3.frozen
  have lZ := hZ3.lt
  (repeat (first | (refine First.wpF_pure (fun K hK => ?_); go_simp; first | (refine hK _ _ ?_; clear hK K) | (apply Exists.intro; refine ⟨fun _ => ?_, hK _ _ ?_⟩; fail)) | (refine First.wpF_free (fun K hK => ?_); go_simp; first | (refine hK _ _ ?_; clear hK K))))
  refine First.wpF_must (fun K hK => ?_)
  go_wp2
  (refine hK _ _ (fun hnd => by first | exact Bool.noConfusion hnd | assumption | with_reducible exact grown_alloc _ _ | with_reducible exact First.Grown.refl _ | with_reducible exact First.Grown.cat _ _ _ | with_reducible exact First.Grown.ext _ _) ?_; clear hK K)
  refine First.wpF_nil ?_
  go_wp2
  have hb03 : Below w.heap.size w w3 := (hbX.trans (hb2.mono hsX)).trans (hb3.mono (by omega))
  refine bodyPost_cell Try.results29 rfl (Blk.eight hZ3) Try.underlying35 rfl (by kernel_rfl) rfl ⟨_, _, rfl, ?_, ?_⟩
  · have hAT : 0 < m.v.l.length → ∀ a, A = some a → ¬(T a.block ∨ a.block = w.heap.size + 1) := fun h0 a ha ht => ht.elim (hrT h0 a ha) (fun e => by
      obtain ⟨a', e', hl', _⟩ := hr.2 (by omega)
      rw [ha] at e'; cases e'
      omega)
    have h0 : MgW w3 (fun k => T k ∨ k = w.heap.size + 1) (.slice A m.v.l.length c) (.slice A3 m.log.length c3) m := ⟨⟨A, c, rfl, Reads.kp hr (S := fun k => T k ∨ k = w.heap.size + 1) (Kp.of_below hb03) hAT, hAT⟩, A3, c3, rfl, hE3⟩
    exact (h0.kp (Kp.eight (S := fun k => T k ∨ k = w.heap.size + 1) (Kp.refl _ w3) (.inr rfl) _ _ _ _ _ _ _ _)).sub fun k _ hk => .inl hk
  · exact hb03.trans (Kp.below (S := fun k => k = w.heap.size + 1) (Kp.eight (S := fun k => k = w.heap.size + 1) (Kp.refl _ _) rfl _ _ _ _ _ _ _ _) (by omega) (fun k hk => by omega))
end Go.Proofs.Ytjhcgnmibnjocaa
