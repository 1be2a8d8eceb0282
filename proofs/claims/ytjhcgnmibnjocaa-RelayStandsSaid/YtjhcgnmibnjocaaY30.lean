import Derived.Test.YtjhcgnmibnjocaaY29
/-! A message of the law as the program's. -/
namespace Go.Proofs.Ytjhcgnmibnjocaa
open Go.RowKit Go.Maps
set_option linter.unusedVariables false
set_option linter.unusedSimpArgs false
theorem Blk.eight {w : World} {g : Nat} {t : TypeId} {a b c d e f h i a' b' c' d' e' f' h' i' : Value} (H : Blk w g t #[a, b, c, d, e, f, h, i]) :
    Blk ((((((((w.setCell ⟨g, 0, none⟩ a').setCell ⟨g, 1, none⟩ b').setCell ⟨g, 2, none⟩ c').setCell ⟨g, 3, none⟩ d').setCell ⟨g, 4, none⟩ e').setCell ⟨g, 5, none⟩ f').setCell ⟨g, 6, none⟩ h').setCell ⟨g, 7, none⟩ i') g t #[a', b', c', d', e', f', h', i'] := by
  have H0 : Blk (w.setCell ⟨g, 0, none⟩ a') g t #[a', b, c, d, e, f, h, i] := H.set_ 0 a'
  have H1 : Blk ((w.setCell ⟨g, 0, none⟩ a').setCell ⟨g, 1, none⟩ b') g t #[a', b', c, d, e, f, h, i] := H0.set_ 1 b'
  have H2 : Blk (((w.setCell ⟨g, 0, none⟩ a').setCell ⟨g, 1, none⟩ b').setCell ⟨g, 2, none⟩ c') g t #[a', b', c', d, e, f, h, i] := H1.set_ 2 c'
  have H3 : Blk ((((w.setCell ⟨g, 0, none⟩ a').setCell ⟨g, 1, none⟩ b').setCell ⟨g, 2, none⟩ c').setCell ⟨g, 3, none⟩ d') g t #[a', b', c', d', e, f, h, i] := H2.set_ 3 d'
  have H4 : Blk (((((w.setCell ⟨g, 0, none⟩ a').setCell ⟨g, 1, none⟩ b').setCell ⟨g, 2, none⟩ c').setCell ⟨g, 3, none⟩ d').setCell ⟨g, 4, none⟩ e') g t #[a', b', c', d', e', f, h, i] := H3.set_ 4 e'
  have H5 : Blk ((((((w.setCell ⟨g, 0, none⟩ a').setCell ⟨g, 1, none⟩ b').setCell ⟨g, 2, none⟩ c').setCell ⟨g, 3, none⟩ d').setCell ⟨g, 4, none⟩ e').setCell ⟨g, 5, none⟩ f') g t #[a', b', c', d', e', f', h, i] := H4.set_ 5 f'
  have H6 : Blk (((((((w.setCell ⟨g, 0, none⟩ a').setCell ⟨g, 1, none⟩ b').setCell ⟨g, 2, none⟩ c').setCell ⟨g, 3, none⟩ d').setCell ⟨g, 4, none⟩ e').setCell ⟨g, 5, none⟩ f').setCell ⟨g, 6, none⟩ h') g t #[a', b', c', d', e', f', h', i] := H5.set_ 6 h'
  have H7 : Blk ((((((((w.setCell ⟨g, 0, none⟩ a').setCell ⟨g, 1, none⟩ b').setCell ⟨g, 2, none⟩ c').setCell ⟨g, 3, none⟩ d').setCell ⟨g, 4, none⟩ e').setCell ⟨g, 5, none⟩ f').setCell ⟨g, 6, none⟩ h').setCell ⟨g, 7, none⟩ i') g t #[a', b', c', d', e', f', h', i'] := H6.set_ 7 i'
  exact H7
theorem Kp.eight {S : Nat → Prop} {w w1 : World} {g : Nat} (h : Kp S w w1) (hg : S g) (a' b' c' d' e' f' h' i' : Value) :
    Kp S w ((((((((w1.setCell ⟨g, 0, none⟩ a').setCell ⟨g, 1, none⟩ b').setCell ⟨g, 2, none⟩ c').setCell ⟨g, 3, none⟩ d').setCell ⟨g, 4, none⟩ e').setCell ⟨g, 5, none⟩ f').setCell ⟨g, 6, none⟩ h').setCell ⟨g, 7, none⟩ i') :=
  (((((((h.set_ (.inl hg) a').set_ (.inl hg) b').set_ (.inl hg) c').set_ (.inl hg) d').set_ (.inl hg) e').set_ (.inl hg) f').set_ (.inl hg) h').set_ (.inl hg) i'
set_option maxRecDepth 100000 in
set_option maxHeartbeats 4000000 in
theorem to_any {T : Nat → Prop} (m : Mg) (A : Option Addr) (c : Nat) (B : Option Addr) (d : Nat) (w : World) (hr : Reads w w.heap.size 1 A m.v.l.length (ints m.v.l)) (hE : Ents w T B m.log.length m.log) (hv : m.v.l.length ≤ 1000000) (hn : m.log.length ≤ 4096) :
    Calls Try.prog 19 #[.agg #[.int .i64 m.k, .int .i64 m.e, .int .i64 m.v.e, .int .i64 m.v.p, (.slice A m.v.l.length c), .int .i64 m.i, .int .i64 m.s, (.slice B m.log.length d)]] w fun e w' => ∃ vm vl, e = .returned (.agg #[.int .i64 m.k, .int .i64 m.e, .int .i64 m.v.e, .int .i64 m.v.p, vm, .int .i64 m.i, .int .i64 m.s, vl]) ∧ MgW w' (fun k => k < w.heap.size) vm vl m ∧ Below w.heap.size w w' := by
  have hb0 : Below w.heap.size w ((w.alloc (.cells #[.int .i64 m.k, .int .i64 m.e, .int .i64 m.v.e, .int .i64 m.v.p, (.slice A m.v.l.length c), .int .i64 m.i, .int .i64 m.s, (.slice B m.log.length d)] 35)).alloc (.cells #[.int .i64 0, .int .i64 0, .int .i64 0, .int .i64 0, .slice none 0 0, .int .i64 0, .int .i64 0, .slice none 0 0] 54)) := (Below.alloc (Below.refl _ _) (Nat.le_refl _) _).alloc (by simp) _
  have hZ := Blk.made w (.cells #[.int .i64 m.k, .int .i64 m.e, .int .i64 m.v.e, .int .i64 m.v.p, (.slice A m.v.l.length c), .int .i64 m.i, .int .i64 m.s, (.slice B m.log.length d)] 35) 54 #[.int .i64 0, .int .i64 0, .int .i64 0, .int .i64 0, .slice none 0 0, .int .i64 0, .int .i64 0, .slice none 0 0]
  go_enter Try.func19, Try.ntmps19
  go_wp2
  refine First.wp_region_first_ext [1, 3, 5, 8, 10, 12] [0, 2, 4, 7, 9, 11, 14] [(true, false, 0), (true, true, 1), (true, false, 2), (true, true, 3), (true, false, 4), (true, true, 5), (true, false, 7), (true, true, 8), (true, false, 9), (true, true, 10), (true, false, 11), (true, true, 12), (false, true, 6), (false, true, 13), (true, false, 14), (false, false, 15)] (by kernel_rfl) (by kernel_rfl) (fun X => ?_); simp only [List.map_cons, List.map_nil, List.getD_cons_zero, List.getD_cons_succ]
  have hZX := hZ.ext X
  have hbX := hb0.trans ((World.below_ext _ X).mono (by simp <;> omega))
  have hrX := Reads.kp hr (Kp.of_below (S := fun _ => False) hbX) (fun _ _ _ h => h)
  have hEX := hE.kp (Kp.of_below hbX)
  have hto := fun W h => vto_any m.v.e m.v.p A m.v.l.length c m.v.l W h (by omega)
  have hen := fun W h => entries_any (T := T) B m.log.length d m.log W h hn
  (repeat (first | (refine First.wpF_pure (fun K hK => ?_); go_simp; first | (refine hK _ _ ?_; clear hK K) | (apply Exists.intro; refine ⟨fun _ => ?_, hK _ _ ?_⟩; fail)) | (refine First.wpF_free (fun K hK => ?_); go_simp; first | (refine hK _ _ ?_; clear hK K))))
  refine First.wpF_must (fun K hK => ?_)
  go_wp2_with (go_at_call 15; (with_reducible refine (hto _ hrX).mono ?_); rintro e w2 ⟨⟨v2, rfl, ho2⟩, hb2⟩; obtain ⟨A2, c2, rfl, _⟩ := own_sl ho2)
  have hgr2 : First.Grown _ w2 := World.ext_of_below hb2
  (refine hK _ _ (fun hnd => by first | exact Bool.noConfusion hnd | assumption | with_reducible exact grown_alloc _ _ | with_reducible exact First.Grown.refl _ | with_reducible exact First.Grown.cat _ _ _ | with_reducible exact First.Grown.ext _ _) ?_; clear hK K)
  have hE2 := hEX.kp (Kp.of_below hb2)
  (repeat (first | (refine First.wpF_pure (fun K hK => ?_); go_simp; first | (refine hK _ _ ?_; clear hK K) | (apply Exists.intro; refine ⟨fun _ => ?_, hK _ _ ?_⟩; fail)) | (refine First.wpF_free (fun K hK => ?_); go_simp; first | (refine hK _ _ ?_; clear hK K))))
  refine First.wpF_must (fun K hK => ?_)
  go_wp2_with (go_at_call 53; (with_reducible refine (hen _ hE2).mono ?_); rintro e w3 ⟨A3, c3, rfl, hO3, hb3⟩)
  have hgr3 : First.Grown _ w3 := World.ext_of_below hb3
  (refine hK _ _ (fun hnd => by first | exact Bool.noConfusion hnd | assumption | with_reducible exact grown_alloc _ _ | with_reducible exact First.Grown.refl _ | with_reducible exact First.Grown.cat _ _ _ | with_reducible exact First.Grown.ext _ _) ?_; clear hK K)
  have hs2 := hb2.size
  have hs3 := hb3.size
  simp only [World.size_ext, World.size_alloc] at hs2
  have hZ3 := (hZX.below hb2 (by simp only [World.size_ext, World.size_alloc]; omega)).below hb3 (by omega)
  have cZ := hZ3.cell
  have fZ := hZ3.frozen
  have lZ := hZ3.lt
  (repeat (first | (refine First.wpF_pure (fun K hK => ?_); go_simp; first | (refine hK _ _ ?_; clear hK K) | (apply Exists.intro; refine ⟨fun _ => ?_, hK _ _ ?_⟩; fail)) | (refine First.wpF_free (fun K hK => ?_); go_simp; first | (refine hK _ _ ?_; clear hK K))))
  refine First.wpF_must (fun K hK => ?_)
  go_wp2
  (refine hK _ _ (fun hnd => by first | exact Bool.noConfusion hnd | assumption | with_reducible exact grown_alloc _ _ | with_reducible exact First.Grown.refl _ | with_reducible exact First.Grown.cat _ _ _ | with_reducible exact First.Grown.ext _ _) ?_; clear hK K)
  refine First.wpF_nil ?_
  go_wp2
  refine bodyPost_cell Try.results19 rfl (Blk.eight hZ3) Try.underlying54 rfl (by kernel_rfl) rfl ⟨_, _, rfl, ?_, ?_⟩
  · have h0 := MgW.made (T := fun k => k < w.heap.size + 2) (m := m) (own_keep ho2 fun k _ hk => hb3.block k hk) hO3 (fun k hk => by simp only [World.size_ext, World.size_alloc]; omega) (fun k hk => by omega)
    exact (h0.kp (Kp.eight (Kp.refl _ _) (by omega) _ _ _ _ _ _ _ _)).sub fun k _ hk => by omega
  · exact (hbX.trans ((hb2.trans (hb3.mono (by simp only [World.size_ext, World.size_alloc]; omega))).mono (by simp only [World.size_ext, World.size_alloc]; omega))).trans (Kp.below (S := fun k => k = w.heap.size + 1) (Kp.eight (S := fun k => k = w.heap.size + 1) (Kp.refl _ _) rfl _ _ _ _ _ _ _ _) (by omega) (fun k hk => by omega))
end Go.Proofs.Ytjhcgnmibnjocaa
