import Derived.Test.YtamnononemallaaDoorJ4
import Derived.Test.YtamnononemallaaDoorSm
/-! The law's To, From; whether queries are one; the law's examples. -/
namespace Go.Proofs.YtamnononemallaaDoor
open Go.RowKit
set_option linter.unusedVariables false
set_option linter.unusedSimpArgs false
set_option maxRecDepth 100000 in
set_option maxHeartbeats 8000000 in
theorem qto_any (q : Qy) (rv : Value) (w : World) (hr : Rz w rv q.r) (hn : q.r.length * 40 ≤ 140737488355328) :
    Calls Tryd.prog 4 #[.agg #[.int .i64 q.op, rv, .int .i64 q.f, .int .i64 q.t, .int .i64 q.s, .bool q.n]] w fun e w' => (∃ u, e = .returned (.agg #[.int .i64 q.op, u, .int .i64 q.f, .int .i64 q.t, .int .i64 q.s, .bool q.n]) ∧ Rz w' u q.r) ∧ Below w.heap.size w w' := by
  have hT := fun W h => rto_any rv q.r W h hn
  obtain ⟨A, c, rfl⟩ := hr.shape
  obtain ⟨op, r, f, t, s, n⟩ := q
  dsimp only at *
  obtain ⟨p, hp⟩ : ∃ p, w.heap.size = p := ⟨_, rfl⟩
  have hb1 : Below w.heap.size w ((w.alloc (.cells #[.int .i64 op, .slice A r.length c, .int .i64 f, .int .i64 t, .int .i64 s, .bool n] 24)).alloc (.cells #[.int .i64 0, .slice none 0 0, .int .i64 0, .int .i64 0, .int .i64 0, .bool false] 27)) := (Below.alloc (Below.refl _ _) (Nat.le_refl _) _).alloc (by simp) _
  have hB : Blk ((w.alloc (.cells #[.int .i64 op, .slice A r.length c, .int .i64 f, .int .i64 t, .int .i64 s, .bool n] 24)).alloc (.cells #[.int .i64 0, .slice none 0 0, .int .i64 0, .int .i64 0, .int .i64 0, .bool false] 27)) (p + 1) 27 #[.int .i64 0, .slice none 0 0, .int .i64 0, .int .i64 0, .int .i64 0, .bool false] := hp ▸ Blk.made w _ _ _
  have hz0 : Rz ((w.alloc (.cells #[.int .i64 op, .slice A r.length c, .int .i64 f, .int .i64 t, .int .i64 s, .bool n] 24)).alloc (.cells #[.int .i64 0, .slice none 0 0, .int .i64 0, .int .i64 0, .int .i64 0, .bool false] 27)) (.slice A r.length c) r := (hr.alloc _).alloc _
  have kc := fun Y i => (hB.ext Y).cell i
  have kf := fun Y i => (hB.ext Y).frozen i
  go_enter Tryd.func4, Tryd.ntmps4
  go_wp2
  refine First.wp_region_first_ext [1, 3, 6, 8, 10, 12] [0, 2, 5, 7, 9, 11, 13] [(true, false, 0), (true, true, 1), (true, false, 2), (true, true, 3), (true, false, 5), (true, true, 6), (true, false, 7), (true, true, 8), (true, false, 9), (true, true, 10), (true, false, 11), (true, true, 12), (false, true, 4), (true, false, 13), (false, false, 14)] (by kernel_rfl) (by kernel_rfl) (fun X => ?_); simp only [List.map_cons, List.map_nil, List.getD_cons_zero, List.getD_cons_succ]
  (repeat (first | (refine wfp fun K hK => ?_; go_simp; refine hK _ _ ?_; clear hK K) | (refine wff fun K hK => ?_; go_simp; refine hK _ _ ?_; clear hK K)))
  refine First.wpF_must (fun K hK => ?_)
  go_wp2_with (go_at_call 11; (with_reducible refine (hT _ (hz0.ext _)).mono ?_); rintro e w1 ⟨⟨u, rfl, ho⟩, hb2⟩; obtain ⟨X1, rfl⟩ := World.ext_of_below hb2; have hz1 := Rz.own ho; obtain ⟨A1, c1, rfl⟩ := hz1.shape; clear hb2 ho)
  (refine hK _ _ (fun hnd => by first | exact Bool.noConfusion hnd | assumption | with_reducible (first | exact grown_alloc _ _ | exact First.Grown.refl _ | exact First.Grown.cat _ _ _ | exact First.Grown.ext _ _)) ?_; clear hK K)
  (repeat (first | (refine wfp fun K hK => ?_; go_simp; refine hK _ _ ?_; clear hK K) | (refine wff fun K hK => ?_; go_simp; refine hK _ _ ?_; clear hK K)))
  refine First.wpF_must (fun K hK => ?_)
  go_wp2
  (refine hK _ _ (fun hnd => by first | exact Bool.noConfusion hnd | assumption | with_reducible (first | exact grown_alloc _ _ | exact First.Grown.refl _ | exact First.Grown.cat _ _ _ | exact First.Grown.ext _ _)) ?_; clear hK K)
  refine First.wpF_nil ?_
  rw [World.ext_ext] at hz1
  generalize Ext.cat X X1 = Y at *
  have hBY := hB.ext Y
  go_wp2
  refine bodyPost_cell (g := p + 1) (cs := #[.int .i64 op, .slice A1 r.length c1, .int .i64 f, .int .i64 t, .int .i64 s, .bool n]) Tryd.results4 rfl (Blk.six hBY) Tryd.underlying27 rfl (by kernel_rfl) rfl ⟨⟨.slice A1 r.length c1, rfl, rz_six hz1 hBY⟩, ?_⟩
  exact below_six (hb1.trans ((World.below_ext _ Y).mono hb1.size)) (by omega) _ _ _ _ _ _
set_option maxRecDepth 100000 in
set_option maxHeartbeats 8000000 in
theorem qfrom_any (q : Qy) (rv : Value) (w : World) (hr : Rz w rv q.r) (hn : q.r.length * 40 ≤ 140737488355328) :
    Calls Tryd.prog 9 #[.agg #[.int .i64 q.op, rv, .int .i64 q.f, .int .i64 q.t, .int .i64 q.s, .bool q.n]] w fun e w' => (∃ u, e = .returned (.agg #[.int .i64 q.op, u, .int .i64 q.f, .int .i64 q.t, .int .i64 q.s, .bool q.n]) ∧ Rz w' u q.r) ∧ Below w.heap.size w w' := by
  have hT := fun W h => rfrom_any rv q.r W h hn
  obtain ⟨A, c, rfl⟩ := hr.shape
  obtain ⟨op, r, f, t, s, n⟩ := q
  dsimp only at *
  obtain ⟨p, hp⟩ : ∃ p, w.heap.size = p := ⟨_, rfl⟩
  have hb1 : Below w.heap.size w ((w.alloc (.cells #[.int .i64 op, .slice A r.length c, .int .i64 f, .int .i64 t, .int .i64 s, .bool n] 27)).alloc (.cells #[.int .i64 0, .slice none 0 0, .int .i64 0, .int .i64 0, .int .i64 0, .bool false] 24)) := (Below.alloc (Below.refl _ _) (Nat.le_refl _) _).alloc (by simp) _
  have hB : Blk ((w.alloc (.cells #[.int .i64 op, .slice A r.length c, .int .i64 f, .int .i64 t, .int .i64 s, .bool n] 27)).alloc (.cells #[.int .i64 0, .slice none 0 0, .int .i64 0, .int .i64 0, .int .i64 0, .bool false] 24)) (p + 1) 24 #[.int .i64 0, .slice none 0 0, .int .i64 0, .int .i64 0, .int .i64 0, .bool false] := hp ▸ Blk.made w _ _ _
  have hz0 : Rz ((w.alloc (.cells #[.int .i64 op, .slice A r.length c, .int .i64 f, .int .i64 t, .int .i64 s, .bool n] 27)).alloc (.cells #[.int .i64 0, .slice none 0 0, .int .i64 0, .int .i64 0, .int .i64 0, .bool false] 24)) (.slice A r.length c) r := (hr.alloc _).alloc _
  have kc := fun Y i => (hB.ext Y).cell i
  have kf := fun Y i => (hB.ext Y).frozen i
  go_enter Tryd.func9, Tryd.ntmps9
  go_wp2
  refine First.wp_region_first_ext [1, 3, 6, 8, 10, 12] [0, 2, 5, 7, 9, 11, 13] [(true, false, 0), (true, true, 1), (true, false, 2), (true, true, 3), (true, false, 5), (true, true, 6), (true, false, 7), (true, true, 8), (true, false, 9), (true, true, 10), (true, false, 11), (true, true, 12), (false, true, 4), (true, false, 13), (false, false, 14)] (by kernel_rfl) (by kernel_rfl) (fun X => ?_); simp only [List.map_cons, List.map_nil, List.getD_cons_zero, List.getD_cons_succ]
  (repeat (first | (refine wfp fun K hK => ?_; go_simp; refine hK _ _ ?_; clear hK K) | (refine wff fun K hK => ?_; go_simp; refine hK _ _ ?_; clear hK K)))
  refine First.wpF_must (fun K hK => ?_)
  go_wp2_with (go_at_call 23; (with_reducible refine (hT _ (hz0.ext _)).mono ?_); rintro e w1 ⟨⟨u, rfl, ho⟩, hb2⟩; obtain ⟨X1, rfl⟩ := World.ext_of_below hb2; have hz1 := Rz.own ho; obtain ⟨A1, c1, rfl⟩ := hz1.shape; clear hb2 ho)
  (refine hK _ _ (fun hnd => by first | exact Bool.noConfusion hnd | assumption | with_reducible (first | exact grown_alloc _ _ | exact First.Grown.refl _ | exact First.Grown.cat _ _ _ | exact First.Grown.ext _ _)) ?_; clear hK K)
  (repeat (first | (refine wfp fun K hK => ?_; go_simp; refine hK _ _ ?_; clear hK K) | (refine wff fun K hK => ?_; go_simp; refine hK _ _ ?_; clear hK K)))
  refine First.wpF_must (fun K hK => ?_)
  go_wp2
  (refine hK _ _ (fun hnd => by first | exact Bool.noConfusion hnd | assumption | with_reducible (first | exact grown_alloc _ _ | exact First.Grown.refl _ | exact First.Grown.cat _ _ _ | exact First.Grown.ext _ _)) ?_; clear hK K)
  refine First.wpF_nil ?_
  rw [World.ext_ext] at hz1
  generalize Ext.cat X X1 = Y at *
  have hBY := hB.ext Y
  go_wp2
  refine bodyPost_cell (g := p + 1) (cs := #[.int .i64 op, .slice A1 r.length c1, .int .i64 f, .int .i64 t, .int .i64 s, .bool n]) Tryd.results9 rfl (Blk.six hBY) Tryd.underlying24 rfl (by kernel_rfl) rfl ⟨⟨.slice A1 r.length c1, rfl, rz_six hz1 hBY⟩, ?_⟩
  exact below_six (hb1.trans ((World.below_ext _ Y).mono hb1.size)) (by omega) _ _ _ _ _ _
set_option maxRecDepth 100000 in
set_option maxHeartbeats 8000000 in
theorem dsame_any (q : Qy) (u v : Value) (w : World) (hu : Rz w u q.r) (hv : Rz w v q.r) :
    Calls Tryd.prog 8 #[.agg #[.int .i64 q.op, u, .int .i64 q.f, .int .i64 q.t, .int .i64 q.s, .bool q.n], .agg #[.int .i64 q.op, v, .int .i64 q.f, .int .i64 q.t, .int .i64 q.s, .bool q.n]] w fun e w' => e = .returned (.bool true) ∧ Below w.heap.size w w' := by
  have hS := fun W h1 h2 => rsameR_any u v q.r W h1 h2
  have hu2 := fun o1 o2 => (hu.alloc o1).alloc o2
  have hv2 := fun o1 o2 => (hv.alloc o1).alloc o2
  obtain ⟨A, c, rfl⟩ := hu.shape
  obtain ⟨B, d, rfl⟩ := hv.shape
  obtain ⟨op, r, f, t, s, n⟩ := q
  dsimp only at *
  go_enter Tryd.func8, Tryd.ntmps8
  go_wp2_with (go_at_call 22; with_reducible refine (hS _ (hu2 _ _) (hv2 _ _)).mono ?_; rintro e w' ⟨rfl, hb⟩; obtain ⟨X, rfl⟩ := World.ext_of_below hb; clear hb)
  go_ret
  exact ⟨by simp, by (repeat' (first | with_reducible (first | exact Below.refl _ _ | refine Below.ext ?_ ?_ _ | refine Below.alloc ?_ ?_ _ | refine Below.setCell ?_ ?_ _ | refine Below.drew ?_ | assumption) | (simp [World.size_ext]; done) | (simp [World.size_ext]; omega)))⟩
def exT : ByteArray := ⟨#[115, 117, 109, 123, 97, 61, 34, 49, 34, 125, 32, 48, 32, 49, 48, 32, 53, 32, 110, 111, 116, 101, 115]⟩
def exU : ByteArray := ⟨#[115, 117, 109, 123, 125, 32, 48, 32, 49, 48]⟩
theorem exT_par : (parQ exT.data.toList).e = 0 ∧ (parQ exT.data.toList).q.op = 1 ∧ (parQ exT.data.toList).q.n = true ∧ (parQ exT.data.toList).q.s = 5 := by decide +kernel
theorem exU_par : (parQ exU.data.toList).e = 90 := by decide +kernel
set_option maxRecDepth 100000 in
set_option maxHeartbeats 8000000 in
theorem qawake_any (w : World) (hx : Sx w) : Calls Tryd.prog 10 #[] w fun e w' => e = .returned (.bool true) ∧ Below w.heap.size w w' := by
  have h1 := aparse_any exT w hx
  have h2 := fun W h => aparse_any exU W h
  obtain ⟨e1, e2, e3, e4⟩ := exT_par
  rw [exU_par] at h2
  rw [e1, e2, e3, e4] at h1
  unfold exT at h1
  unfold exU at h2
  generalize (parQ _).q.f = x1 at h1
  generalize (parQ _).q.t = x2 at h1
  generalize (parQ _).q.r = r1 at h1
  clear e1 e2 e3 e4
  generalize (parQ _).q = qU at h2
  have hxa : ∀ (W : World) o, Below w.heap.size w W → Sx (W.alloc o) := fun W o h => hx.below (h.alloc h.size _)
  go_enter Tryd.func10, Tryd.ntmps10
  go_wp2_with (first
    | (go_at_call 7; (with_reducible refine h1.mono ?_); rintro e w1 ⟨⟨u, rfl, hZ⟩, hb1⟩; obtain ⟨A, c, rfl⟩ := hZ.shape; have hs1 := hb1.size)
    | (go_at_call 7; (with_reducible refine (h2 _ (hxa _ _ hb1)).mono ?_); rintro e w2 ⟨⟨u2, rfl, hZ2⟩, hb2⟩; obtain ⟨A2, c2, rfl⟩ := hZ2.shape; obtain ⟨X, rfl⟩ := World.ext_of_below hb2; clear hb2))
  go_ret
  exact ⟨by rfl, by (repeat' (first | with_reducible (first | exact Below.refl _ _ | refine Below.ext ?_ ?_ _ | refine Below.alloc ?_ ?_ _ | refine Below.setCell ?_ ?_ _ | refine Below.drew ?_ | assumption) | (simp [World.size_ext]; done) | (simp [World.size_ext]; omega)))⟩
end Go.Proofs.YtamnononemallaaDoor

