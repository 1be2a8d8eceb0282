import Derived.Test.YtfcpohhfpdhhiaaOps
/-! A clock's steps, as a function in the program takes them. -/
namespace Go.Proofs.Ytfcpohhfpdhhiaa
open Go.RowKit
set_option linter.unusedVariables false
set_option linter.unusedSimpArgs false
def givenP (k : Ck) (x : Op5) : Ans := if x.kind = 0 then nowP k x.phys else if x.kind = 1 then updP k x.phys x.a x.b x.c else ⟨0, 0, 0, 6, (raiseP k x.phys).2⟩
theorem raiseP_up (k : Ck) (u : Int) : (raiseP k u).2.off = k.off ∧ k.up ≤ (raiseP k u).2.up ∧ (raiseP k u).2.a = k.a ∧ (raiseP k u).2.b = k.b := by
  unfold raiseP
  split
  · exact ⟨rfl, Int.le_refl _, rfl, rfl⟩
  · exact ⟨rfl, by simp only; omega, rfl, rfl⟩
theorem givenP_ok {k : Ck} (hk : k.ok) {x : Op5} (hx : x.ok) : (givenP k x).k.ok ∧ (givenP k x).k.off = k.off ∧ k.up ≤ (givenP k x).k.up := by
  obtain ⟨o1, o2, o3, o4⟩ := hx
  unfold givenP
  split
  · have := nowP_ok hk x.phys
    exact ⟨this.1, this.2.1, by rw [this.2.2.1]; exact Int.le_refl _⟩
  · split
    · have := updP_ok hk x.phys x.a x.b x.c o3
      exact ⟨this.1, this.2.1, by rw [this.2.2.1]; exact Int.le_refl _⟩
    · have := raiseP_up k x.phys
      exact ⟨raiseP_ok hk x.phys, this.1, this.2.1⟩
theorem givenP_zero {k : Ck} (hk : k.ok) {x : Op5} (hx : x.ok) (h : (givenP k x).e = 0) : Gives k x.phys k.a k.b (givenP k x) := by
  obtain ⟨o1, o2, o3, o4⟩ := hx
  unfold givenP at *
  split at h
  · rename_i h0
    rw [if_pos h0]
    exact nowP_zero hk h
  · rename_i h0
    rw [if_neg h0]
    split at h
    · rename_i h1
      rw [if_pos h1]
      exact (updP_zero hk o3 h).1
    · simp at h
theorem givenP_not {k : Ck} {x : Op5} (h : (givenP k x).e ≠ 0) : (givenP k x).k.a = k.a ∧ (givenP k x).k.b = k.b := by
  unfold givenP at *
  split at h
  · rename_i h0
    rw [if_pos h0, nowP_not h]
    exact ⟨rfl, rfl⟩
  · rename_i h0
    rw [if_neg h0]
    split at h
    · rename_i h1
      rw [if_pos h1, updP_not h]
      exact ⟨rfl, rfl⟩
    · rename_i h1
      rw [if_neg h1]
      exact (raiseP_up k x.phys).2.2
set_option maxRecDepth 100000 in
set_option maxHeartbeats 1000000 in
theorem given_any (g : Nat) (k : Ck) (x : Op5) (w : World) (hk : Blk w g 58 k.cells) (hko : k.ok) (hxo : x.ok) :
    Calls Try.prog 16 #[.pointer (some ⟨g, 0, none⟩), .agg #[.int .i64 x.kind, .int .i64 x.phys, .int .i64 x.a, .int .u32 x.b, .int .u32 x.c]] w fun e w' => e = .returned (.tuple #[.agg #[.int .i64 (givenP k x).x, .int .u32 (givenP k x).y, .int .u32 (givenP k x).z], .int .i64 (givenP k x).e]) ∧ Blk w' g 58 (givenP k x).k.cells ∧ Only w w' g := by
  obtain ⟨xk, xp, xa, xb, xc⟩ := x
  obtain ⟨o1, o2, o3, o4⟩ := hxo
  simp only at *
  have l0 := Blk.lt hk
  have n1 : w.heap.size ≠ g := by omega
  have n2 : w.heap.size + 1 ≠ g := by omega
  have n3 : g ≠ w.heap.size := by omega
  have n4 : g ≠ w.heap.size + 1 := by omega
  have hO := Blk.alloc (Blk.new w 33 #[.int .i64 xk, .int .i64 xp, .int .i64 xa, .int .u32 xb, .int .u32 xc]) (.cells #[.int .i64 0, .int .u32 0, .int .u32 0] 30)
  have hR := Blk.made w (.cells #[.int .i64 xk, .int .i64 xp, .int .i64 xa, .int .u32 xb, .int .u32 xc] 33) 30 #[.int .i64 0, .int .u32 0, .int .u32 0]
  by_cases k0 : xk = 0
  · subst k0
    have e1 : givenP k ⟨0, xp, xa, xb, xc⟩ = nowP k xp := by simp [givenP]
    rw [e1]
    have hn : ∀ W, Blk W g 58 k.cells → _ := fun W hW => now_any g k xp W hW hko
    generalize nowP k xp = r at *
    go_enter Try.func16, Try.ntmps16
    go_wp2_with (go_at_call 9; (with_reducible refine Calls.mono (hn _ ?hkk) ?_); (case hkk => (repeat' (first | with_reducible exact hk | with_reducible refine Blk.ext ?_ _ | with_reducible refine Blk.alloc ?_ _ | with_reducible apply Blk.set_to | with_reducible refine Blk.far ?_ ?_ _ | rfl | (simp [World.size_ext]; done) | (simp [World.size_ext]; omega)))); rintro e w2 ⟨rfl, hk2, ho2⟩; have hR2 := Blk.only hR ho2 n2; have d2 := Blk.cell hR2; have g2 := Blk.frozen hR2; have ls2 := Blk.lt hR2; have s2 := ho2.size)
    refine bodyPost_cell_tmp Try.results16 rfl (Blk.three hR2) Try.underlying30 rfl (by kernel_rfl) rfl ⟨rfl, ?_, ?_⟩
    · (repeat' (first | with_reducible exact hk2 | with_reducible refine Blk.ext ?_ _ | with_reducible refine Blk.alloc ?_ _ | with_reducible apply Blk.set_to | with_reducible refine Blk.far ?_ ?_ _ | rfl | (simp [World.size_ext]; done) | (simp [World.size_ext]; omega)))
    · have h0 : Only w w2 g := (((Only.refl w g).alloc _).alloc _).trans ho2
      (repeat' (first | with_reducible exact h0 | with_reducible exact Only.refl _ _ | with_reducible refine Only.set_ ?_ ?_ _ | with_reducible refine Only.alloc ?_ _ | with_reducible refine Only.ext ?_ _ | exact .inl rfl | (right; first | omega | (simp [World.size_ext]; done) | (simp [World.size_ext]; omega))))
  · have k0' : (xk == 0) = false := by simpa using k0
    by_cases k1 : xk = 1
    · subst k1
      have e1 : givenP k ⟨1, xp, xa, xb, xc⟩ = updP k xp xa xb xc := by simp [givenP]
      rw [e1]
      have hn : ∀ W, Blk W g 58 k.cells → _ := fun W hW => upd_any g k xp xa xb xc W hW hko o1 o2 o3
      generalize updP k xp xa xb xc = r at *
      go_enter Try.func16, Try.ntmps16
      go_wp2
      refine First.wp_region_first_ext [2, 4] [0, 1, 3, 7, 8] [(true, false, 0), (true, false, 1), (true, true, 2), (true, false, 3), (true, true, 4), (false, true, 5), (false, false, 6), (true, false, 7), (true, false, 8), (false, false, 9), (false, false, 10)] (by kernel_rfl) (by kernel_rfl) (fun Y0 => ?_); simp only [List.map_cons, List.map_nil, List.getD_cons_zero, List.getD_cons_succ]
      (repeat (first | (refine First.wpF_pure (fun K hK => ?_); go_simp; first | (refine hK _ _ ?_; clear hK K) | (apply Exists.intro; refine ⟨fun _ => ?_, hK _ _ ?_⟩; fail)) | (refine First.wpF_free (fun K hK => ?_); go_simp; first | (refine hK _ _ ?_; clear hK K))))
      refine First.wpF_must (fun K hK => ?_)
      go_wp2_with (go_at_call 11; (with_reducible refine (to_any _ _ _ _).mono ?_); rintro e w1 ⟨rfl, hb1⟩)
      have hgr : First.Grown _ w1 := World.ext_of_below hb1
      have hk1 := Blk.below (Blk.ext (Blk.alloc (Blk.alloc hk _) _) Y0) hb1 (by simp [World.size_ext]; omega)
      have hR1 := Blk.below (Blk.ext hR Y0) hb1 (Blk.lt (Blk.ext hR Y0))
      (refine hK _ _ (fun hnd => by first | exact Bool.noConfusion hnd | assumption | with_reducible exact grown_alloc _ _ | with_reducible exact First.Grown.refl _ | with_reducible exact First.Grown.cat _ _ _ | with_reducible exact First.Grown.ext _ _) ?_; clear hK K)
      clear hgr
      (repeat (first | (refine First.wpF_pure (fun K hK => ?_); go_simp; first | (refine hK _ _ ?_; clear hK K) | (apply Exists.intro; refine ⟨fun _ => ?_, hK _ _ ?_⟩; fail)) | (refine First.wpF_free (fun K hK => ?_); go_simp; first | (refine hK _ _ ?_; clear hK K))))
      refine First.wpF_must (fun K hK => ?_)
      go_wp2_with (go_at_call 10; (with_reducible refine (hn _ hk1).mono ?_); rintro e w2 ⟨rfl, hk2, ho2⟩; have hR2 := Blk.only hR1 ho2 n2; have d2 := Blk.cell hR2; have g2 := Blk.frozen hR2; have ls2 := Blk.lt hR2; have s2 := ho2.size)
      (refine hK _ _ (fun hnd => by first | exact Bool.noConfusion hnd | assumption | with_reducible exact grown_alloc _ _ | with_reducible exact First.Grown.refl _ | with_reducible exact First.Grown.cat _ _ _ | with_reducible exact First.Grown.ext _ _) ?_; clear hK K)
      (repeat (first | (refine First.wpF_pure (fun K hK => ?_); go_simp; first | (refine hK _ _ ?_; clear hK K) | (apply Exists.intro; refine ⟨fun _ => ?_, hK _ _ ?_⟩; fail)) | (refine First.wpF_free (fun K hK => ?_); go_simp; first | (refine hK _ _ ?_; clear hK K))))
      refine First.wpF_must (fun K hK => ?_)
      go_wp2
      (refine hK _ _ (fun hnd => by first | exact Bool.noConfusion hnd | assumption | with_reducible exact grown_alloc _ _ | with_reducible exact First.Grown.refl _ | with_reducible exact First.Grown.cat _ _ _ | with_reducible exact First.Grown.ext _ _) ?_; clear hK K)
      (repeat (first | (refine First.wpF_pure (fun K hK => ?_); go_simp; first | (refine hK _ _ ?_; clear hK K) | (apply Exists.intro; refine ⟨fun _ => ?_, hK _ _ ?_⟩; fail)) | (refine First.wpF_free (fun K hK => ?_); go_simp; first | (refine hK _ _ ?_; clear hK K))))
      refine First.wpF_must (fun K hK => ?_)
      go_wp2
      (refine hK _ _ (fun hnd => by first | exact Bool.noConfusion hnd | assumption | with_reducible exact grown_alloc _ _ | with_reducible exact First.Grown.refl _ | with_reducible exact First.Grown.cat _ _ _ | with_reducible exact First.Grown.ext _ _) ?_; clear hK K)
      refine First.wpF_nil ?_
      go_wp2
      refine bodyPost_cell_tmp Try.results16 rfl (Blk.three hR2) Try.underlying30 rfl (by kernel_rfl) rfl ⟨rfl, ?_, ?_⟩
      · (repeat' (first | with_reducible exact hk2 | with_reducible refine Blk.ext ?_ _ | with_reducible refine Blk.alloc ?_ _ | with_reducible apply Blk.set_to | with_reducible refine Blk.far ?_ ?_ _ | rfl | (simp [World.size_ext]; done) | (simp [World.size_ext]; omega)))
      · have h0 : Only w w2 g := (((((Only.refl w g).alloc _).alloc _).ext Y0).trans (Only.of_below hb1)).trans ho2
        (repeat' (first | with_reducible exact h0 | with_reducible exact Only.refl _ _ | with_reducible refine Only.set_ ?_ ?_ _ | with_reducible refine Only.alloc ?_ _ | with_reducible refine Only.ext ?_ _ | exact .inl rfl | (right; first | omega | (simp [World.size_ext]; done) | (simp [World.size_ext]; omega))))
    · have k1' : (xk == 1) = false := by simpa using k1
      have e1 : givenP k ⟨xk, xp, xa, xb, xc⟩ = ⟨0, 0, 0, 6, (raiseP k xp).2⟩ := by simp [givenP, k0, k1]
      rw [e1]
      have hn : ∀ W, Blk W g 58 k.cells → _ := fun W hW => craise_any g k xp W hW
      go_enter Try.func16, Try.ntmps16
      go_wp2_with (go_at_call 13; (with_reducible refine Calls.mono (hn _ ?hkk) ?_); (case hkk => (repeat' (first | with_reducible exact hk | with_reducible refine Blk.ext ?_ _ | with_reducible refine Blk.alloc ?_ _ | with_reducible apply Blk.set_to | with_reducible refine Blk.far ?_ ?_ _ | rfl | (simp [World.size_ext]; done) | (simp [World.size_ext]; omega)))); rintro e w2 ⟨rfl, hk2, ho2⟩; have hR2 := Blk.only hR ho2 n2; have d2 := Blk.cell hR2; have g2 := Blk.frozen hR2; have ls2 := Blk.lt hR2; have s2 := ho2.size)
      refine bodyPost_cell_tmp (cs := #[.int .i64 0, .int .u32 0, .int .u32 0]) Try.results16 rfl (Blk.three hR2) Try.underlying30 rfl (by kernel_rfl) rfl ⟨rfl, ?_, ?_⟩
      · (repeat' (first | with_reducible exact hk2 | with_reducible refine Blk.ext ?_ _ | with_reducible refine Blk.alloc ?_ _ | with_reducible apply Blk.set_to | with_reducible refine Blk.far ?_ ?_ _ | rfl | (simp [World.size_ext]; done) | (simp [World.size_ext]; omega)))
      · have h0 : Only w w2 g := (((Only.refl w g).alloc _).alloc _).trans ho2
        (repeat' (first | with_reducible exact h0 | with_reducible exact Only.refl _ _ | with_reducible refine Only.set_ ?_ ?_ _ | with_reducible refine Only.alloc ?_ _ | with_reducible refine Only.ext ?_ _ | exact .inl rfl | (right; first | omega | (simp [World.size_ext]; done) | (simp [World.size_ext]; omega))))
end Go.Proofs.Ytfcpohhfpdhhiaa
