import Derived.Test.YtjhcgnmibnjocaaY28
/-! The law's entries as the program's. -/
namespace Go.Proofs.Ytjhcgnmibnjocaa
open Go.RowKit Go.Maps
set_option linter.unusedVariables false
set_option linter.unusedSimpArgs false
theorem run_copyU_grown {T : Nat → Prop} {w w' : World} {u v : Value} {t : List Nat} (h : Bsl w T u t) (hn : t.length ≤ 1000000)
    (hr : (Builtin.append_ #[32, 32] 32 #[.slice (some ⟨w.heap.size, 0, none⟩) 0 0, u]).run Try.prog (w.alloc (.cells #[] 5)) = .ok v w') : First.Grown (w.alloc (.cells #[] 5)) w' := by
  obtain ⟨A, c, rfl, hR, hnil⟩ := h.exR
  obtain ⟨i0, hi, hz0, hz1, hz2⟩ := info_parts infoU8
  rcases Nat.eq_zero_or_pos t.length with h0 | h0
  · obtain rfl : t = [] := List.eq_nil_of_length_eq_zero h0
    have hs : Src Try.prog i0.size 32 (.slice A 0 c) 0 [] (w.alloc (.cells #[] 5)) := by
      cases A with
      | none => exact Src.ofNil _ Try.underlying32 c
      | some ad => exact Src.ofSlice _ Try.underlying32 ad 0 c [] (by simp) (fun j u hu => by cases hu) (fun u hu => by cases hu)
    have h2 := run_append_room_src (P := Try.prog) (w.alloc (.cells #[] 5)) 32 32 32 5 i0 Try.underlying32 hi w.heap.size 0 0 0 (.slice A 0 c) 0 [] hs (Nat.le_refl _) (fun j hj => by cases hj) (fun j hj => by cases hj)
    simp only [List.length_nil] at hr
    rw [hr] at h2
    injection h2 with _ h3
    rw [h3]
    exact First.Grown.refl _
  · obtain ⟨ad, rfl, hb, hc⟩ := hR.2 h0
    have h2 := run_append_grow (P := Try.prog) (w.alloc (.cells #[] 5)) 32 32 5 i0 (.int .u8 0) Try.underlying32 hi hz0 ⟨w.heap.size, 0, none⟩ 0 0 [] (by simp) (fun j u hu => by cases hu) ad t.length c (u8s t) (by rw [u8s_length, hz1, Nat.mul_one])
      (fun j u hu => by rw [World.cell?_alloc_lt w _ _ (by rw [block_of_add]; exact hb)]; exact hc j u hu) (by omega) (by omega) (growslice_fits (by omega) (by rw [hz2]; omega))
    rw [hr] at h2
    injection h2 with _ h3
    rw [h3]
    have hbb : Below (w.alloc (.cells #[] 5)).heap.size (w.alloc (.cells #[] 5)) (w.alloc (.cells #[] 5)).drew := Below.drew (Below.refl _ _)
    exact World.ext_of_below (hbb.alloc (Nat.le_refl _) _)
theorem own_ge {w : World} {T : Nat → Prop} {base : Nat} {v : Value} {l : List Ent} (h : OwnE w T base v l) : ∀ k, v.ownBlock = some k → base ≤ k ∧ k < w.heap.size := fun k hk => by
  obtain ⟨ms, _, ho, _⟩ := h
  obtain ⟨A, c, rfl, _⟩ := own_sl ho
  cases A with
  | none => cases hk
  | some ad => cases hk; exact own_addr ho _ rfl
theorem Chg.low {w w' : World} {base : Nat} {v v' : Value} (h : Chg w w' v v') (hv : ∀ k, v.ownBlock = some k → base ≤ k) (hb : base ≤ w.heap.size) : Below base w w' :=
  ⟨h.os, h.tape, h.output, h.size, fun k hk => h.block k (by omega) (fun e => by have := hv k e; omega)⟩
set_option maxRecDepth 100000 in
set_option maxHeartbeats 4000000 in
theorem entries_any {T : Nat → Prop} (A : Option Addr) (n c : Nat) (l : List Ent) (w : World) (h : Ents w T A n l) (hn : n ≤ 4096) :
    Calls Try.prog 53 #[.slice A n c] w fun e w' => ∃ A1 c1, e = .returned (.slice A1 n c1) ∧ OwnE w' (Old w.heap.size (.slice A1 n c1)) w.heap.size (.slice A1 n c1) l ∧ Below w.heap.size w w' := by
  have hln := h.len
  go_enter Try.func53, Try.ntmps53
  go_wp2
  go_loopw [3, 8] (fun vo vi wr => ∃ j : Nat, j ≤ n ∧ vi = .int .i64 (j : Int) ∧ OwnE wr (Old w.heap.size vo) w.heap.size vo (l.take j) ∧ Below w.heap.size w wr) (fun _ vi _ => ((n : Int) - intOf vi).toNat)
  case atStart => exact ⟨0, by omega, rfl, OwnE.nil _ _ _, Below.refl _ _⟩
  case round =>
    obtain ⟨j, hj, rfl, hO, hb⟩ := hrel
    obtain ⟨wo, rfl⟩ : ∃ wo : World, wo = wr := ⟨_, rfl⟩
    have hso := hb.size
    by_cases hlt : j < n
    · have hlj : (j : Int) < n := by omega
      obtain ⟨⟨ms, hms, hr, hm⟩, _, _⟩ := h.kp (Kp.of_below hb)
      have hml : ms.length = n := by rw [← hln, ← hms, List.length_map]
      obtain ⟨b, o, rfl, hbl, hcc⟩ := hr.plain (by omega) (by omega)
      have hjm : j < ms.length := by omega
      have hg : ms[j]? = some (ms[j]'hjm) := List.getElem?_eq_getElem hjm
      have hx : l[j]? = some (ms[j]'hjm).x := by rw [← hms, List.getElem?_map, hg]; rfl
      have m1 := hcc _ _ (emV_get hg).1
      have m2 := hcc _ _ (emV_get hg).2
      rw [← Nat.add_assoc] at m2
      obtain ⟨hbs, hok⟩ := hm _ (List.getElem_mem hjm)
      generalize ms[j]'hjm = y at *
      obtain ⟨ya, yv⟩ := y
      simp only at m1 m2 hx hbs hok
      obtain ⟨vA, vn, vc, hv⟩ := hbs.sl
      have htk : l.take (j + 1) = l.take j ++ [ya] := by rw [List.take_add_one, hx]; rfl
      have hge := own_ge hO
      have hB0 : Below wo.heap.size wo (wo.alloc (.cells #[.int .i64 ya.e, yv] 97)) := Below.alloc (Below.refl _ _) (Nat.le_refl _) _
      have hP := Blk.new wo 97 #[.int .i64 ya.e, yv]
      have HO := hide (⟨hO, htk, hge, hx⟩ : _ ∧ _ ∧ _ ∧ _)
      clear hr hm hcc hg hms hjm htk hge hx
      rw [hv] at m2 hP hB0
      have hB0' := hB0
      go_wp2
      refine wp_region_kp (fun k => u3.ownBlock = some k ∨ wo.heap.size + 1 ≤ k) [2, 5] [0, 1, 4, 7] [(true, false, 0), (true, false, 1), (true, true, 2), (true, false, 4), (true, true, 5), (false, true, 3), (false, true, 6), (true, false, 7), (false, true, 8), (false, true, 9), (false, false, 10)] (by kernel_rfl) (by kernel_rfl) (fun X => ?_); simp only [List.map_cons, List.map_nil, List.getD_cons_zero, List.getD_cons_succ]
      have hnP : ¬(u3.ownBlock = some wo.heap.size ∨ wo.heap.size + 1 ≤ wo.heap.size) := fun e => e.elim (fun e => by have := (HO.out.2.2.1 _ e).2; omega) (fun e => by omega)
      have hbX : Below wo.heap.size wo ((wo.alloc (.cells #[.int .i64 ya.e, .slice vA vn vc] 97)).ext X) := hB0'.trans ((World.below_ext _ X).mono (by simp))
      have hBX := (hbs.kp (Kp.of_below hbX))
      rw [hv] at hBX
      obtain ⟨v3, w3, hap, hr3, hb3⟩ := run_copyU _ _ _ hBX (by have := hok.n; omega)
      obtain ⟨A3, n3, c3, rfl⟩ := hr3.shape
      have hgr := run_copyU_grown hBX (by have := hok.n; omega) hap
      simp only [World.size_ext, World.size_alloc] at hap
      (repeat (first | (refine First.wpF_pure (fun K hK => ?_); go_simp; first | (refine hK _ _ ?_; clear hK K) | (apply Exists.intro; refine ⟨fun _ => ?_, hK _ _ ?_⟩; fail)) | (refine First.wpF_free (fun K hK => ?_); go_simp; first | (refine hK _ _ ?_; clear hK K))))
      (refine first_readG rfl (v := .int .i64 ya.e) (fun w' hw' => ?_) (fun K hK => ?_); rotate_left 1; go_simp; refine hK _ _ ?_; clear hK K; rotate_left 1; (have hB' := Blk.kp (Blk.ext hP _) hw' hnP; have c' := Blk.cell hB'; go_simp))
      (repeat (first | (refine First.wpF_pure (fun K hK => ?_); go_simp; first | (refine hK _ _ ?_; clear hK K) | (apply Exists.intro; refine ⟨fun _ => ?_, hK _ _ ?_⟩; fail)) | (refine First.wpF_free (fun K hK => ?_); go_simp; first | (refine hK _ _ ?_; clear hK K))))
      (refine first_readG rfl (v := .slice vA vn vc) (fun w' hw' => ?_) (fun K hK => ?_); rotate_left 1; go_simp; refine hK _ _ ?_; clear hK K; rotate_left 1; (have hB' := Blk.kp (Blk.ext hP _) hw' hnP; have c' := Blk.cell hB'; go_simp))
      (repeat (first | (refine First.wpF_pure (fun K hK => ?_); go_simp; first | (refine hK _ _ ?_; clear hK K) | (apply Exists.intro; refine ⟨fun _ => ?_, hK _ _ ?_⟩; fail)) | (refine First.wpF_free (fun K hK => ?_); go_simp; first | (refine hK _ _ ?_; clear hK K))))
      refine First.wpF_must (fun K hK => ?_)
      go_wp2
      (refine hK _ _ (fun _ => Kp.of_below (Below.alloc (Below.refl _ _) (Nat.le_refl _) _)) ?_; clear hK K)
      (repeat (first | (refine First.wpF_pure (fun K hK => ?_); go_simp; first | (refine hK _ _ ?_; clear hK K) | (apply Exists.intro; refine ⟨fun _ => ?_, hK _ _ ?_⟩; fail)) | (refine First.wpF_free (fun K hK => ?_); go_simp; first | (refine hK _ _ ?_; clear hK K))))
      refine First.wpF_must (fun K hK => ?_)
      go_wp2_with (at_builtin; refine wpList_append_run rfl _ _ 32 rfl rfl rfl hap ?_)
      (refine hK _ _ (fun _ => Kp.of_below (by obtain ⟨Y, hY⟩ := hgr; rw [hY]; exact World.below_ext _ _)) ?_; clear hK K)
      (repeat (first | (refine First.wpF_pure (fun K hK => ?_); go_simp; first | (refine hK _ _ ?_; clear hK K) | (apply Exists.intro; refine ⟨fun _ => ?_, hK _ _ ?_⟩; fail)) | (refine First.wpF_free (fun K hK => ?_); go_simp; first | (refine hK _ _ ?_; clear hK K))))
      refine First.wpF_must (fun K hK => ?_)
      go_wp2
      (refine hK _ _ (fun _ => Kp.of_below (Below.alloc (Below.refl _ _) (Nat.le_refl _) _)) ?_; clear hK K)
      (repeat (first | (refine First.wpF_pure (fun K hK => ?_); go_simp; first | (refine hK _ _ ?_; clear hK K) | (apply Exists.intro; refine ⟨fun _ => ?_, hK _ _ ?_⟩; fail)) | (refine First.wpF_free (fun K hK => ?_); go_simp; first | (refine hK _ _ ?_; clear hK K))))
      obtain ⟨hO, htk, hge, hx⟩ := HO.out
      have hs3 := hb3.size
      simp only [World.size_ext, World.size_alloc] at hs3
      have hO3 := (hO.below hbX).below hb3
      have hbT : Bsl w3 (Old w.heap.size u3) (.slice A3 n3 c3) ya.t := (Bsl.row hr3 (fun k hk => hk) hbs.by_).sub fun k _ hk => by
        simp only [World.size_ext, World.size_alloc]
        rcases hk with hk | hk
        · omega
        · have := (hge k hk).2
          omega
      have hbw3 : Below wo.heap.size wo w3 := hbX.trans (hb3.mono (by simp only [World.size_ext, World.size_alloc]; omega))
      have hkpo : ∀ (w4 : World) (v' : Value), Chg w3 w4 u3 v' → w3.heap.size + 1 ≤ w4.heap.size → Kp (fun k => u3.ownBlock = some k ∨ wo.heap.size + 1 ≤ k) (w3.alloc (.cells #[.int .i64 ya.e, .slice A3 n3 c3] 103)) w4 := fun w4 v' hc hs =>
        ⟨hc.os, hc.tape, hc.output, by simpa using hs, fun k hk hn => by
          rcases Nat.lt_or_ge k w3.heap.size with h | h
          · exact (hc.block k h (fun e => hn (.inl e))).trans (Below.heap_alloc _ _ k h).symm
          · exact absurd (.inr (by omega)) hn⟩
      refine First.wpF_must (fun K hK => ?_)
      go_wp2_with (at_builtin; refine app_ent rfl (.tmp 12) (.tmp 20) rfl (Old w.heap.size u3) w.heap.size u3 (l.take j) ⟨ya, .slice A3 n3 c3⟩ _ rfl rfl hO3 ⟨hbT, hok⟩ (fun k hk => .inr hk) _ rfl rfl (by rw [List.length_take]; omega) (by omega) (fun v' w4 ho4 hc4 hs4 => ?_); have hkp := hkpo w4 v' hc4 hs4)
      (refine hK _ _ (fun _ => hkp) ?_; clear hK K)
      (repeat (first | (refine First.wpF_pure (fun K hK => ?_); go_simp; first | (refine hK _ _ ?_; clear hK K) | (apply Exists.intro; refine ⟨fun _ => ?_, hK _ _ ?_⟩; fail)) | (refine First.wpF_free (fun K hK => ?_); go_simp; first | (refine hK _ _ ?_; clear hK K))))
      refine First.wpF_must (fun K hK => ?_)
      go_wp2
      (refine hK _ _ (fun _ => Kp.refl _ _) ?_; clear hK K)
      refine First.wpF_nil ?_
      go_wp2
      go_roundw
      case rel =>
        refine ⟨j + 1, by omega, by go_num, ?_, ?_⟩
        · rw [htk]
          exact ho4.sub fun k _ hk => hk.elim (fun h => .inl (.inl h)) .inr
        · exact (hb.trans (hbw3.mono hso)).trans (hc4.low (fun k hk => (hge k hk).1) (by omega))
      case measure => simp [intOf]; omega
    · obtain rfl : j = n := by omega
      rw [← hln, List.take_length] at hO
      obtain ⟨ms, _, ho, _⟩ := id hO
      obtain ⟨A1, c1, rfl, _⟩ := own_sl ho
      clear ho
      go_wp2
      go_ret
      rw [← hln]
      exact ⟨A1, c1, rfl, hO, hb⟩
end Go.Proofs.Ytjhcgnmibnjocaa
