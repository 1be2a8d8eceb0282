import Derived.Test.YtjhcgnmibnjocaaY41
/-! A log's bytes: the document's. -/
namespace Go.Proofs.Ytjhcgnmibnjocaa
open Go.RowKit Go.Maps
set_option linter.unusedVariables false
set_option linter.unusedSimpArgs false
theorem Kp.of_low {base : Nat} {w w' : World} (h : Below base w w') : Kp (fun k => base ≤ k) w w' := ⟨h.os, h.tape, h.output, h.size, fun k _ hk => h.block k (by omega)⟩
set_option maxRecDepth 100000 in
set_option maxHeartbeats 4000000 in
theorem dputLog_any (base : Nat) (v : Value) (xs : List Nat) (A : Option Addr) (n c : Nat) (l : List Ent) (w : World) (hw : Row w base v xs) (hbase : base ≤ w.heap.size) (h : Ents w (fun k => base ≤ k) A n l) (hn : n ≤ 4096) (hlen : xs.length ≤ 1000) :
    Calls Try.prog 71 #[v, .slice A n c] w fun r w' => (∃ v', r = .returned v' ∧ Row w' base v' (xs ++ logB l)) ∧ Below base w w' := by
  have hln := h.len
  have hok := h.okAll
  have l3 := numB_le n (by omega)
  have k1 : IntKind.u64.wrap (n : Int) = (n : Int) := by show (n : Int) % 18446744073709551616 = _; omega
  have hu : U64 (n : Int) := by unfold U64; omega
  have hN := rnum_any base v xs (n : Int) w hw hbase hu (by omega)
  rw [Int.toNat_natCast] at hN
  obtain ⟨vA, vc, rfl, _⟩ := own_sl hw
  go_enter Try.func71, Try.ntmps71
  go_wp2_with (go_at_call 105; (with_reducible refine hN.mono ?_); rintro r w1 ⟨v1, rfl, hr1, hc1⟩; have hb1 := Chg.below hc1 hw hbase)
  clear hN
  go_loopw [0, 5] (fun vu vi wr => ∃ j : Nat, j ≤ n ∧ vi = .int .i64 (j : Int) ∧ Row wr base vu (xs ++ numB n ++ entsB (l.take j)) ∧ Below base w wr) (fun _ vi _ => ((n : Int) - intOf vi).toNat)
  case atStart => exact ⟨0, by omega, rfl, by simpa [entsB] using hr1, hb1⟩
  case round =>
    clear hr1 hc1 hb1
    obtain ⟨j, hj, rfl, hu', hb⟩ := hrel
    obtain ⟨wo, rfl⟩ : ∃ wo : World, wo = wr := ⟨_, rfl⟩
    have hs0 := hb.size
    have htl := entsB_le (l := l.take j) (fun x hx => hok x (List.mem_of_mem_take hx))
    have htk : (l.take j).length ≤ 4096 := by rw [List.length_take]; omega
    by_cases hlt : j < n
    · have hK := Kp.of_low hb
      have hE := h.kp hK
      obtain ⟨b, o, A2, c2, x, rfl, hbl, hg, hxo, m1, m2, hB⟩ := hE.at_ hlt
      have hnT : ¬base ≤ b := hE.nt (by omega) _ rfl
      have hlj : (j : Int) < n := by omega
      have hT := hide (entsB_take hg)
      have hxn := hxo.n
      have hxe := numB_le _ (zig_lt _ hxo.e)
      have hst : (strOf x.t).size = x.t.length := strOf_size _
      have hbw := fun w' (h' : Below base wo w') => h'
      clear hE hg
      go_wp2
      refine wp_region_below base [5, 11, 12] [0, 1, 2, 3, 4, 7, 8, 9, 10] [(true, false, 0), (true, false, 1), (true, false, 2), (true, false, 3), (true, false, 4), (true, true, 5), (true, false, 7), (true, false, 8), (true, false, 9), (true, false, 10), (true, true, 11), (true, true, 12), (false, true, 6), (false, false, 13), (false, false, 14)] (by kernel_rfl) (by kernel_rfl) (fun Y => ?_); simp only [List.map_cons, List.map_nil, List.getD_cons_zero, List.getD_cons_succ]
      have hbY : Below base wo (wo.ext Y) := (World.below_ext wo Y).mono (by omega)
      have hrY : Row (wo.ext Y) base u0 (xs ++ numB n ++ entsB (l.take j)) := own_keep hu' (w' := wo.ext Y) (fun k _ hk => (World.below_ext wo Y).block k hk)
      have M1 : ∀ w', Below base (wo.ext Y) w' → w'.cell? ⟨b, o + j * 2, none⟩ = some (.int .i64 x.e) := fun w' hw' => ((hbY.trans hw').cell (p := ⟨b, _, none⟩) (by show b < base; omega)).trans m1
      have M2 : ∀ w', Below base (wo.ext Y) w' → w'.cell? ⟨b, o + j * 2 + 1, none⟩ = some (.slice A2 x.t.length c2) := fun w' hw' => ((hbY.trans hw').cell (p := ⟨b, _, none⟩) (by show b < base; omega)).trans m2
      have M3 : ∀ w', Below base (wo.ext Y) w' → (convert 32 9 (.slice A2 x.t.length c2)).run Try.prog w' = .ok (.string (strOf x.t)) w' := fun w' hw' => (hB.kp (Kp.of_low (hbY.trans hw'))).conv
      (repeat (first | (refine First.wpF_pure (fun K hK => ?_); go_simp; first | (refine hK _ _ ?_; clear hK K) | (apply Exists.intro; refine ⟨fun _ => ?_, hK _ _ ?_⟩; fail)) | (refine First.wpF_free (fun K hK => ?_); go_simp; first | (refine hK _ _ ?_; clear hK K))))
      (refine first_readG rfl (v := .int .i64 x.e) (fun w' hw' => ?_) (fun K hK => ?_); rotate_left 1; go_simp; refine hK _ _ ?_; clear hK K; rotate_left 1; (have q1 := M1 w' hw'; go_simp))
      (repeat (first | (refine First.wpF_pure (fun K hK => ?_); go_simp; first | (refine hK _ _ ?_; clear hK K) | (apply Exists.intro; refine ⟨fun _ => ?_, hK _ _ ?_⟩; fail)) | (refine First.wpF_free (fun K hK => ?_); go_simp; first | (refine hK _ _ ?_; clear hK K))))
      (refine first_readG rfl (v := .slice A2 x.t.length c2) (fun w' hw' => ?_) (fun K hK => ?_); rotate_left 1; go_simp; refine hK _ _ ?_; clear hK K; rotate_left 1; (have q2 := M2 w' hw'; go_simp))
      (repeat (first | (refine First.wpF_pure (fun K hK => ?_); go_simp; first | (refine hK _ _ ?_; clear hK K) | (apply Exists.intro; refine ⟨fun _ => ?_, hK _ _ ?_⟩; fail)) | (refine First.wpF_free (fun K hK => ?_); go_simp; first | (refine hK _ _ ?_; clear hK K))))
      (refine first_readG rfl (v := .string (strOf x.t)) (fun w' hw' => ?_) (fun K hK => ?_); rotate_left 1; go_simp; refine hK _ _ ?_; clear hK K; rotate_left 1; (have q3 := M3 w' hw'; go_simp))
      (repeat (first | (refine First.wpF_pure (fun K hK => ?_); go_simp; first | (refine hK _ _ ?_; clear hK K) | (apply Exists.intro; refine ⟨fun _ => ?_, hK _ _ ?_⟩; fail)) | (refine First.wpF_free (fun K hK => ?_); go_simp; first | (refine hK _ _ ?_; clear hK K))))
      have hsY := hbY.size
      refine First.wpF_must (fun K hK => ?_)
      go_wp2_with (go_at_call 69; (with_reducible refine (rint_any base _ _ x.e (wo.ext Y) hrY (by omega) hxo.e (by simp only [List.length_append]; omega)).mono ?_); rintro r w5 ⟨v5, rfl, hr5, hc5⟩; have hb5 := Chg.below hc5 hrY (by omega))
      (refine hK _ _ (fun _ => hb5) ?_; clear hK K)
      (repeat (first | (refine First.wpF_pure (fun K hK => ?_); go_simp; first | (refine hK _ _ ?_; clear hK K) | (apply Exists.intro; refine ⟨fun _ => ?_, hK _ _ ?_⟩; fail)) | (refine First.wpF_free (fun K hK => ?_); go_simp; first | (refine hK _ _ ?_; clear hK K))))
      have hs5 := hb5.size
      refine First.wpF_must (fun K hK => ?_)
      go_wp2_with (go_at_call 106; (with_reducible refine (rtext_any base _ _ (strOf x.t) w5 hr5 (by omega) (by simp only [List.length_append]; omega)).mono ?_); rintro r w6 ⟨v6, rfl, hr6, hc6⟩; have hb6 := Chg.below hc6 hr5 (by omega))
      (refine hK _ _ (fun _ => hb6) ?_; clear hK K)
      (repeat (first | (refine First.wpF_pure (fun K hK => ?_); go_simp; first | (refine hK _ _ ?_; clear hK K) | (apply Exists.intro; refine ⟨fun _ => ?_, hK _ _ ?_⟩; fail)) | (refine First.wpF_free (fun K hK => ?_); go_simp; first | (refine hK _ _ ?_; clear hK K))))
      refine First.wpF_must (fun K hK => ?_)
      go_wp2
      (refine hK _ _ (fun _ => Below.refl _ _) ?_; clear hK K)
      refine First.wpF_nil ?_
      go_wp2
      go_roundw
      case rel =>
        refine ⟨j + 1, by omega, by go_num, ?_, ((hb.trans hbY).trans hb5).trans hb6⟩
        rw [textB_str hxo.by_] at hr6
        rw [hT.out]
        simpa [entB, List.append_assoc] using hr6
      case measure => simp [intOf]; omega
    · obtain rfl : j = n := by omega
      go_wp2
      go_ret
      refine ⟨⟨_, rfl, ?_⟩, hb⟩
      rw [List.take_of_length_le (by omega)] at hu'
      simpa [logB, List.append_assoc, hln] using hu'
end Go.Proofs.Ytjhcgnmibnjocaa
