import Derived.Test.YtjhcgnmibnjocaaGreatW2
/-! A log's bytes, where the row that they go to may lie beside the log; the record of an entry. -/
namespace Go.Proofs.YtjhcgnmibnjocaaGreat
open Go.RowKit Go.Maps
set_option linter.unusedVariables false
set_option linter.unusedSimpArgs false
theorem Kp.of_chg {w w' : World} {v v' : Value} (B : Nat) (h : Chg w w' v v') : Kp (fun k => v.ownBlock = some k ∨ B ≤ k) w w' := ⟨h.os, h.tape, h.output, h.size, fun k hk hn => h.block k hk fun e => hn (.inl e)⟩
theorem Chg.of_ext (w : World) (Y : Ext) (v : Value) : Chg w (w.ext Y) v v := ⟨(World.below_ext w Y).os, (World.below_ext w Y).tape, (World.below_ext w Y).output, (World.below_ext w Y).size, fun k hk _ => (World.below_ext w Y).block k hk, .inl rfl⟩
set_option maxRecDepth 100000 in
set_option maxHeartbeats 4000000 in
theorem dputLogG_any (base : Nat) (v : Value) (xs : List Nat) (A : Option Addr) (n c : Nat) (l : List Ent) (w : World) (hw : Row w base v xs) (hbase : base ≤ w.heap.size) (h : Ents w (fun k => v.ownBlock = some k ∨ w.heap.size ≤ k) A n l) (hn : n ≤ 4096) (hlen : xs.length ≤ 1000) :
  Calls Tryz.prog 77 #[v, .slice A n c] w fun r w' => ∃ v', r = .returned v' ∧ Row w' base v' (xs ++ logB l) ∧ Chg w w' v v' := by
 have hln := h.len
 have hok := h.okAll
 have l3 := numB_le n (by omega)
 have k1 : IntKind.u64.wrap (n : Int) = (n : Int) := by show (n : Int) % 18446744073709551616 = _; omega
 have hu : U64 (n : Int) := by unfold U64; omega
 have hN := rnum_any base v xs (n : Int) w hw hbase hu (by omega)
 rw [Int.toNat_natCast] at hN
 obtain ⟨vA, vc, rfl, _⟩ := own_sl hw
 go_enter Tryz.func77, Tryz.ntmps77
 go_wp2_with (go_at_call 71; (with_reducible refine hN.mono ?_); rintro r w1 ⟨v1, rfl, hr1, hc1⟩)
 clear hN
 go_loopw [0, 5] (fun vu vi wr => ∃ j : Nat, j ≤ n ∧ vi = .int .i64 (j : Int) ∧ Row wr base vu (xs ++ numB n ++ entsB (l.take j)) ∧ Chg w wr (.slice vA xs.length vc) vu) (fun _ vi _ => ((n : Int) - intOf vi).toNat)
 case atStart => exact ⟨0, by omega, rfl, by simpa [entsB] using hr1, hc1⟩
 case round =>
  clear hr1 hc1
  obtain ⟨j, hj, rfl, hu', hb⟩ := hrel
  obtain ⟨wo, rfl⟩ : ∃ wo : World, wo = wr := ⟨_, rfl⟩
  have hs0 := hb.size
  have htl := entsB_le (l := l.take j) (fun x hx => hok x (List.mem_of_mem_take hx))
  have htk : (l.take j).length ≤ 4096 := by rw [List.length_take]; omega
  by_cases hlt : j < n
  ·have hE := h.kp (Kp.of_chg w.heap.size hb)
   obtain ⟨b, o, A2, c2, x, rfl, hbl, hg, hxo, m1, m2, hB⟩ := hE.at_ hlt
   have hnT := hE.nt (by omega) _ rfl
   have hTT : ∀ k, (u0.ownBlock = some k ∨ wo.heap.size ≤ k) → ((Value.slice vA xs.length vc).ownBlock = some k ∨ w.heap.size ≤ k) := fun k hk => by
    rcases hk with hk | hk
    ·rcases hb.lies with e | ⟨b2, e, hl2⟩
     ·exact .inl (e ▸ hk)
     ·rw [e] at hk; cases hk; exact .inr hl2
    ·exact .inr (by omega)
   have hnT' : ¬(u0.ownBlock = some b ∨ wo.heap.size ≤ b) := fun e => hnT (hTT b e)
   have hlj : (j : Int) < n := by omega
   have hT := hide (entsB_take hg)
   have hxn := hxo.n
   have hxe := numB_le _ (zig_lt _ hxo.e)
   have hst : (strOf x.t).size = x.t.length := strOf_size _
   clear hE hg
   go_wp2
   refine wp_region_kp (fun k => u0.ownBlock = some k ∨ wo.heap.size ≤ k) [5, 11, 12] [0, 1, 2, 3, 4, 7, 8, 9, 10] [(true, false, 0), (true, false, 1), (true, false, 2), (true, false, 3), (true, false, 4), (true, true, 5), (true, false, 7), (true, false, 8), (true, false, 9), (true, false, 10), (true, true, 11), (true, true, 12), (false, true, 6), (false, false, 13), (false, false, 14)] (by kernel_rfl) (by kernel_rfl) (fun Y => ?_); simp only [List.map_cons, List.map_nil, List.getD_cons_zero, List.getD_cons_succ]
   have hbY : Below wo.heap.size wo (wo.ext Y) := World.below_ext wo Y
   have hbl2 : b < (wo.ext Y).heap.size := Nat.lt_of_lt_of_le hbl hbY.size
   have hrY : Row (wo.ext Y) base u0 (xs ++ numB n ++ entsB (l.take j)) := own_keep hu' (w' := wo.ext Y) (fun k _ hk => (World.below_ext wo Y).block k hk)
   have M1 : ∀ w', Kp (fun k => u0.ownBlock = some k ∨ wo.heap.size ≤ k) (wo.ext Y) w' → w'.cell? ⟨b, o + j * 2, none⟩ = some (.int .i64 x.e) := fun w' hw' => ((hw'.cell (p := ⟨b, o + j * 2, none⟩) hbl2 hnT').trans (hbY.cell (p := ⟨b, o + j * 2, none⟩) hbl)).trans m1
   have M2 : ∀ w', Kp (fun k => u0.ownBlock = some k ∨ wo.heap.size ≤ k) (wo.ext Y) w' → w'.cell? ⟨b, o + j * 2 + 1, none⟩ = some (.slice A2 x.t.length c2) := fun w' hw' => ((hw'.cell (p := ⟨b, o + j * 2 + 1, none⟩) hbl2 hnT').trans (hbY.cell (p := ⟨b, o + j * 2 + 1, none⟩) hbl)).trans m2
   have M3 : ∀ w', Kp (fun k => u0.ownBlock = some k ∨ wo.heap.size ≤ k) (wo.ext Y) w' → (convert 36 9 (.slice A2 x.t.length c2)).run Tryz.prog w' = .ok (.string (strOf x.t)) w' := fun w' hw' => ((hB.sub (T' := fun k => u0.ownBlock = some k ∨ wo.heap.size ≤ k) (fun k _ => hTT k)).kp ((Kp.of_below hbY).trans hw')).conv
   (repeat (first | (refine wfp fun K hK => ?_; go_simp; refine hK _ _ ?_; clear hK K) | (refine wff fun K hK => ?_; go_simp; refine hK _ _ ?_; clear hK K)))
   (refine first_readG rfl (v := .int .i64 x.e) (fun w' hw' => ?_) (fun K hK => ?_); rotate_left 1; go_simp; refine hK _ _ ?_; clear hK K; rotate_left 1; (have q1 := M1 w' hw'; go_simp))
   (repeat (first | (refine wfp fun K hK => ?_; go_simp; refine hK _ _ ?_; clear hK K) | (refine wff fun K hK => ?_; go_simp; refine hK _ _ ?_; clear hK K)))
   (refine first_readG rfl (v := .slice A2 x.t.length c2) (fun w' hw' => ?_) (fun K hK => ?_); rotate_left 1; go_simp; refine hK _ _ ?_; clear hK K; rotate_left 1; (have q2 := M2 w' hw'; go_simp))
   (repeat (first | (refine wfp fun K hK => ?_; go_simp; refine hK _ _ ?_; clear hK K) | (refine wff fun K hK => ?_; go_simp; refine hK _ _ ?_; clear hK K)))
   (refine first_readG rfl (v := .string (strOf x.t)) (fun w' hw' => ?_) (fun K hK => ?_); rotate_left 1; go_simp; refine hK _ _ ?_; clear hK K; rotate_left 1; (have q3 := M3 w' hw'; go_simp))
   (repeat (first | (refine wfp fun K hK => ?_; go_simp; refine hK _ _ ?_; clear hK K) | (refine wff fun K hK => ?_; go_simp; refine hK _ _ ?_; clear hK K)))
   have hsY := hbY.size
   refine First.wpF_must (fun K hK => ?_)
   go_wp2_with (go_at_call 78; (with_reducible refine (rint_any base _ _ x.e (wo.ext Y) hrY (by omega) hxo.e (by simp only [List.length_append]; omega)).mono ?_); rintro r w5 ⟨v5, rfl, hr5, hc5⟩)
   (refine hK _ _ (fun _ => Kp.of_chg _ hc5) ?_; clear hK K)
   (repeat (first | (refine wfp fun K hK => ?_; go_simp; refine hK _ _ ?_; clear hK K) | (refine wff fun K hK => ?_; go_simp; refine hK _ _ ?_; clear hK K)))
   have hs5 := hc5.size
   refine First.wpF_must (fun K hK => ?_)
   go_wp2_with (go_at_call 97; (with_reducible refine (rtext_any base _ _ (strOf x.t) w5 hr5 (by omega) (by simp only [List.length_append]; omega)).mono ?_); rintro r w6 ⟨v6, rfl, hr6, hc6⟩)
   (refine hK _ _ (fun _ => (Kp.of_chg wo.heap.size hc6).weaken fun k hk => hk.elim (fun hk => (hc5.lies.elim (fun e => .inl (e ▸ hk)) (fun ⟨b2, e, hl2⟩ => by rw [e] at hk; cases hk; exact .inr (by omega)))) .inr) ?_; clear hK K)
   (repeat (first | (refine wfp fun K hK => ?_; go_simp; refine hK _ _ ?_; clear hK K) | (refine wff fun K hK => ?_; go_simp; refine hK _ _ ?_; clear hK K)))
   refine First.wpF_must (fun K hK => ?_)
   go_wp2
   (refine hK _ _ (fun _ => Kp.refl _ _) ?_; clear hK K)
   refine First.wpF_nil ?_
   go_wp2
   go_roundw
   case rel =>
    refine ⟨j + 1, by omega, by go_num, ?_, ((hb.trans (Chg.of_ext wo Y u0)).trans hc5).trans hc6⟩
    rw [textB_str hxo.by_] at hr6
    rw [hT.out]
    simpa [entB, List.append_assoc] using hr6
   case measure => simp [intOf]; omega
  ·obtain rfl : j = n := by omega
   go_wp2
   go_ret
   refine ⟨_, rfl, ?_, hb⟩
   rw [List.take_of_length_le (by omega)] at hu'
   simpa [logB, List.append_assoc, hln] using hu'
end Go.Proofs.YtjhcgnmibnjocaaGreat
