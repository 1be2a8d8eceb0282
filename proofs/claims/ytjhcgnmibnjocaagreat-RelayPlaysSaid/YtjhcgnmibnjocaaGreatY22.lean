import Derived.Test.YtjhcgnmibnjocaaGreatY18
import Derived.Test.YtjhcgnmibnjocaaGreatY21
/-! A relay takes a message. -/
namespace Go.Proofs.YtjhcgnmibnjocaaGreat
open Go.RowKit Go.Maps
set_option linter.unusedVariables false
set_option linter.unusedSimpArgs false
theorem offer_any {S T : Nat → Prop} {g : Nat} {r : Rl} (f : Int) (m : Mg) (vm vl' : Value) (w : World) (h : RelW w S T g r) (hm : MgW w S vm vl' m) (hml : m.v.l.length ≤ 1000000) :
  Calls Tryz.prog 48 #[.pointer (some ⟨g, 0, none⟩), .int .i64 f, .agg #[.int .i64 m.k, .int .i64 m.e, .int .i64 m.v.e, .int .i64 m.v.p, vm, .int .i64 m.i, .int .i64 m.s, vl']] w fun e w' => Aft w w' S T g (offerP r f m).r fun T' =>
   ∃ A1 n1 c1 A2 n2 c2, e = .returned (.tuple #[.slice A1 n1 c1, .slice A2 n2 c2]) ∧ Recs w' T' A1 n1 (offerP r f m).recs ∧ Outs w' T' A2 n2 (offerP r f m).outs := by
 cases ho : offerOk r f m with
 | false =>
  rw [offerP_no ho]
  exact offer_no f m vm vl' w h hm ho hml
 | true =>
  have hP : offerP r f m = ⟨offerR r m ++ offer2R (offer1 r m) m, hearO (offer2 (offer1 r m) m) f, hearP (offer2 (offer1 r m) m) m.s⟩ := by unfold offerP; rw [ho]; rfl
  rw [hP]
  unfold offerOk at ho
  simp only [Bool.and_eq_true, Bool.not_eq_true', decide_eq_true_eq, decide_eq_false_iff_not, Bool.and_eq_false_iff, beq_eq_false_iff_ne] at ho
  obtain ⟨⟨⟨⟨⟨⟨⟨h1, h2⟩, h3⟩, h4⟩, h5⟩, h6⟩, h7⟩, h8⟩ := ho
  refine offer_yes f m vm vl' w h hm h1 (by simpa using h2) (by simpa using h3) (by simpa using h4) h5 (by simp; omega) (by simpa using h7) ?_
  by_cases he : m.e = r.v.e
  ·right
   rcases h8 with h8 | h8
   ·exact absurd he h8
   ·have h9 : r.v.p = f := by simpa using h8
    exact ⟨by simpa using he, by simpa using h9, by simp; omega⟩
  ·left
   exact ⟨by simpa using he, by simp; omega⟩
theorem Mp.look1 {w : World} {b : Nat} {l : List (Int × Nat)} (h : Mp w b l) {n : Int} (hn : I64 n) :
  (Instr.lookup 75 (.map (some b)) (.int .i64 n) false).run Tryz.prog w = .ok (.int .i64 ((l.lookup n).getD 0 : Nat)) w := by
 obtain ⟨D, ho, hr⟩ := h
 obtain ⟨c, hrun, hat, _⟩ := ho.lookup_int lawK Tryz.underlying75 Tryz.underlying3 (zeroI w) (key64 hn)
 rw [hr.at_ n] at hat
 simp only [DataW.lit.injEq, Lit.int.injEq, true_and] at hat
 rw [hrun, ← hat]
theorem ack_ok {r : Rl} (h : r.ok) {f : Int} {m : Mg} (ho : ackOk r f m = true) : (ackP r f m).ok ∧ I64 f := by
 have ho' := ho
 unfold ackOk at ho
 simp only [Bool.and_eq_true, decide_eq_true_eq] at ho
 have hf := h.mem.1 f (hasB_mem.1 ho.1.1.2)
 refine ⟨?_, by unfold I64; omega⟩
 unfold ackP
 rw [if_pos ho']
 refine settle_ok ⟨h.id, h.v, h.n, h.log, h.j, h.s, acked_ok h.ak ?_ hf, acked_nodup h.an⟩
 have h1 : (r.acks.lookup f).getD 0 ≤ 4096 := by
  cases hl : r.acks.lookup f with
  | none => simp
  | some k => exact (h.ak _ (lookup_mem hl)).1
 have := h.n
 omega
set_option maxRecDepth 100000 in
set_option maxHeartbeats 8000000 in
theorem takeAck_yes {S T : Nat → Prop} {g : Nat} {r : Rl} (f : Int) (m : Mg) (vm vl' : Value) (w : World) (h : RelW w S T g r) (hm : MgW w S vm vl' m) (hk : m.k = 3) (ho : ackOk r f m = true) :
  Calls Tryz.prog 17 #[.pointer (some ⟨g, 0, none⟩), .int .i64 f, .agg #[.int .i64 m.k, .int .i64 m.e, .int .i64 m.v.e, .int .i64 m.v.p, vm, .int .i64 m.i, .int .i64 m.s, vl']] w fun e w' => Aft w w' S T g (ackP r f m) fun T' => e = .returned (.tuple #[.slice none 0 0, .slice none 0 0]) := by
 have hW := h
 obtain ⟨hok, Am, cm, vl, mb, hX⟩ := h
 obtain ⟨Av, cv, Bv, dv, rfl, rfl, hrm, hnm, hEm⟩ := hm.sl
 obtain ⟨ms, _, hown, _⟩ := id hX.own
 obtain ⟨Al, cl, hvl, hcl⟩ := own_sl hown
 clear hown
 subst hvl
 obtain ⟨hokA, hf64⟩ := ack_ok hok ho
 have hP := hide (show ackP r f m = settleP { r with acks := ackedL f (max ((r.acks.lookup f).getD 0) m.i.toNat) r.acks } by unfold ackP; rw [if_pos ho])
 unfold ackOk at ho
 simp only [Bool.and_eq_true, Bool.not_eq_true', decide_eq_true_eq] at ho
 obtain ⟨⟨⟨⟨⟨h1, h2⟩, h3⟩, h4⟩, h5⟩, h6⟩ := ho
 have d2 : (m.e == r.v.e) = true := by simpa using h2
 have d3 : (f != r.id) = true := by simpa using h3
 have d5 : decide (0 ≤ m.i) = true := by simpa using h5
 have d6 : decide (m.i ≤ (r.log.length : Int)) = true := by simpa using h6
 have hk3 : (m.k == 1) = false := by rw [hk]; rfl
 have hk2 : (m.k == 2) = false := by rw [hk]; rfl
 have hk1 : (m.k == 3) = true := by rw [hk]; rfl
 replace h2 := hide h2
 replace hk := hide hk
 have hb0 : Below w.heap.size w (w.alloc (.cells #[.int .i64 m.k, .int .i64 m.e, .int .i64 m.v.e, .int .i64 m.v.p, (.slice Av m.v.l.length cv), .int .i64 m.i, .int .i64 m.s, (.slice Bv m.log.length dv)] 60)) := Below.alloc (Below.refl _ _) (Nat.le_refl _) _
 have hX0 := hX.below hb0
 have hLt := fun X => leads_any (World.ext _ X) (hX0.below (World.below_ext _ X))
 rw [h1] at hLt
 have hCt := fun X => Calls.toBelow (has_any Am r.v.l.length cm r.v.l f _ (hX0.below (World.below_ext _ X)).rd (by have := hok.mem.2; omega))
 rw [h4] at hCt
 have c0 := hX.blk.cell
 have l0 := hX.blk.lt
 have hPm := Blk.new w 60 #[.int .i64 m.k, .int .i64 m.e, .int .i64 m.v.e, .int .i64 m.v.p, (.slice Av m.v.l.length cv), .int .i64 m.i, .int .i64 m.s, (.slice Bv m.log.length dv)]
 go_enter Tryz.func17, Tryz.ntmps17
 go_wp2_with fail
 refine wp_region_ext_lit (by kernel_rfl) (by kernel_rfl) ?_
 (repeat (first | ((with_reducible refine wpQuiet_step (fun K hK => ?_)); go_simp; first | ((with_reducible refine hK _ ?_); clear hK K) | (apply Exists.intro; (with_reducible refine ⟨fun _ => ?_, hK _ ?_⟩); (first | (go_at_call 32; exact Calls.ext_of (hLt _)) | (go_at_call 50; exact Calls.ext_of (hCt _))); clear hK K)) | ((with_reducible refine quiet_skipN ?_ (fun K hK => ?_)); (rfl); go_simp; (with_reducible refine hK _ ?_); clear hK K)))
 (with_reducible refine wpQuiet_nil ?_); intro _ hw'; obtain ⟨Y, hw''⟩ := hw'; subst hw''
 refine abstr (fun W => RelX W S T g r Am cm (.slice Al r.log.length cl) mb ∧ Below w.heap.size w W ∧ Blk W w.heap.size 60 #[.int .i64 m.k, .int .i64 m.e, .int .i64 m.v.e, .int .i64 m.v.p, (.slice Av m.v.l.length cv), .int .i64 m.i, .int .i64 m.s, (.slice Bv m.log.length dv)]) ⟨hX0.below (World.below_ext _ Y), by (repeat' (first | with_reducible (first | exact Below.refl _ _ | refine Below.ext ?_ ?_ _ | refine Below.alloc ?_ ?_ _ | refine Below.setCell ?_ ?_ _ | refine Below.drew ?_ | assumption) | (simp [World.size_ext]; done) | (simp [World.size_ext]; omega))), hPm.ext Y⟩ (fun w1 hw1 => ?_)
 obtain ⟨hX1, hb1, hP1⟩ := hw1
 clear c0 l0 hX0 hPm hLt hCt hb0
 have c1 := hX1.blk.cell
 have l1 := hX1.blk.lt
 have cP1 := hP1.cell
 have lP1 := hP1.lt
 have hlk := fun X => (hX1.mp.kp (Kp.of_below (S := fun _ => False) (World.below_ext w1 X)) (fun h => h)).look1 hf64
 have ha4 : (r.acks.lookup f).getD 0 ≤ 4096 := by
  cases hl : r.acks.lookup f with
  | none => simp
  | some k => exact (hok.ak _ (lookup_mem hl)).1
 have hn4 := hok.n
 have hal := ack_len hok.ak hok.an
 have hokB : ({ r with acks := ackedL f (max ((r.acks.lookup f).getD 0) m.i.toNat) r.acks } : Rl).ok := ⟨hok.id, hok.v, hok.n, hok.log, hok.j, hok.s, acked_ok hok.ak (by omega) (hok.mem.1 f (hasB_mem.1 h4)), acked_nodup hok.an⟩
 generalize hav : (r.acks.lookup f).getD 0 = a at *
 clear hav
 by_cases hlt : (a : Int) < m.i
 ·have hv : m.i = ((max a m.i.toNat : Nat) : Int) := by omega
  replace hv := hide hv
  go_wp2_with fail; refine First.wp_region_first_ext [3, 8, 10, 12, 13] [0, 1, 2, 4, 5, 6, 7, 9, 11] [(true, false, 0), (true, false, 1), (true, false, 2), (true, true, 3), (true, false, 4), (true, false, 5), (true, false, 6), (true, false, 7), (true, true, 8), (true, false, 9), (true, true, 10), (true, false, 11), (true, true, 12), (true, true, 13), (false, false, 14)] (by kernel_rfl) (by kernel_rfl) (fun V1 => ?_); simp only [List.map_cons, List.map_nil, List.getD_cons_zero, List.getD_cons_succ]; (have hmp : Mp (w1.ext V1) mb r.acks := hX1.mp.kp (Kp.of_below (S := fun _ => False) (World.below_ext w1 V1)) (fun h => h)); (repeat (first | (refine wfp fun K hK => ?_; go_simp; refine hK _ _ ?_; clear hK K) | (refine wff fun K hK => ?_; go_simp; refine hK _ _ ?_; clear hK K))); refine First.wpF_must (fun K hK => ?_); go_wp2_with (at_mapUpdate; refine wpList_put rfl _ _ _ rfl mb r.acks rfl hmp f (max a m.i.toNat) rfl (congrArg (Value.int .i64) hv.out) hf64 (by omega) (by omega) hok.an (fun w5 hm5 ho5 => ?_)); (refine hK _ _ (fun hnd => by first | exact Bool.noConfusion hnd | assumption | with_reducible (first | exact grown_alloc _ _ | exact First.Grown.refl _ | exact First.Grown.cat _ _ _ | exact First.Grown.ext _ _)) ?_; clear hK K); refine First.wpF_nil ?_; (have hX5 : RelX w5 _ _ g { r with acks := ackedL f (max a m.i.toNat) r.acks } Am cm (.slice Al r.log.length cl) mb := (hX1.below (World.below_ext w1 V1)).acks ho5 hm5 rfl); (clear c1 l1 cP1 lP1 hlk hmp); go_wp2_with (go_at_call 34; (with_reducible refine (settle_any w5 hX5 hokB).mono ?_); rintro e w6 ⟨rfl, hX6, ho6⟩); refine bodyPost_ret (v := .tuple #[.slice none 0 0, .slice none 0 0]) (by simp [results, Tryz.results17, go_sem] <;> rfl) rfl ?_; rw [hP.out]; exact Aft.mk' (settle_ok hokB) hX6 ((((Kp.of_below hb1).trans (Kp.of_below (World.below_ext w1 V1))).trans (Kp.of_only ho5 hX1.ms)).trans (Kp.of_only ho6 hX1.g)) rfl
 ·have hmx : max a m.i.toNat = a := by omega
  rw [hmx] at hP hokB
  clear hmx
  have hlt3 : ((a : Int) < m.i) = False := eq_false hlt
  go_wp2_with fail; refine First.wp_region_first_ext [3, 8, 10, 12, 13] [0, 1, 2, 4, 5, 6, 7, 9, 11] [(true, false, 0), (true, false, 1), (true, false, 2), (true, true, 3), (true, false, 4), (true, false, 5), (true, false, 6), (true, false, 7), (true, true, 8), (true, false, 9), (true, true, 10), (true, false, 11), (true, true, 12), (true, true, 13), (false, false, 14)] (by kernel_rfl) (by kernel_rfl) (fun V1 => ?_); simp only [List.map_cons, List.map_nil, List.getD_cons_zero, List.getD_cons_succ]; (have hmp : Mp (w1.ext V1) mb r.acks := hX1.mp.kp (Kp.of_below (S := fun _ => False) (World.below_ext w1 V1)) (fun h => h)); (repeat (first | (refine wfp fun K hK => ?_; go_simp; refine hK _ _ ?_; clear hK K) | (refine wff fun K hK => ?_; go_simp; refine hK _ _ ?_; clear hK K))); refine First.wpF_must (fun K hK => ?_); go_wp2_with (at_mapUpdate; refine wpList_put rfl _ _ _ rfl mb r.acks rfl hmp f a rfl rfl hf64 (by omega) (by omega) hok.an (fun w5 hm5 ho5 => ?_)); (refine hK _ _ (fun hnd => by first | exact Bool.noConfusion hnd | assumption | with_reducible (first | exact grown_alloc _ _ | exact First.Grown.refl _ | exact First.Grown.cat _ _ _ | exact First.Grown.ext _ _)) ?_; clear hK K); refine First.wpF_nil ?_; (have hX5 : RelX w5 _ _ g { r with acks := ackedL f a r.acks } Am cm (.slice Al r.log.length cl) mb := (hX1.below (World.below_ext w1 V1)).acks ho5 hm5 rfl); (clear c1 l1 cP1 lP1 hlk hmp); go_wp2_with (go_at_call 34; (with_reducible refine (settle_any w5 hX5 hokB).mono ?_); rintro e w6 ⟨rfl, hX6, ho6⟩); refine bodyPost_ret (v := .tuple #[.slice none 0 0, .slice none 0 0]) (by simp [results, Tryz.results17, go_sem] <;> rfl) rfl ?_; rw [hP.out]; exact Aft.mk' (settle_ok hokB) hX6 ((((Kp.of_below hb1).trans (Kp.of_below (World.below_ext w1 V1))).trans (Kp.of_only ho5 hX1.ms)).trans (Kp.of_only ho6 hX1.g)) rfl
end Go.Proofs.YtjhcgnmibnjocaaGreat
