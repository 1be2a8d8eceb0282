import Derived.Test.YtjhcgnmibnjocaaGreatW4
import Derived.Test.YtjhcgnmibnjocaaGreatY25
import Derived.Deep.CutBlock
/-! The document's relay ticks. -/
namespace Go.Proofs.YtjhcgnmibnjocaaGreat
open Go.RowKit Go.Maps
set_option linter.unusedVariables false
set_option linter.unusedSimpArgs false
theorem DrW.mgW {w : World} {T : Nat → Prop} {vm vl va : Value} {r : Rl} (h : DrW w T vm vl va r) {m : Mg} (h1 : m.v.l = r.v.l) (h2 : m.log = r.log) : MgW w T vm vl m := by
 obtain ⟨hm, ⟨B, d, ⟨e, _⟩, hE⟩, _⟩ := h
 refine ⟨by rw [h1]; exact hm, B, d, by rw [h2]; exact e, by rw [h2]; exact hE⟩
set_option maxRecDepth 100000 in
set_option maxHeartbeats 16000000 in
theorem dtick_any {T : Nat → Prop} (r : Rl) (vm vl va : Value) (w : World) (h : DrW w T vm vl va r) (hTl : ∀ k, T k → k < w.heap.size) (hok : r.ok) :
  Calls Tryz.prog 15 #[.agg #[.int .i64 r.id, .int .i64 r.v.e, .int .i64 r.v.p, vm, vl, .int .i64 r.joined, .int .i64 (r.sure : Int), va, .bool r.act]] w fun e w' => ∃ A1 c1, e = .returned (.slice A1 (tickP r).length c1) ∧ Outs w' T A1 (tickP r).length (tickP r) ∧ Below w.heap.size w w' := by
 have hD := h
 obtain ⟨A, c, B, d, C, f, rfl, rfl, rfl⟩ := h.sl
 have hcap := h.cap.2
 obtain ⟨⟨A', c', e', hrm, _⟩, _, _⟩ := h
 simp only [Value.slice.injEq] at e'
 obtain ⟨rfl, -, rfl⟩ := e'
 have hB0 := Blk.new w 34 #[.int .i64 r.id, .int .i64 r.v.e, .int .i64 r.v.p, (.slice A r.v.l.length c), (.slice B r.log.length d), .int .i64 r.joined, .int .i64 (r.sure : Int), (.slice C r.acks.length f), .bool r.act]
 have hb0 : Below w.heap.size w (w.alloc (.cells #[.int .i64 r.id, .int .i64 r.v.e, .int .i64 r.v.p, (.slice A r.v.l.length c), (.slice B r.log.length d), .int .i64 r.joined, .int .i64 (r.sure : Int), (.slice C r.acks.length f), .bool r.act] 34)) := Below.alloc (Below.refl _ _) (Nat.le_refl _) _
 have hL := dleads_any r _ _ _ _ (hD.kp (Kp.of_below hb0))
 have cB := hB0.cell
 have lB := hB0.lt
 cases hl : r.leads with
 | false =>
  rw [hl] at hL
  rw [tickP_no hl]
  go_enter Tryz.func15, Tryz.ntmps15
  go_wp2_with (go_at_call 38; (with_reducible refine hL.mono ?_); rintro e w1 ⟨rfl, hb1⟩)
  go_ret
  exact ⟨none, 0, rfl, Outs.nil _ _, hb0.trans (hb1.mono (by simp))⟩
 | true =>
  rw [hl] at hL
  have hT : tickP r = (othersP r).flatMap (tickOne r) := by unfold tickP; rw [hl]; rfl
  rw [hT]
  clear hT
  have hvl := hok.mem.2
  go_enter Tryz.func15, Tryz.ntmps15
  go_upto_region 3 with (go_at_call 38; (with_reducible refine hL.mono ?_); rintro e w1 ⟨rfl, hb1⟩)
  refine abstr (fun W => Below w.heap.size w W ∧ Blk W w.heap.size 34 #[.int .i64 r.id, .int .i64 r.v.e, .int .i64 r.v.p, (.slice A r.v.l.length c), (.slice B r.log.length d), .int .i64 r.joined, .int .i64 (r.sure : Int), (.slice C r.acks.length f), .bool r.act]) ⟨hb0.trans (hb1.mono (by simp)), hB0.below hb1 lB⟩ (fun w7 hW => ?_)
  clear hB0 hb0 hL cB lB hb1
  obtain ⟨hb07, hB7⟩ := hW
  have lB7 := hB7.lt
  have hs07 := hb07.size
  have hD7 : DrW w7 (fun k => T k ∨ w7.heap.size ≤ k) _ _ _ r := (hD.kp (Kp.of_below hb07)).sub (T' := fun k => T k ∨ w7.heap.size ≤ k) (fun k hk ht => ht.elim id (fun e => by omega))
  go_wp2
  go_loopw [3, 4] (fun vo vi wr => ∃ j : Nat, j ≤ r.v.l.length ∧ vi = .int .i64 (j : Int) ∧ OwnOD wr T w7.heap.size vo (((r.v.l.take j).filter fun n => !(n == r.id)).flatMap (tickOne r)) ∧ Below w7.heap.size w7 wr) (fun _ vi _ => ((r.v.l.length : Int) - intOf vi).toNat)
  case atStart => exact ⟨0, by omega, rfl, OwnOD.nil _ _ _, Below.refl _ _⟩
  case round =>
   obtain ⟨j, hj, rfl, hO, hb⟩ := hrel
   obtain ⟨wo, rfl⟩ : ∃ wo : World, wo = wr := ⟨_, rfl⟩
   have hs7 := hb.size
   have hBo := hB7.below hb lB7
   have cBo := hBo.cell
   have lBo := hBo.lt
   by_cases hlt : j < r.v.l.length
   ·have hlj : (j : Int) < r.v.l.length := by omega
    have d0 : decide ((j : Int) < r.v.l.length) = true := decide_eq_true hlj
    obtain ⟨b, o, rfl, hbb, hcc⟩ := hrm.plain (by omega) (by omega)
    have hg : r.v.l[j]? = some (r.v.l[j]'hlt) := List.getElem?_eq_getElem hlt
    have m1 : wo.cell? ⟨b, o + j, none⟩ = some (.int .i64 (r.v.l[j]'hlt)) := by rw [(hb07.trans (hb.mono hs07)).cell (p := ⟨b, o + j, none⟩) hbb]; exact hcc _ _ (ints_get hg)
    have hbw : b < wo.heap.size := by omega
    have hLn : (((r.v.l.take j).filter fun n => !(n == r.id)).flatMap (tickOne r)).length ≤ 17 * 8 := by
     have : ∀ l : List Int, (l.flatMap (tickOne r)).length ≤ 17 * l.length := by
      intro l
      induction l with
      | nil => simp
      | cons a l ih => have := tickOne_len r a; simp only [List.flatMap_cons, List.length_append, List.length_cons]; omega
     have h2 := this ((r.v.l.take j).filter fun n => !(n == r.id))
     have h3 := List.length_filter_le (fun n => !(n == r.id)) (r.v.l.take j)
     have : (r.v.l.take j).length ≤ 8 := by rw [List.length_take]; omega
     omega
    have HT0 : ((r.v.l.take (j + 1)).filter fun n => !(n == r.id)).flatMap (tickOne r) = ((r.v.l.take j).filter fun n => !(n == r.id)).flatMap (tickOne r) ++ (if (r.v.l[j]'hlt) == r.id then [] else tickOne r (r.v.l[j]'hlt)) := by
     rw [List.take_add_one, hg, List.filter_append, List.flatMap_append]
     congr 1
     rcases he : (r.v.l[j]'hlt == r.id) with _ | _ <;> simp [he]
    generalize r.v.l[j]'hlt = x at *
    generalize ((r.v.l.take j).filter fun n => !(n == r.id)).flatMap (tickOne r) = L at *
    obtain ⟨vA, vc, rfl, _⟩ := hO.sl
    clear hcc hg
    rcases hx : (x == r.id) with _ | _
    ·rw [hx, if_neg (by simp)] at HT0
     have HT := hide HT0
     clear HT0
     have hDo := hD7.kp (Kp.of_below hb)
     have hAk := dack_any r x _ _ _ wo hDo (by have := ack_len hok.ak hok.an; omega)
     rcases hkk : r.acks.lookup x with _ | k
     ·rw [hkk] at hAk
      simp only [Option.isSome_none, Option.getD_none] at hAk
      have HO := hide (show tickOne r x = [⟨x, ⟨1, r.v.e, r.v, 0, r.sure, r.log⟩⟩] by unfold tickOne; rw [hkk])
      have hge := hO.ge
      clear hkk
      go_wp2_with (first | (go_at_call 46; (with_reducible refine hAk.mono ?_); rintro e w8 ⟨rfl, hb8⟩; have hs8 := hb8.size; have hB8 := hBo.below hb8 lBo; have c8 := hB8.cell; have l8 := hB8.lt) | (at_builtin; refine app_outD rfl (.tmp 38) (.tmp 51) rfl T w7.heap.size (.slice vA L.length vc) L ⟨⟨x, ⟨1, r.v.e, r.v, 0, r.sure, r.log⟩⟩, .slice (some ⟨b, o, none⟩) r.v.l.length c, .slice B r.log.length d⟩ _ rfl rfl (hO.below hb8) (DrW.mgW ((hDo.kp (Kp.of_below hb8)).sub (T' := fun k => T k ∨ (Value.slice vA L.length vc).ownBlock = some k) (fun k _ hk => hk.imp id (fun e => (hge k e).1))) rfl rfl) _ rfl rfl (by omega) (by omega) (fun v' w9 ho9 hc9 hz9 => ?_)))
      go_roundw
      case rel => exact ⟨j + 1, by omega, by go_num, by rw [HT.out, HO.out]; exact ho9, (hb.trans (hb8.mono hs7)).trans (hc9.low (fun k hk => (hge k hk).1) (by omega))⟩
      case measure => simp [intOf]; omega
     ·rw [hkk] at hAk
      simp only [Option.isSome_some, Option.getD_some] at hAk
      have HO := hide (show tickOne r x = (if k = r.log.length then [⟨x, ⟨2, r.v.e, Vi.none, k, r.sure, []⟩⟩] else []) ++ shipsP r x k 16 by unfold tickOne; rw [hkk])
      have hk4 := (hok.ak _ (lookup_mem hkk)).1
      have hn4 := hok.n
      clear hkk
      go_upto_region 10 with (go_at_call 46; (with_reducible refine hAk.mono ?_); rintro e w8 ⟨rfl, hb8⟩)
      refine abstr (fun W => Below w7.heap.size w7 W ∧ OwnOD W T w7.heap.size (.slice vA L.length vc) L) ⟨hb.trans (hb8.mono hs7), hO.below hb8⟩ (fun w8' hW8 => ?_)
      clear hO hb hb8 hBo cBo lBo hDo hAk m1 hbw hs7 w8 wo
      obtain ⟨hb, hO⟩ := hW8
      obtain ⟨wo, rfl⟩ : ∃ wo : World, wo = w8' := ⟨_, rfl⟩
      have hs7 := hb.size
      have hBo := hB7.below hb lB7
      have cBo := hBo.cell
      have lBo := hBo.lt
      have hge := hO.ge
      go_upto_if 57 with fail
      go_cut [3] (fun s3 wx => ∃ (A3 : Option Addr) (n3 c3 : Nat), s3 = .slice A3 n3 c3 ∧ OwnOD wx T w7.heap.size s3 (L ++ (if k = r.log.length then [⟨x, ⟨2, r.v.e, Vi.none, k, r.sure, []⟩⟩] else [])) ∧ Below w7.heap.size w7 wx)
      case first =>
       by_cases hkl : k = r.log.length
       ·have d1 : ((k : Int) == (r.log.length : Int)) = true := by simp; omega
        replace hkl := hide hkl
        go_wp2_with (at_builtin; refine app_outD rfl (.tmp 58) (.tmp 68) rfl T w7.heap.size (.slice vA L.length vc) L ⟨⟨x, ⟨2, r.v.e, Vi.none, k, r.sure, []⟩⟩, .slice none 0 0, .slice none 0 0⟩ _ rfl rfl hO (mgW_bare _ _ rfl rfl) _ rfl rfl (by omega) (by omega) (fun v' w9 ho9 hc9 hz9 => ?_))
        obtain ⟨A10, c10, hv10, _⟩ := ho9.sl
        subst hv10
        go_meet
        case rel => exact ⟨A10, _, c10, rfl, by rw [if_pos hkl.out]; exact ho9, hb.trans (hc9.low (fun k hk => (hge k hk).1) (by omega))⟩
       ·have d1 : ((k : Int) == (r.log.length : Int)) = false := by simp; omega
        go_wp2_with fail
        go_meet
        case rel => exact ⟨vA, L.length, vc, rfl, by rw [if_neg hkl, List.append_nil]; exact hO, hb⟩
      case rest =>
       obtain ⟨A3, n3, c3, rfl, hO3, hb3⟩ := hcut
       clear hO cBo lBo hge hBo
       go_wp2_with fail
       go_loopw [3, 8] (fun vo vi wr => ∃ t : Nat, t ≤ 16 ∧ k + t ≤ max k r.log.length ∧ vi = .int .i64 (t : Int) ∧ OwnOD wr T w7.heap.size vo (L ++ (if k = r.log.length then [⟨x, ⟨2, r.v.e, Vi.none, k, r.sure, []⟩⟩] else []) ++ shipsP r x k t) ∧ Below w7.heap.size w7 wr) (fun _ vi _ => ((17 : Int) - intOf vi).toNat)
       case atStart => exact ⟨0, by omega, by omega, rfl, by simpa [shipsP] using hO3, hb3⟩
       case round =>
        clear hO3 hb3 hb hs7
        obtain ⟨t, ht, hil, rfl, hO, hb⟩ := hrel
        obtain ⟨w4, rfl⟩ : ∃ w4 : World, w4 = wr := ⟨_, rfl⟩
        have hs4 := hb.size
        have hB4 := hB7.below hb lB7
        have cB4 := hB4.cell
        have lB4 := hB4.lt
        have hwi : IntKind.i64.wrap ((k : Int) + (t : Int)) = (k : Int) + (t : Int) := IntWalk.i64_in _ (by omega)
        by_cases hin : t < 16 ∧ k + t < r.log.length
        ·obtain ⟨hin1, hin2⟩ := hin
         have e1 : decide ((t : Int) < 16) = true := decide_eq_true (by omega)
         have e2 : decide ((k : Int) + (t : Int) < (r.log.length : Int)) = true := decide_eq_true (by omega)
         have hD4 := hD7.kp (Kp.of_below hb)
         have hE4 := hD4.log'
         obtain ⟨bl, ol, hAl⟩ : ∃ b o, B = some ⟨b, o, none⟩ := by
          obtain ⟨⟨ms2, _, hr2, _⟩, _, _⟩ := hE4
          obtain ⟨b, o, e', _⟩ := hr2.plain (by omega) (by omega)
          exact ⟨b, o, e'⟩
         subst hAl
         have hxg : r.log[k + t]? = some r.log[k + t] := List.getElem?_eq_getElem hin2
         have hEp := hE4.part hxg
         generalize r.log[k + t] = xe at *
         have HN := hide (show L ++ (if k = r.log.length then ([⟨x, ⟨2, r.v.e, Vi.none, k, r.sure, []⟩⟩] : List Ot) else []) ++ shipsP r x k (t + 1) = (L ++ (if k = r.log.length then ([⟨x, ⟨2, r.v.e, Vi.none, k, r.sure, []⟩⟩] : List Ot) else []) ++ shipsP r x k t) ++ ([⟨x, ⟨2, r.v.e, Vi.none, (k + t + 1 : Nat), r.sure, [xe]⟩⟩] : List Ot) by rw [ships_next hxg, ← List.append_assoc])
         have hLn2 : (L ++ (if k = r.log.length then ([⟨x, ⟨2, r.v.e, Vi.none, k, r.sure, []⟩⟩] : List Ot) else []) ++ shipsP r x k t).length ≤ 200 := by
          have := ships_len r x k t
          rw [List.length_append, List.length_append]
          split <;> simp <;> omega
         generalize L ++ (if k = r.log.length then ([⟨x, ⟨2, r.v.e, Vi.none, k, r.sure, []⟩⟩] : List Ot) else []) ++ shipsP r x k t = L2 at *
         obtain ⟨A4, c4, rfl, _⟩ := hO.sl
         have hge := hO.ge
         have hownge : ∀ k, (Value.slice A4 L2.length c4).ownBlock = some k → w7.heap.size ≤ k := fun k hk => (hge k hk).1
         have hwi2 : IntKind.i64.wrap ((k : Int) + (t : Int) + 1) = (k : Int) + (t : Int) + 1 := IntWalk.i64_in _ (by omega)
         have z1 : ((k : Int) + (t : Int)).toNat = k + t := by omega
         have z2 : ((k : Int) + (t : Int) + 1).toNat - (k + t) = 1 := by omega
         have zc : ¬d = k + t := by omega
         have zi : (0 : Int) ≤ (k : Int) + (t : Int) + 1 := by omega
         have zj : (0 : Int) ≤ (k : Int) + (t : Int) ∧ (k : Int) + (t : Int) ≤ max ((k : Int) + (t : Int) + 1) 0 := by omega
         have hcl1 : (k : Int) + (t : Int) + 1 ≤ (d : Int) := by omega
         have hcl2 : k + t + 1 ≤ d := by omega
         go_wp2
         refine wp_region_below w7.heap.size [4, 10, 12, 20] [0, 1, 2, 3, 5, 6, 7, 8, 9, 11, 13, 14, 15, 16, 17, 18, 19, 21, 22] [(true, false, 0), (true, false, 1), (true, false, 2), (true, false, 3), (true, true, 4), (true, false, 5), (true, false, 6), (true, false, 7), (true, false, 8), (true, false, 9), (true, true, 10), (true, false, 11), (true, true, 12), (true, false, 13), (true, false, 14), (true, false, 15), (true, false, 16), (true, false, 17), (true, false, 18), (true, false, 19), (true, true, 20), (true, false, 21), (true, false, 22), (false, true, 23), (false, true, 24), (false, false, 25)] (by kernel_rfl) (by kernel_rfl) (fun V => ?_); simp only [List.map_cons, List.map_nil, List.getD_cons_zero, List.getD_cons_succ]
         have hBV := hB4.ext V
         (repeat (first | (refine wfp fun K hK => ?_; go_simp; refine hK _ _ ?_; clear hK K) | (refine wff fun K hK => ?_; go_simp; refine hK _ _ ?_; clear hK K)))
         (refine first_read rfl (v := .int .i64 r.v.e) (fun w' hw' => ?_) (fun K hK => ?_); rotate_left 1; go_simp; refine hK _ _ ?_; clear hK K; rotate_left 1; (have hB' := Blk.below hBV hw' lB7; have c' := Blk.cell hB'; go_simp))
         (repeat (first | (refine wfp fun K hK => ?_; go_simp; refine hK _ _ ?_; clear hK K) | (refine wff fun K hK => ?_; go_simp; refine hK _ _ ?_; clear hK K)))
         (refine first_read rfl (v := .int .i64 (r.sure : Int)) (fun w' hw' => ?_) (fun K hK => ?_); rotate_left 1; go_simp; refine hK _ _ ?_; clear hK K; rotate_left 1; (have hB' := Blk.below hBV hw' lB7; have c' := Blk.cell hB'; go_simp))
         (repeat (first | (refine wfp fun K hK => ?_; go_simp; refine hK _ _ ?_; clear hK K) | (refine wff fun K hK => ?_; go_simp; refine hK _ _ ?_; clear hK K)))
         (refine first_read rfl (v := .slice (some ⟨bl, ol, none⟩) r.log.length d) (fun w' hw' => ?_) (fun K hK => ?_); rotate_left 1; go_simp; refine hK _ _ ?_; clear hK K; rotate_left 1; (have hB' := Blk.below hBV hw' lB7; have c' := Blk.cell hB'; go_simp))
         (repeat (first | (refine wfp fun K hK => ?_; go_simp; refine hK _ _ ?_; clear hK K) | (refine wff fun K hK => ?_; go_simp; refine hK _ _ ?_; clear hK K)))
         (refine first_read rfl (v := .slice (some ⟨bl, ol + (k + t) * 2, none⟩) 1 (d - (k + t))) (fun w' hw' => ?_) (fun K hK => ?_); rotate_left 1; go_simp; refine hK _ _ ?_; clear hK K; rotate_left 1; focus (go_simp <;> rw [if_pos zi, if_pos zj, z1, if_neg zc, z2]))
         (repeat (first | (refine wfp fun K hK => ?_; go_simp; refine hK _ _ ?_; clear hK K) | (refine wff fun K hK => ?_; go_simp; refine hK _ _ ?_; clear hK K)))
         have hOV := hO.below (World.below_ext w4 V)
         have hsV := (World.below_ext w4 V).size
         have hbV : Below w7.heap.size w7 (w4.ext V) := hb.trans ((World.below_ext w4 V).mono hs4)
         have hM : MgW (w4.ext V) (fun k => T k ∨ (Value.slice A4 L2.length c4).ownBlock = some k) (.slice none 0 0) (.slice (some ⟨bl, ol + (k + t) * 2, none⟩) 1 (d - (k + t))) ⟨2, r.v.e, Vi.none, (k + t + 1 : Nat), r.sure, [xe]⟩ := ⟨⟨none, 0, rfl, Reads.none_, fun h => absurd h (by simp [Vi.none])⟩, _, _, rfl, (hEp.kp (Kp.of_below (World.below_ext w4 V))).sub (T' := fun k => T k ∨ (Value.slice A4 L2.length c4).ownBlock = some k) (fun k _ hk => hk.imp id (fun e => (hge k e).1))⟩
         (repeat (first | (refine wfp fun K hK => ?_; go_simp; refine hK _ _ ?_; clear hK K) | (refine wff fun K hK => ?_; go_simp; refine hK _ _ ?_; clear hK K))); refine First.wpF_must (fun K hK => ?_); go_wp2; (refine hK _ _ (fun hnd => by first | exact Bool.noConfusion hnd | exact Below.alloc (Below.refl _ _) hbV.size _) ?_; clear hK K); (repeat (first | (refine wfp fun K hK => ?_; go_simp; refine hK _ _ ?_; clear hK K) | (refine wff fun K hK => ?_; go_simp; refine hK _ _ ?_; clear hK K))); refine First.wpF_must (fun K hK => ?_); go_wp2_with (at_builtin; refine app_outD rfl (.tmp 83) (.tmp 106) rfl T w7.heap.size (.slice A4 L2.length c4) (L2) ⟨⟨x, ⟨2, r.v.e, Vi.none, (k + t + 1 : Nat), r.sure, [xe]⟩⟩, .slice none 0 0, .slice (some ⟨bl, ol + (k + t) * 2, none⟩) 1 (d - (k + t))⟩ _ rfl rfl hOV hM _ (by first | rfl | simp only [World.size_ext]) rfl (by omega) hbV.size (fun v' w10 hO' hc10 hz10 => ?_)); (have hb10 : Below w7.heap.size ((w4.ext V).alloc (.cells #[.int .i64 x, .int .i64 2, .int .i64 r.v.e, .int .i64 0, .int .i64 0, .slice none 0 0, .int .i64 ((k : Int) + (t : Int) + 1), .int .i64 (r.sure : Int), .slice (some ⟨bl, ol + (k + t) * 2, none⟩) 1 (d - (k + t))] 96)) w10 := ⟨hc10.os, hc10.tape, hc10.output, (by simpa using hz10), (fun k hk => (hc10.block k (by have := hbV.size; omega) (fun e => by have := hownge k e; omega)).trans (Below.heap_alloc (w4.ext V) _ k (by have := hbV.size; omega)).symm)⟩); (refine hK _ _ (fun hnd => by first | exact Bool.noConfusion hnd | exact hb10) ?_; clear hK K); (repeat (first | (refine wfp fun K hK => ?_; go_simp; refine hK _ _ ?_; clear hK K) | (refine wff fun K hK => ?_; go_simp; refine hK _ _ ?_; clear hK K))); refine First.wpF_must (fun K hK => ?_); go_wp2; (refine hK _ _ (fun hnd => by first | exact Bool.noConfusion hnd | assumption | with_reducible (first | exact grown_alloc _ _ | exact First.Grown.refl _ | exact First.Grown.cat _ _ _ | exact First.Grown.ext _ _)) ?_; clear hK K); refine First.wpF_nil ?_
         go_wp2_with fail
         go_roundw
         (case rel => exact ⟨t + 1, by omega, by omega, by go_num, by rw [HN.out]; exact hO', (hbV.alloc hbV.size _).trans hb10⟩)
         (case measure => simp [intOf]; omega)
        ·have hS : shipsP r x k 16 = shipsP r x k t := by
          rcases Nat.lt_or_ge (k + t) r.log.length with h' | h'
          ·obtain rfl : t = 16 := by omega
           rfl
          ·exact ships_more h' 16 ht
         by_cases h16 : t < 16
         ·have e1 : decide ((t : Int) < 16) = true := decide_eq_true (by omega)
          have e2 : decide ((k : Int) + (t : Int) < (r.log.length : Int)) = false := decide_eq_false (by omega)
          go_wp2
          go_roundw
          case rel => exact ⟨j + 1, by omega, by go_num, by rw [HT.out, HO.out, hS, ← List.append_assoc]; exact hO, hb⟩
          case measure => simp [intOf]; omega
         ·have e1 : decide ((t : Int) < 16) = false := decide_eq_false (by omega)
          go_wp2
          go_roundw
          case rel => exact ⟨j + 1, by omega, by go_num, by rw [HT.out, HO.out, hS, ← List.append_assoc]; exact hO, hb⟩
          case measure => simp [intOf]; omega
    ·rw [hx, if_pos rfl, List.append_nil] at HT0
     have HT := hide HT0
     clear HT0
     go_wp2
     go_roundw
     case rel => exact ⟨j + 1, by omega, by go_num, by rw [HT.out]; exact hO, hb⟩
     case measure => simp [intOf]; omega
   ·obtain rfl : j = r.v.l.length := by omega
    have d0 : decide ((r.v.l.length : Int) < r.v.l.length) = false := by simp
    rw [List.take_length] at hO
    obtain ⟨vA, vc, rfl, hOu⟩ := hO.outs (fun k hk hT => by have := hTl k hT; omega)
    clear hO
    go_wp2
    go_ret
    exact ⟨vA, vc, rfl, hOu, hb07.trans (hb.mono hs07)⟩
end Go.Proofs.YtjhcgnmibnjocaaGreat
