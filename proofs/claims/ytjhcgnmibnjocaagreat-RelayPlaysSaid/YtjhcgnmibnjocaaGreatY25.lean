import Derived.Test.YtjhcgnmibnjocaaGreatY24
import Derived.Deep.CutBlock
/-! A relay's tick: what the others lack. -/
namespace Go.Proofs.YtjhcgnmibnjocaaGreat
open Go.RowKit Go.Maps
set_option linter.unusedVariables false
set_option linter.unusedSimpArgs false
theorem tickP_no {r : Rl} (h : r.leads = false) : tickP r = [] := by unfold tickP; rw [h]; rfl
theorem tickOne_len (r : Rl) (n : Int) : (tickOne r n).length ≤ 17 := by
 unfold tickOne
 split
 ·simp
 ·rw [List.length_append]
  have := ships_len r n ‹Nat› 16
  split <;> simp <;> omega
theorem RelX.ents {w : World} {S T : Nat → Prop} {g : Nat} {r : Rl} {Am : Option Addr} {cm : Nat} {A : Option Addr} {c : Nat} {mb : Nat} (h : RelX w S T g r Am cm (.slice A r.log.length c) mb) : Ents w (fun _ => False) A r.log.length r.log :=
 h.own.ents rfl (fun k hk => hk.elim) (fun k hk => hk.elim)
theorem Ents.part {w : World} {T : Nat → Prop} {b o n : Nat} {l : List Ent} (h : Ents w T (some ⟨b, o, none⟩) n l) {i : Nat} {x : Ent} (hx : l[i]? = some x) : Ents w T (some ⟨b, o + i * 2, none⟩) 1 [x] := by
 obtain ⟨⟨ms, rfl, hr, hm⟩, hl, hn⟩ := h
 have hil : i < (ms.map Em.x).length := (List.getElem?_eq_some_iff.1 hx).1
 rw [List.getElem?_map] at hx
 obtain ⟨m, hmi, hmx⟩ : ∃ m, ms[i]? = some m ∧ m.x = x := by
  cases hmm : ms[i]? with
  | none => rw [hmm] at hx; cases hx
  | some m => rw [hmm] at hx; exact ⟨m, rfl, by simpa using hx⟩
 have hn0 : 0 < n := by omega
 obtain ⟨ad, ha, hlt, hc⟩ := hr.2 hn0
 cases ha
 refine ⟨⟨[m], by simp [hmx], ⟨by rw [emV_length]; simp, fun _ => ⟨_, rfl, hlt, fun j u hu => ?_⟩⟩, fun y hy => ?_⟩, rfl, fun _ a ha => ?_⟩
 ·have hj : j < 2 := by
   have := (List.getElem?_eq_some_iff.1 hu).1
   rw [emV_length] at this
   simpa using this
  have h2 : (emV ms)[i * 2 + j]? = some u := rowsV_get (k := 2) Em.cells_len ms i m hmi j u (by simpa [emV, rowsV] using hu)
  have h3 := hc _ _ h2
  rw [add_plain] at h3 ⊢
  rw [← h3]
  congr 2
  omega
 ·simp only [List.mem_singleton] at hy
  subst hy
  exact hm _ (List.mem_of_getElem? hmi)
 ·cases ha
  exact hn hn0 ⟨b, o, none⟩ rfl
set_option maxRecDepth 100000 in
set_option maxHeartbeats 16000000 in
theorem tick_any {S T : Nat → Prop} {g : Nat} {r : Rl} {Am : Option Addr} {cm : Nat} {vl : Value} {mb : Nat} (w : World) (h : RelX w S T g r Am cm vl mb) (hok : r.ok) :
  Calls Tryz.prog 14 #[.pointer (some ⟨g, 0, none⟩)] w fun e w' => (∃ A c, e = .returned (.slice A (tickP r).length c) ∧ Outs w' T A (tickP r).length (tickP r)) ∧ Below w.heap.size w w' := by
 have hL := leads_any w h
 obtain ⟨ms, _, hown, _⟩ := id h.own
 obtain ⟨Al, cl, hvl, hcl⟩ := own_sl hown
 clear hown
 subst hvl
 cases hl : r.leads with
 | false =>
  rw [hl] at hL
  rw [tickP_no hl]
  go_enter Tryz.func14, Tryz.ntmps14
  go_wp2_with (go_at_call 32; (with_reducible refine hL.mono ?_); rintro e w1 ⟨rfl, hb1⟩)
  go_ret
  exact ⟨⟨none, 0, rfl, Outs.nil _ _⟩, hb1⟩
 | true =>
  rw [hl] at hL
  have hT : tickP r = (othersP r).flatMap (tickOne r) := by unfold tickP; rw [hl]; rfl
  rw [hT]
  clear hT
  have hlo : (othersP r).length ≤ 8 := Nat.le_trans (List.length_filter_le _ _) hok.mem.2
  go_enter Tryz.func14, Tryz.ntmps14
  go_wp2_with (first | (go_at_call 32; (with_reducible refine hL.mono ?_); rintro e w1 ⟨rfl, hb1⟩) | (go_at_call 35; (with_reducible refine (others_any w1 (h.below hb1) hok hl).mono ?_); rintro e w7 ⟨⟨b7, c7, rfl, hR7, hb7g⟩, hb7⟩))
  have hX7 := (h.below hb1).below hb7
  have hb07 : Below w.heap.size w w7 := hb1.trans (hb7.mono hb1.size)
  have hlg7 := hX7.blk.lt
  have hb7l := hR7.lt
  clear hb1 hb7 hL h
  go_loopw [3, 19] (fun vo vi wr => ∃ j : Nat, j ≤ (othersP r).length ∧ vi = .int .i64 (j : Int) ∧ OwnO wr T w7.heap.size vo (((othersP r).take j).flatMap (tickOne r)) ∧ Below w7.heap.size w7 wr) (fun _ vi _ => (((othersP r).length : Int) - intOf vi).toNat)
  case atStart => exact ⟨0, by omega, rfl, OwnO.nil _ _ _, Below.refl _ _⟩
  case round =>
   obtain ⟨j, hj, rfl, hO, hb⟩ := hrel
   obtain ⟨wo, rfl⟩ : ∃ wo : World, wo = wr := ⟨_, rfl⟩
   have hs7 := hb.size
   have hXo := hX7.below hb
   by_cases hlt : j < (othersP r).length
   ·have cXo := hXo.blk.cell
    have lXo := hXo.blk.lt
    have hlj : (j : Int) < (othersP r).length := by omega
    have hg : (othersP r)[j]? = some (othersP r)[j] := List.getElem?_eq_getElem hlt
    obtain ⟨b', o', e', _, hcc⟩ := (hR7.keep (w' := wo) (hb.block _ hb7l)).reads.plain (by omega) (by omega)
    cases e'
    have m1 := hcc _ _ (ints_get hg)
    rw [Nat.zero_add] at m1
    have hbl : b7 < wo.heap.size := by omega
    have HT := hide (show ((othersP r).take (j + 1)).flatMap (tickOne r) = ((othersP r).take j).flatMap (tickOne r) ++ tickOne r (othersP r)[j] by
     rw [List.take_add_one, hg, List.flatMap_append]; simp)
    have hmx : (othersP r)[j] ∈ r.v.l := (List.mem_filter.1 (List.getElem_mem hlt)).1
    have hLn : (((othersP r).take j).flatMap (tickOne r)).length ≤ 17 * 8 := by
     have : ∀ l : List Int, (l.flatMap (tickOne r)).length ≤ 17 * l.length := by
      intro l
      induction l with
      | nil => simp
      | cons a l ih => have := tickOne_len r a; simp only [List.flatMap_cons, List.length_append, List.length_cons]; omega
     have h2 := this ((othersP r).take j)
     have : ((othersP r).take j).length ≤ 8 := by rw [List.length_take]; omega
     omega
    generalize (othersP r)[j] = x at *
    have hx64 : I64 x := by have := hok.mem.1 x hmx; unfold I64; omega
    have hlk := hXo.mp.look hx64
    generalize ((othersP r).take j).flatMap (tickOne r) = L at *
    obtain ⟨ms', _, ho', _⟩ := id hO
    obtain ⟨vA, vc, rfl, _⟩ := own_sl ho'
    clear ho' hcc hg
    rcases hkk : r.acks.lookup x with _ | k
    ·rw [hkk] at hlk
     simp only [Option.isSome_none, Option.getD_none] at hlk
     have HO := hide (show tickOne r x = [⟨x, ⟨1, r.v.e, r.v, 0, r.sure, r.log⟩⟩] by unfold tickOne; rw [hkk])
     clear hkk
     have hown7 : ∀ k, (T k ∨ (Value.slice vA L.length vc).ownBlock = some k) → k < wo.heap.size := fun k hk => by
      rcases hk with hk | hk
      ·have := hX7.lt k hk; omega
      ·obtain ⟨ms2, _, ho2, _⟩ := hO
       cases vA with
       | none => cases hk
       | some ad => cases hk; exact (own_addr ho2 _ rfl).2
     have hownge : ∀ k, (Value.slice vA L.length vc).ownBlock = some k → w7.heap.size ≤ k := fun k hk => by
      obtain ⟨ms2, _, ho2, _⟩ := hO
      cases vA with
      | none => cases hk
      | some ad => cases hk; exact (own_addr ho2 _ rfl).1
     have hBg := fun V => hXo.blk.ext V
     go_wp2
     refine wp_region_below w7.heap.size [6, 12, 16] [0, 1, 2, 3, 4, 5, 7, 9, 10, 11, 13, 14, 15, 18, 19] [(true, false, 0), (true, false, 1), (true, false, 2), (true, false, 3), (true, false, 4), (true, false, 5), (true, true, 6), (true, false, 7), (true, false, 9), (true, false, 10), (true, false, 11), (true, true, 12), (true, false, 13), (true, false, 14), (true, false, 15), (true, true, 16), (false, true, 8), (false, true, 17), (true, false, 18), (true, false, 19), (false, true, 20), (false, true, 21), (false, false, 22)] (by kernel_rfl) (by kernel_rfl) (fun V => ?_); simp only [List.map_cons, List.map_nil, List.getD_cons_zero, List.getD_cons_succ]
     have hXV := hXo.below (World.below_ext wo V)
     have hOV := hO.below (World.below_ext wo V)
     have hsV := (World.below_ext wo V).size
     have hbV : Below w7.heap.size w7 (wo.ext V) := hb.trans ((World.below_ext wo V).mono hs7)
     (repeat (first | (refine wfp fun K hK => ?_; go_simp; refine hK _ _ ?_; clear hK K) | (refine wff fun K hK => ?_; go_simp; refine hK _ _ ?_; clear hK K)))
     (refine first_read rfl (v := .int .i64 r.v.e) (fun w' hw' => ?_) (fun K hK => ?_); rotate_left 1; go_simp; refine hK _ _ ?_; clear hK K; rotate_left 1; (have hB' := Blk.below (hBg V) hw' hlg7; have c' := Blk.cell hB'; go_simp))
     (repeat (first | (refine wfp fun K hK => ?_; go_simp; refine hK _ _ ?_; clear hK K) | (refine wff fun K hK => ?_; go_simp; refine hK _ _ ?_; clear hK K)))
     (refine first_read rfl (v := .int .i64 (r.sure : Int)) (fun w' hw' => ?_) (fun K hK => ?_); rotate_left 1; go_simp; refine hK _ _ ?_; clear hK K; rotate_left 1; (have hB' := Blk.below (hBg V) hw' hlg7; have c' := Blk.cell hB'; go_simp))
     (repeat (first | (refine wfp fun K hK => ?_; go_simp; refine hK _ _ ?_; clear hK K) | (refine wff fun K hK => ?_; go_simp; refine hK _ _ ?_; clear hK K)))
     (refine first_read rfl (v := .slice Al r.log.length cl) (fun w' hw' => ?_) (fun K hK => ?_); rotate_left 1; go_simp; refine hK _ _ ?_; clear hK K; rotate_left 1; (have hB' := Blk.below (hBg V) hw' hlg7; have c' := Blk.cell hB'; go_simp))
     (repeat (first | (refine wfp fun K hK => ?_; go_simp; refine hK _ _ ?_; clear hK K) | (refine wff fun K hK => ?_; go_simp; refine hK _ _ ?_; clear hK K)))
     refine First.wpF_must (fun K hK => ?_)
     go_wp2_with (go_at_call 45; (with_reducible refine (rview_any _ hXV hok).mono ?_); rintro e w8 ⟨⟨v8, rfl, ho8⟩, hb8⟩; obtain ⟨A8, c8, rfl, _⟩ := own_sl ho8)
     have hs8 := hb8.size
     (refine hK _ _ (fun hnd => by first | exact Bool.noConfusion hnd | exact hb8.mono (by omega)) ?_; clear hK K)
     (repeat (first | (refine wfp fun K hK => ?_; go_simp; refine hK _ _ ?_; clear hK K) | (refine wff fun K hK => ?_; go_simp; refine hK _ _ ?_; clear hK K)))
     have hX8 := hXV.below hb8
     refine First.wpF_must (fun K hK => ?_)
     go_wp2_with (go_at_call 36; (with_reducible refine (twins_any Al r.log.length cl r.log _ hX8.ents hok.n).mono ?_); rintro e w9 ⟨A9, c9, rfl, hO9, hb9⟩)
     have hs9 := hb9.size
     (refine hK _ _ (fun hnd => by first | exact Bool.noConfusion hnd | exact hb9.mono (by omega)) ?_; clear hK K)
     have hM : MgW w9 (fun k => T k ∨ (Value.slice vA L.length vc).ownBlock = some k) (.slice A8 r.v.l.length c8) (.slice A9 r.log.length c9) ⟨1, r.v.e, r.v, 0, r.sure, r.log⟩ := MgW.made (m := ⟨1, r.v.e, r.v, 0, r.sure, r.log⟩) (b1 := (wo.ext V).heap.size) (b2 := w8.heap.size) (own_keep ho8 fun k _ hk => hb9.block k hk) hO9 (fun k hk => by have := hown7 k hk; omega) (fun k hk => by have := hown7 k hk; omega)
     have hO11 := (hOV.below hb8).below hb9
     have hb09 : Below w7.heap.size w7 w9 := (hbV.trans (hb8.mono (by omega))).trans (hb9.mono (by omega))
     (repeat (first | (refine wfp fun K hK => ?_; go_simp; refine hK _ _ ?_; clear hK K) | (refine wff fun K hK => ?_; go_simp; refine hK _ _ ?_; clear hK K))); refine First.wpF_must (fun K hK => ?_); go_wp2; (refine hK _ _ (fun hnd => by first | exact Bool.noConfusion hnd | exact Below.alloc (Below.refl _ _) hb09.size _) ?_; clear hK K); refine First.wpF_must (fun K hK => ?_); go_wp2_with (at_builtin; refine app_out rfl (.tmp 35) (.tmp 55) rfl T w7.heap.size (.slice vA L.length vc) L ⟨⟨x, ⟨1, r.v.e, r.v, 0, r.sure, r.log⟩⟩, .slice A8 r.v.l.length c8, .slice A9 r.log.length c9⟩ _ rfl rfl hO11 hM _ rfl rfl (by omega) hb09.size (fun v' w10 hO' hc10 hz10 => ?_)); (have hb10 : Below w7.heap.size (w9.alloc (.cells #[.int .i64 x, .int .i64 1, .int .i64 r.v.e, .int .i64 r.v.e, .int .i64 r.v.p, .slice A8 r.v.l.length c8, .int .i64 0, .int .i64 (r.sure : Int), .slice A9 r.log.length c9] 90)) w10 := ⟨hc10.os, hc10.tape, hc10.output, (by simpa using hz10), (fun k hk => (hc10.block k (by have := hb09.size; omega) (fun e => by have := hownge k e; omega)).trans (Below.heap_alloc w9 _ k (by have := hb09.size; omega)).symm)⟩); (refine hK _ _ (fun hnd => by first | exact Bool.noConfusion hnd | exact hb10) ?_; clear hK K); (repeat (first | (refine wfp fun K hK => ?_; go_simp; refine hK _ _ ?_; clear hK K) | (refine wff fun K hK => ?_; go_simp; refine hK _ _ ?_; clear hK K))); refine First.wpF_must (fun K hK => ?_); go_wp2; (refine hK _ _ (fun hnd => by first | exact Bool.noConfusion hnd | assumption | with_reducible (first | exact grown_alloc _ _ | exact First.Grown.refl _ | exact First.Grown.cat _ _ _ | exact First.Grown.ext _ _)) ?_; clear hK K); refine First.wpF_nil ?_
     go_wp2
     refine wp_loop_rounds 1 ?_
     rw [rounds_succ]
     go_wp2
     go_roundw
     case rel => exact ⟨j + 1, by omega, by go_num, by rw [HT.out, HO.out]; exact hO', (hb09.alloc hb09.size _).trans hb10⟩
     case measure => simp [intOf]; omega
    ·rw [hkk] at hlk
     simp only [Option.isSome_some, Option.getD_some] at hlk
     have HO := hide (show tickOne r x = (if k = r.log.length then [⟨x, ⟨2, r.v.e, Vi.none, k, r.sure, []⟩⟩] else []) ++ shipsP r x k 16 by unfold tickOne; rw [hkk])
     have hk4 := (hok.ak _ (lookup_mem hkk)).1
     have hn4 := hok.n
     clear hkk
     have hown7 : ∀ k, (T k ∨ (Value.slice vA L.length vc).ownBlock = some k) → k < wo.heap.size := fun k hk => by
      rcases hk with hk | hk
      ·have := hX7.lt k hk; omega
      ·obtain ⟨ms2, _, ho2, _⟩ := hO
       cases vA with
       | none => cases hk
       | some ad => cases hk; exact (own_addr ho2 _ rfl).2
     have hownge : ∀ k, (Value.slice vA L.length vc).ownBlock = some k → w7.heap.size ≤ k := fun k hk => by
      obtain ⟨ms2, _, ho2, _⟩ := hO
      cases vA with
      | none => cases hk
      | some ad => cases hk; exact (own_addr ho2 _ rfl).1
     have hBg := fun V => hXo.blk.ext V
     go_upto_block 2 with fail
     go_cut [3] (fun s3 wx => ∃ (A3 : Option Addr) (n3 c3 : Nat), s3 = .slice A3 n3 c3 ∧ OwnO wx T w7.heap.size s3 (L ++ (if k = r.log.length then [⟨x, ⟨2, r.v.e, Vi.none, k, r.sure, []⟩⟩] else [])) ∧ Below w7.heap.size w7 wx)
     case first =>
      by_cases hkl : k = r.log.length
      ·subst hkl
       go_wp2
       refine wp_region_below w7.heap.size [6, 11] [0, 1, 2, 3, 4, 5, 7, 8, 9, 10, 12, 13] [(true, false, 0), (true, false, 1), (true, false, 2), (true, false, 3), (true, false, 4), (true, false, 5), (true, true, 6), (true, false, 7), (true, false, 8), (true, false, 9), (true, false, 10), (true, true, 11), (true, false, 12), (true, false, 13), (false, true, 14), (false, true, 15), (false, false, 16)] (by kernel_rfl) (by kernel_rfl) (fun V => ?_); simp only [List.map_cons, List.map_nil, List.getD_cons_zero, List.getD_cons_succ]
       have hOV := hO.below (World.below_ext wo V)
       have hsV := (World.below_ext wo V).size
       have hbV : Below w7.heap.size w7 (wo.ext V) := hb.trans ((World.below_ext wo V).mono hs7)
       have hM : MgW (wo.ext V) (fun k => T k ∨ (Value.slice vA L.length vc).ownBlock = some k) (.slice none 0 0) (.slice none 0 0) ⟨2, r.v.e, Vi.none, r.log.length, r.sure, []⟩ := ⟨⟨none, 0, rfl, Reads.none_, fun h => absurd h (by simp [Vi.none])⟩, none, 0, rfl, Ents.nil _ _⟩
       (repeat (first | (refine wfp fun K hK => ?_; go_simp; refine hK _ _ ?_; clear hK K) | (refine wff fun K hK => ?_; go_simp; refine hK _ _ ?_; clear hK K)))
       (refine first_read rfl (v := .int .i64 r.v.e) (fun w' hw' => ?_) (fun K hK => ?_); rotate_left 1; go_simp; refine hK _ _ ?_; clear hK K; rotate_left 1; (have hB' := Blk.below (hBg V) hw' hlg7; have c' := Blk.cell hB'; go_simp))
       (repeat (first | (refine wfp fun K hK => ?_; go_simp; refine hK _ _ ?_; clear hK K) | (refine wff fun K hK => ?_; go_simp; refine hK _ _ ?_; clear hK K)))
       (refine first_read rfl (v := .int .i64 (r.sure : Int)) (fun w' hw' => ?_) (fun K hK => ?_); rotate_left 1; go_simp; refine hK _ _ ?_; clear hK K; rotate_left 1; (have hB' := Blk.below (hBg V) hw' hlg7; have c' := Blk.cell hB'; go_simp))
       (repeat (first | (refine wfp fun K hK => ?_; go_simp; refine hK _ _ ?_; clear hK K) | (refine wff fun K hK => ?_; go_simp; refine hK _ _ ?_; clear hK K))); refine First.wpF_must (fun K hK => ?_); go_wp2; (refine hK _ _ (fun hnd => by first | exact Bool.noConfusion hnd | exact Below.alloc (Below.refl _ _) hbV.size _) ?_; clear hK K); refine First.wpF_must (fun K hK => ?_); go_wp2_with (at_builtin; refine app_out rfl (.tmp 65) (.tmp 79) rfl T w7.heap.size (.slice vA L.length vc) (L) ⟨⟨x, ⟨2, r.v.e, Vi.none, r.log.length, r.sure, []⟩⟩, .slice none 0 0, .slice none 0 0⟩ _ rfl rfl hOV hM _ (by first | rfl | simp only [World.size_ext]) rfl (by omega) hbV.size (fun v' w10 hO' hc10 hz10 => ?_)); (have hb10 : Below w7.heap.size ((wo.ext V).alloc (.cells #[.int .i64 x, .int .i64 2, .int .i64 r.v.e, .int .i64 0, .int .i64 0, .slice none 0 0, .int .i64 (r.log.length : Int), .int .i64 (r.sure : Int), .slice none 0 0] 90)) w10 := ⟨hc10.os, hc10.tape, hc10.output, (by simpa using hz10), (fun k hk => (hc10.block k (by have := hbV.size; omega) (fun e => by have := hownge k e; omega)).trans (Below.heap_alloc (wo.ext V) _ k (by have := hbV.size; omega)).symm)⟩); (refine hK _ _ (fun hnd => by first | exact Bool.noConfusion hnd | exact hb10) ?_; clear hK K); (repeat (first | (refine wfp fun K hK => ?_; go_simp; refine hK _ _ ?_; clear hK K) | (refine wff fun K hK => ?_; go_simp; refine hK _ _ ?_; clear hK K))); refine First.wpF_must (fun K hK => ?_); go_wp2; (refine hK _ _ (fun hnd => by first | exact Bool.noConfusion hnd | assumption | with_reducible (first | exact grown_alloc _ _ | exact First.Grown.refl _ | exact First.Grown.cat _ _ _ | exact First.Grown.ext _ _)) ?_; clear hK K); refine First.wpF_nil ?_
       go_wp2_with fail
       obtain ⟨A10, n10, c10, rfl⟩ : ∃ A n c, v' = .slice A n c := by
        obtain ⟨ms', _, ho', _⟩ := hO'
        obtain ⟨A', c', e', _⟩ := own_sl ho'
        exact ⟨A', _, c', e'⟩
       go_meet
       case rel => exact ⟨A10, n10, c10, rfl, by first | (rw [if_pos rfl]; exact hO') | (rw [if_pos trivial]; exact hO'), (hbV.alloc hbV.size _).trans hb10⟩
      ·have d1 : ((k : Int) == (r.log.length : Int)) = false := by simp; omega
       go_wp2_with fail
       go_meet
       case rel => exact ⟨vA, L.length, vc, rfl, by rw [if_neg hkl, List.append_nil]; exact hO, hb⟩
     case rest =>
      obtain ⟨A3, n3, c3, rfl, hO3, hb3⟩ := hcut
      clear hO hown7 hownge hBg cXo lXo hlk m1
      go_wp2_with fail
      go_loopw [3, 8] (fun vo vi wr => ∃ t i : Nat, i = k + t ∧ t ≤ 16 ∧ i ≤ max k r.log.length ∧ vi = .int .i64 (i : Int) ∧ OwnO wr T w7.heap.size vo (L ++ (if k = r.log.length then [⟨x, ⟨2, r.v.e, Vi.none, k, r.sure, []⟩⟩] else []) ++ shipsP r x k t) ∧ Below w7.heap.size w7 wr) (fun _ vi _ => ((k + 17 : Int) - intOf vi).toNat)
      case atStart => exact ⟨0, k, rfl, by omega, by omega, rfl, by simpa [shipsP] using hO3, hb3⟩
      case round =>
       clear hO3 hb3
       obtain ⟨t, i, hi, ht, hil, rfl, hO, hb⟩ := hrel
       obtain ⟨w4, rfl⟩ : ∃ w4 : World, w4 = wr := ⟨_, rfl⟩
       have hs4 := hb.size
       have hXo := hX7.below hb
       have cXo := hXo.blk.cell
       have lXo := hXo.blk.lt
       have hw16 : IntKind.i64.wrap ((k : Int) + 16) = (k : Int) + 16 := IntWalk.i64_in _ (by omega)
       by_cases hin : i < k + 16 ∧ i < r.log.length
       ·obtain ⟨hin1, hin2⟩ := hin
        subst hi
        have hBg := fun V => hXo.blk.ext V
        obtain ⟨bl, ol, hAl⟩ : ∃ b o, Al = some ⟨b, o, none⟩ := by
         obtain ⟨⟨ms2, _, hr2, _⟩, _, _⟩ := hXo.ents
         obtain ⟨b, o, e', _⟩ := hr2.plain (by omega) (by omega)
         exact ⟨b, o, e'⟩
        subst hAl
        have hxg : r.log[k + t]? = some r.log[k + t] := List.getElem?_eq_getElem hin2
        have hEp := hXo.ents.part hxg
        generalize r.log[k + t] = xe at *
        have HN := hide (show L ++ (if k = r.log.length then ([⟨x, ⟨2, r.v.e, Vi.none, k, r.sure, []⟩⟩] : List Ot) else []) ++ shipsP r x k (t + 1) = (L ++ (if k = r.log.length then ([⟨x, ⟨2, r.v.e, Vi.none, k, r.sure, []⟩⟩] : List Ot) else []) ++ shipsP r x k t) ++ ([⟨x, ⟨2, r.v.e, Vi.none, (k + t + 1 : Nat), r.sure, [xe]⟩⟩] : List Ot) by rw [ships_next hxg, ← List.append_assoc])
        have hLn2 : (L ++ (if k = r.log.length then ([⟨x, ⟨2, r.v.e, Vi.none, k, r.sure, []⟩⟩] : List Ot) else []) ++ shipsP r x k t).length ≤ 200 := by
         have := ships_len r x k t
         rw [List.length_append, List.length_append]
         split <;> simp <;> omega
        generalize L ++ (if k = r.log.length then ([⟨x, ⟨2, r.v.e, Vi.none, k, r.sure, []⟩⟩] : List Ot) else []) ++ shipsP r x k t = L2 at *
        obtain ⟨ms3, _, ho3, _⟩ := id hO
        obtain ⟨A4, c4, rfl, _⟩ := own_sl ho3
        clear ho3
        have hown7 : ∀ k, (T k ∨ (Value.slice A4 L2.length c4).ownBlock = some k) → k < w4.heap.size := fun k hk => by
         rcases hk with hk | hk
         ·have := hX7.lt k hk; omega
         ·obtain ⟨ms2, _, ho2, _⟩ := hO
          cases A4 with
          | none => cases hk
          | some ad => cases hk; exact (own_addr ho2 _ rfl).2
        have hownge : ∀ k, (Value.slice A4 L2.length c4).ownBlock = some k → w7.heap.size ≤ k := fun k hk => by
         obtain ⟨ms2, _, ho2, _⟩ := hO
         cases A4 with
         | none => cases hk
         | some ad => cases hk; exact (own_addr ho2 _ rfl).1
        have hwi : IntKind.i64.wrap ((k : Int) + (t : Int) + 1) = (k : Int) + (t : Int) + 1 := IntWalk.i64_in _ (by omega)
        have z1 : ((k : Int) + (t : Int)).toNat = k + t := by omega
        have z2 : ((k : Int) + (t : Int) + 1).toNat - (k + t) = 1 := by omega
        have zc : ¬cl = k + t := by omega
        have zi : (0 : Int) ≤ (k : Int) + (t : Int) + 1 := by omega
        have zj : (0 : Int) ≤ (k : Int) + (t : Int) ∧ (k : Int) + (t : Int) ≤ max ((k : Int) + (t : Int) + 1) 0 := by omega
        have hcl1 : (k : Int) + (t : Int) + 1 ≤ (cl : Int) := by omega
        have hcl2 : k + t + 1 ≤ cl := by omega
        go_wp2
        all_goals
         refine wp_region_below w7.heap.size [6, 12, 16, 20] [0, 1, 2, 3, 4, 5, 7, 8, 9, 10, 11, 13, 14, 15, 17, 18, 19, 22, 23] [(true, false, 0), (true, false, 1), (true, false, 2), (true, false, 3), (true, false, 4), (true, false, 5), (true, true, 6), (true, false, 7), (true, false, 8), (true, false, 9), (true, false, 10), (true, false, 11), (true, true, 12), (true, false, 13), (true, false, 14), (true, false, 15), (true, true, 16), (true, false, 17), (true, false, 18), (true, false, 19), (true, true, 20), (false, true, 21), (true, false, 22), (true, false, 23), (false, true, 24), (false, true, 25), (false, false, 26)] (by kernel_rfl) (by kernel_rfl) (fun V => ?_); simp only [List.map_cons, List.map_nil, List.getD_cons_zero, List.getD_cons_succ]
         (repeat (first | (refine wfp fun K hK => ?_; go_simp; refine hK _ _ ?_; clear hK K) | (refine wff fun K hK => ?_; go_simp; refine hK _ _ ?_; clear hK K)))
         (refine first_read rfl (v := .int .i64 r.v.e) (fun w' hw' => ?_) (fun K hK => ?_); rotate_left 1; go_simp; refine hK _ _ ?_; clear hK K; rotate_left 1; (have hB' := Blk.below (hBg V) hw' hlg7; have c' := Blk.cell hB'; go_simp))
         (repeat (first | (refine wfp fun K hK => ?_; go_simp; refine hK _ _ ?_; clear hK K) | (refine wff fun K hK => ?_; go_simp; refine hK _ _ ?_; clear hK K)))
         (refine first_read rfl (v := .int .i64 (r.sure : Int)) (fun w' hw' => ?_) (fun K hK => ?_); rotate_left 1; go_simp; refine hK _ _ ?_; clear hK K; rotate_left 1; (have hB' := Blk.below (hBg V) hw' hlg7; have c' := Blk.cell hB'; go_simp))
         (repeat (first | (refine wfp fun K hK => ?_; go_simp; refine hK _ _ ?_; clear hK K) | (refine wff fun K hK => ?_; go_simp; refine hK _ _ ?_; clear hK K)))
         (refine first_read rfl (v := .slice (some ⟨bl, ol, none⟩) r.log.length cl) (fun w' hw' => ?_) (fun K hK => ?_); rotate_left 1; go_simp; refine hK _ _ ?_; clear hK K; rotate_left 1; (have hB' := Blk.below (hBg V) hw' hlg7; have c' := Blk.cell hB'; go_simp))
         (repeat (first | (refine wfp fun K hK => ?_; go_simp; refine hK _ _ ?_; clear hK K) | (refine wff fun K hK => ?_; go_simp; refine hK _ _ ?_; clear hK K)))
         (refine first_read rfl (v := .slice (some ⟨bl, ol + (k + t) * 2, none⟩) 1 (cl - (k + t))) (fun w' hw' => ?_) (fun K hK => ?_); rotate_left 1; go_simp; refine hK _ _ ?_; clear hK K; rotate_left 1; focus (go_simp <;> rw [if_pos zi, if_pos zj, z1, if_neg zc, z2]))
         (repeat (first | (refine wfp fun K hK => ?_; go_simp; refine hK _ _ ?_; clear hK K) | (refine wff fun K hK => ?_; go_simp; refine hK _ _ ?_; clear hK K)))
         have hOV := hO.below (World.below_ext w4 V)
         have hsV := (World.below_ext w4 V).size
         have hbV : Below w7.heap.size w7 (w4.ext V) := hb.trans ((World.below_ext w4 V).mono hs4)
         refine First.wpF_must (fun K hK => ?_)
         go_wp2_with (go_at_call 36; (with_reducible refine (twins_any _ 1 (cl - (k + t)) [xe] _ (hEp.kp (Kp.of_below (World.below_ext w4 V))) (by omega)).mono ?_); rintro e w9 ⟨A9, c9, rfl, hO9, hb9⟩)
         have hs9 := hb9.size
         (refine hK _ _ (fun hnd => by first | exact Bool.noConfusion hnd | exact hb9.mono (by omega)) ?_; clear hK K)
         have hM : MgW w9 (fun k => T k ∨ (Value.slice A4 L2.length c4).ownBlock = some k) (.slice none 0 0) (.slice A9 1 c9) ⟨2, r.v.e, Vi.none, (k + t + 1 : Nat), r.sure, [xe]⟩ := ⟨⟨none, 0, rfl, Reads.none_, fun h => absurd h (by simp [Vi.none])⟩, A9, c9, rfl, hO9.ents rfl (fun k hk => by have := hown7 k hk; omega) (fun k hk => .inl (by have := hown7 k hk; omega))⟩
         have hO11 := hOV.below hb9
         have hb09 : Below w7.heap.size w7 w9 := hbV.trans (hb9.mono (by omega))
         (repeat (first | (refine wfp fun K hK => ?_; go_simp; refine hK _ _ ?_; clear hK K) | (refine wff fun K hK => ?_; go_simp; refine hK _ _ ?_; clear hK K))); refine First.wpF_must (fun K hK => ?_); go_wp2; (refine hK _ _ (fun hnd => by first | exact Bool.noConfusion hnd | exact Below.alloc (Below.refl _ _) hb09.size _) ?_; clear hK K); refine First.wpF_must (fun K hK => ?_); go_wp2_with (at_builtin; refine app_out rfl (.tmp 97) (.tmp 121) rfl T w7.heap.size (.slice A4 L2.length c4) (L2) ⟨⟨x, ⟨2, r.v.e, Vi.none, (k + t + 1 : Nat), r.sure, [xe]⟩⟩, .slice none 0 0, .slice A9 1 c9⟩ _ rfl rfl hO11 hM _ (by first | rfl | simp only [World.size_ext]) rfl (by omega) hb09.size (fun v' w10 hO' hc10 hz10 => ?_)); (have hb10 : Below w7.heap.size (w9.alloc (.cells #[.int .i64 x, .int .i64 2, .int .i64 r.v.e, .int .i64 0, .int .i64 0, .slice none 0 0, .int .i64 ((k : Int) + (t : Int) + 1), .int .i64 (r.sure : Int), .slice A9 1 c9] 90)) w10 := ⟨hc10.os, hc10.tape, hc10.output, (by simpa using hz10), (fun k hk => (hc10.block k (by have := hb09.size; omega) (fun e => by have := hownge k e; omega)).trans (Below.heap_alloc w9 _ k (by have := hb09.size; omega)).symm)⟩); (refine hK _ _ (fun hnd => by first | exact Bool.noConfusion hnd | exact hb10) ?_; clear hK K); (repeat (first | (refine wfp fun K hK => ?_; go_simp; refine hK _ _ ?_; clear hK K) | (refine wff fun K hK => ?_; go_simp; refine hK _ _ ?_; clear hK K))); refine First.wpF_must (fun K hK => ?_); go_wp2; (refine hK _ _ (fun hnd => by first | exact Bool.noConfusion hnd | assumption | with_reducible (first | exact grown_alloc _ _ | exact First.Grown.refl _ | exact First.Grown.cat _ _ _ | exact First.Grown.ext _ _)) ?_; clear hK K); refine First.wpF_nil ?_
         go_wp2_with fail
         go_roundw
         (case rel => exact ⟨t + 1, k + t + 1, by omega, by omega, by omega, by go_num, by rw [HN.out]; exact hO', (hb09.alloc hb09.size _).trans hb10⟩)
         (case measure => simp [intOf]; omega)
       ·have hS : shipsP r x k 16 = shipsP r x k t := by
         rcases Nat.lt_or_ge (k + t) r.log.length with h' | h'
         ·obtain rfl : t = 16 := by omega
          rfl
         ·exact ships_more h' 16 ht
        go_wp2
        all_goals
         go_roundw
         (case rel => exact ⟨j + 1, by omega, by go_num, by rw [HT.out, HO.out, hS, ← List.append_assoc]; exact hO, hb⟩)
         (case measure => simp [intOf]; omega)
   ·obtain rfl : j = (othersP r).length := by omega
    rw [List.take_length] at hO
    obtain ⟨vA, vc, rfl, hOu⟩ := hO.outs (fun k hk hT => by have := hX7.lt k hT; omega)
    clear hO
    go_wp2
    go_ret
    exact ⟨⟨vA, vc, rfl, hOu⟩, hb07.trans (hb.mono hb07.size)⟩
end Go.Proofs.YtjhcgnmibnjocaaGreat
