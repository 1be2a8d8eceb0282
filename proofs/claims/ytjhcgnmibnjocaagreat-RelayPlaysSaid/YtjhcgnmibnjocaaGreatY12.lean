import Derived.Test.YtjhcgnmibnjocaaGreatY11
import Derived.Test.YtjhcgnmibnjocaaGreatGA
import Derived.Deep.DeepCutAuto
/-! A relay enters a command. -/
namespace Go.Proofs.YtjhcgnmibnjocaaGreat
open Go.RowKit Go.Maps
set_option linter.unusedVariables false
set_option linter.unusedSimpArgs false
theorem RelX.log {W W3 : World} {S T : Nat → Prop} {g : Nat} {r : Rl} {Am : Option Addr} {cm : Nat} {vl v' : Value} {mb : Nat} (h : RelX W S T g r Am cm vl mb) (hc : Chg W W3 vl v') (l' : List Ent) (ho : OwnE W3 (fun k => T k ∨ v'.ownBlock = some k) 0 v' l') :
  RelX (W3.setCell ⟨g, 4, none⟩ v') (fun k => S k ∨ v'.ownBlock = some k) (fun k => T k ∨ v'.ownBlock = some k) g { r with log := l' } Am cm v' mb ∧ Kp S W (W3.setCell ⟨g, 4, none⟩ v') ∧ (∀ k, v'.ownBlock = some k → S k ∨ W.heap.size ≤ k) := by
 have hg := h.blk.lt
 have hlies : ∀ k, v'.ownBlock = some k → S k ∨ W.heap.size ≤ k := fun k hk => by
  rcases hc.lies with e | ⟨b, e, hb⟩
  ·exact .inl (h.vs k (e ▸ hk))
  ·rw [e] at hk; cases hk; exact .inr hb
 have hvg : v'.ownBlock ≠ some g := by
  rcases hc.lies with e | ⟨b, e, hb⟩
  ·rw [e]; exact h.vg
  ·rw [e]; intro e'; cases e'; omega
 have hml := h.mp.lt
 have hvm : v'.ownBlock ≠ some mb := by
  rcases hc.lies with e | ⟨b, e, hb⟩
  ·rw [e]; exact h.vm
  ·rw [e]; intro e'; cases e'; omega
 have hk3 : Kp S W W3 := ⟨hc.os, hc.tape, hc.output, hc.size, fun k hk hn => hc.block k hk fun e => hn (h.vs k e)⟩
 have hk4 : Kp S W (W3.setCell ⟨g, 4, none⟩ v') := hk3.set_ (.inl h.g) _
 have hB3 : Blk W3 g 77 #[.int .i64 r.id, .int .i64 r.v.e, .int .i64 r.v.p, .slice Am r.v.l.length cm, vl, .int .i64 r.joined, .int .i64 (r.sure : Int), .map (some mb), .bool r.act] := (hc.block g hg h.vg).trans h.blk
 refine ⟨⟨Blk.set_to hB3 rfl, ?_, fun h0 a ha ht => ?_, ?_, fun k hk => .inr hk, ?_, .inl h.ms, h.mg, hvg, hvm, .inl h.g, fun k hk => hk.imp (h.sub k) id, fun k hk => ?_⟩, hk4, hlies⟩
 ·exact Reads.kp h.rd (hk4.weaken h.sub) h.mt
 ·have hal : a.block < W.heap.size := by
   obtain ⟨a', e', hl, _⟩ := h.rd.2 h0
   rw [ha] at e'; cases e'; exact hl
  rcases ht with ht | ht
  ·exact h.mt h0 a ha ht
  ·rcases hlies _ ht with hs | hs
   ·exact h.mt h0 a ha (h.sub _ hs)
   ·omega
 ·exact ho.keep (T := fun k => T k ∨ v'.ownBlock = some k) ⟨rfl, rfl, rfl, by simp, fun k _ hn => Below.heap_setCell W3 _ _ k (fun e => hn (.inl (by rw [e]; exact h.sub _ h.g)))⟩ (fun k hv _ => Below.heap_setCell W3 _ _ k (fun e => hvg (by rw [hv, e])))
 ·exact (h.mp.kp (S := fun k => vl.ownBlock = some k) (w' := W3) ⟨hc.os, hc.tape, hc.output, hc.size, fun k hk hn => hc.block k hk hn⟩ h.vm).kp (S := fun k => k = g) ⟨rfl, rfl, rfl, by simp, fun k _ hn => Below.heap_setCell W3 _ _ k hn⟩ h.mg
 ·rw [World.size_setCell]
  rcases hk with hk | hk
  ·exact Nat.lt_of_lt_of_le (h.lt k hk) hc.size
  ·obtain ⟨ms, _, ho', _⟩ := ho
   rcases ho'.2 with ⟨e, _⟩ | ⟨g', cap, cur, e, hb, hh, _⟩
   ·rw [e] at hk; cases hk
   ·rw [e] at hk; cases hk; exact Blk.lt hh
theorem proposed_ok {r : Rl} (h : r.ok) {t : List Nat} (hn : r.log.length < 4096) (ht : t.length ≤ 262144) (hb : ∀ x ∈ t, x < 256) :
  ({ r with log := r.log ++ [⟨r.v.e, t⟩], acks := ackedL r.id (r.log.length + 1) r.acks } : Rl).ok := by
 have he : I64 r.v.e := by
  rcases h.v with e | e
  ·rw [e]; unfold I64 Vi.none; simp
  ·have := right_bd e; unfold I64; omega
 refine ⟨h.id, h.v, by simp; omega, fun x hx => ?_, h.j, h.s, acked_ok h.ak (by omega) h.id, acked_nodup h.an⟩
 rcases List.mem_append.1 hx with hx | hx
 ·exact h.log x hx
 ·simp only [List.mem_singleton] at hx
  subst hx
  exact ⟨he, ht, hb⟩
set_option maxRecDepth 100000 in
set_option maxHeartbeats 4000000 in
theorem propose_any {S T T0 : Nat → Prop} {g : Nat} {r : Rl} (u : Value) (t : List Nat) (w : World) (h : RelW w S T g r) (hu : Bsl w T0 u t) (hn0 : t.length ≤ 1000000) :
  Calls Tryz.prog 10 #[.pointer (some ⟨g, 0, none⟩), u] w fun e w' => Aft w w' S T g (proposeP r t).r fun T' =>
   ∃ A1 n1 c1 A2 n2 c2, e = .returned (.tuple #[.int .i64 ((proposeP r t).at_ : Int), .slice A1 n1 c1, .slice A2 n2 c2, .int .i64 (proposeP r t).e]) ∧ Recs w' T' A1 n1 (proposeP r t).recs ∧ Outs w' T' A2 n2 (proposeP r t).outs := by
 have hW := h
 obtain ⟨hok, Am, cm, vl, mb, hX⟩ := h
 have hL := leads_any w hX
 have c0 := hX.blk.cell
 have l0 := hX.blk.lt
 obtain ⟨Au, cu, rfl, hur, hunil⟩ := hu.exR
 have hby := hu.by_
 by_cases hn : 262144 < t.length
 ·have hP : proposeP r t = ⟨0, [], [], 8, r⟩ := by unfold proposeP; rw [if_pos hn]
  rw [hP]
  have hd : decide ((262144 : Int) < t.length) = true := by simp; omega
  go_enter Tryz.func10, Tryz.ntmps10
  go_wp2
  refine bodyPost_ret (v := .tuple #[.int .i64 0, .slice none 0 0, .slice none 0 0, .int .i64 8]) (by simp [results, Tryz.results10, go_sem] <;> rfl) rfl ?_
  exact Aft.same hW (Below.refl _ _) ⟨none, 0, 0, none, 0, 0, rfl, Recs.nil _ _, Outs.nil _ _⟩
 ·have hd : decide ((262144 : Int) < t.length) = false := by simp; omega
  cases hl : r.leads with
  | false =>
   have hP : proposeP r t = ⟨0, [], [], 3, r⟩ := by unfold proposeP; rw [if_neg hn, if_pos (by rw [hl]; rfl)]
   rw [hP]
   rw [hl] at hL
   go_enter Tryz.func10, Tryz.ntmps10
   go_wp2_with (go_at_call 32; (with_reducible refine hL.mono ?_); rintro e w1 ⟨rfl, hb1⟩)
   refine bodyPost_ret (v := .tuple #[.int .i64 0, .slice none 0 0, .slice none 0 0, .int .i64 3]) (by simp [results, Tryz.results10, go_sem] <;> rfl) rfl ?_
   exact Aft.same hW hb1 ⟨none, 0, 0, none, 0, 0, rfl, Recs.nil _ _, Outs.nil _ _⟩
  | true =>
   rw [hl] at hL
   cases hac : r.act with
   | false =>
    have hP : proposeP r t = ⟨0, [], [], 3, r⟩ := by unfold proposeP; rw [if_neg hn, if_pos (by rw [hac]; simp)]
    rw [hP]
    rw [hac] at c0
    go_enter Tryz.func10, Tryz.ntmps10
    go_wp2_with (go_at_call 32; (with_reducible refine hL.mono ?_); rintro e w1 ⟨rfl, hb1⟩; have c1 := (hX.below hb1).blk.cell; have l1 := (hX.below hb1).blk.lt; rw [hac] at c1)
    refine bodyPost_ret (v := .tuple #[.int .i64 0, .slice none 0 0, .slice none 0 0, .int .i64 3]) (by simp [results, Tryz.results10, go_sem] <;> rfl) rfl ?_
    exact Aft.same hW hb1 ⟨none, 0, 0, none, 0, 0, rfl, Recs.nil _ _, Outs.nil _ _⟩
   | true =>
    obtain ⟨ms, _, hown, _⟩ := id hX.own
    obtain ⟨Al, cl, hvl, hcl⟩ := own_sl hown
    clear hown
    subst hvl
    by_cases hf : 4096 ≤ r.log.length
    ·have hP : proposeP r t = ⟨0, [], [], 4, r⟩ := by unfold proposeP; rw [if_neg hn, if_neg (by rw [hl, hac]; simp), if_pos hf]
     rw [hP]
     have hd2 : decide ((4096 : Int) ≤ r.log.length) = true := by simp; omega
     go_enter Tryz.func10, Tryz.ntmps10
     go_wp2_with (go_at_call 32; (with_reducible refine hL.mono ?_); rintro e w1 ⟨rfl, hb1⟩; have c1 := (hX.below hb1).blk.cell; have l1 := (hX.below hb1).blk.lt; rw [hac] at c1)
     refine bodyPost_ret (v := .tuple #[.int .i64 0, .slice none 0 0, .slice none 0 0, .int .i64 4]) (by simp [results, Tryz.results10, go_sem] <;> rfl) rfl ?_
     exact Aft.same hW hb1 ⟨none, 0, 0, none, 0, 0, rfl, Recs.nil _ _, Outs.nil _ _⟩
    ·have hd2 : decide ((4096 : Int) ≤ r.log.length) = false := by simp; omega
     have hP : proposeP r t = ⟨r.log.length + 1, [recEntryP (r.log.length + 1) ⟨r.v.e, t⟩], (othersP r).map fun n => ⟨n, ⟨2, r.v.e, Vi.none, (r.log.length + 1 : Nat), (proposed r t).sure, [⟨r.v.e, t⟩]⟩⟩, 0, proposed r t⟩ := by unfold proposeP; rw [if_neg hn, if_neg (by rw [hl, hac]; simp), if_neg hf]
     have hPr := proposed_ok hok (t := t) (by omega) (by omega) hby
     rw [hP]
     clear c0
     go_enter Tryz.func10, Tryz.ntmps10
     go_upto_region 9 with (go_at_call 32; (with_reducible refine hL.mono ?_); rintro e w1 ⟨rfl, hb1⟩; have c1 := (hX.below hb1).blk.cell; have l1 := (hX.below hb1).blk.lt; rw [hac] at c1)
     clear hL hP
     go_cut [8] (fun s8 wx => ∃ (p : Nat) (v2 : Value), s8 = .pointer (some ⟨p, 0, none⟩) ∧ Blk wx p 65 #[.int .i64 r.v.e, v2] ∧ Bsl wx (fun k => k < w.heap.size ∨ k = p) v2 t ∧ w.heap.size ≤ p ∧ Below w.heap.size w wx)
     case first =>
      have hc := fun W h => cloneB_any (.slice Au t.length cu) t W (T := T0) h hn0
      have hbX := fun X => (hb1.trans ((World.below_ext w1 X).mono hb1.size))
      refine First.wp_region_tree_ext [4] [0, 1, 2, 3, 5, 7] (.fork [(true, false, 0), (true, false, 1), (true, false, 2), (true, false, 3), (true, true, 4), (true, false, 5)] true 6 (.leaf [(true, false, 7), (false, true, 8), (false, false, 9)]) true 8 (.leaf [(false, true, 6), (true, false, 7), (false, false, 9)])) (by kernel_rfl) (by kernel_rfl) (fun X => ?_); simp only [First.wpT, List.map_cons, List.map_nil, List.getD_cons_zero, List.getD_cons_succ]
      have huX := (hu.kp (Kp.of_below (hbX X)))
      have hsX := (hbX X).size
      (repeat (first | (refine wfp fun K hK => ?_; go_simp; refine hK _ _ ?_; clear hK K) | (refine wff fun K hK => ?_; go_simp; refine hK _ _ ?_; clear hK K)))
      refine First.wpF_nil ?_
      refine First.Both.mk ?_ ?_
      ·refine First.wpF_must (fun K hK => ?_)
       go_wp2_with (go_at_call 33; (with_reducible refine (hc _ huX).mono ?_); rintro e w2 ⟨v2, rfl, hr2, hb2⟩)
       have hgr : First.Grown _ w2 := World.ext_of_below hb2
       (refine hK _ _ (fun hnd => by first | exact Bool.noConfusion hnd | assumption | with_reducible (first | exact grown_alloc _ _ | exact First.Grown.refl _ | exact First.Grown.cat _ _ _ | exact First.Grown.ext _ _)) ?_; clear hK K)
       refine First.wpF_nil ?_
       obtain ⟨A2, n2, c2, rfl⟩ := hr2.shape
       (repeat (first | (refine wfp fun K hK => ?_; go_simp; refine hK _ _ ?_; clear hK K) | (refine wff fun K hK => ?_; go_simp; refine hK _ _ ?_; clear hK K)))
       refine First.wpF_must (fun K hK => ?_)
       go_wp2
       (refine hK _ _ (fun hnd => by first | exact Bool.noConfusion hnd | assumption | with_reducible (first | exact grown_alloc _ _ | exact First.Grown.refl _ | exact First.Grown.cat _ _ _ | exact First.Grown.ext _ _)) ?_; clear hK K)
       (repeat (first | (refine wfp fun K hK => ?_; go_simp; refine hK _ _ ?_; clear hK K) | (refine wff fun K hK => ?_; go_simp; refine hK _ _ ?_; clear hK K)))
       refine First.wpF_must (fun K hK => ?_)
       go_wp2
       (refine hK _ _ (fun hnd => by first | exact Bool.noConfusion hnd | assumption | with_reducible (first | exact grown_alloc _ _ | exact First.Grown.refl _ | exact First.Grown.cat _ _ _ | exact First.Grown.ext _ _)) ?_; clear hK K)
       refine First.wpF_nil ?_
       go_wp2_with fail
       go_meet
       case rel =>
        have hs2 := hb2.size
        refine ⟨w2.heap.size, _, rfl, Blk.new w2 _ _, ?_, by omega, ((hbX X).trans (hb2.mono hsX)).alloc (by omega) _⟩
        exact ((Bsl.row hr2 (T := fun k => k < w.heap.size) (fun k hk => by omega) hby).sub (T' := fun k => k < w.heap.size ∨ k = w2.heap.size) (fun k hk ht => ht.elim id (fun e => by omega))).kp (Kp.of_below (Below.alloc (Below.refl _ _) (Nat.le_refl _) _))
      ·refine First.wpF_must (fun K hK => ?_)
       go_wp2
       (refine hK _ _ (fun hnd => by first | exact Bool.noConfusion hnd | assumption | with_reducible (first | exact grown_alloc _ _ | exact First.Grown.refl _ | exact First.Grown.cat _ _ _ | exact First.Grown.ext _ _)) ?_; clear hK K)
       refine First.wpF_nil ?_
       (repeat (first | (refine wfp fun K hK => ?_; go_simp; refine hK _ _ ?_; clear hK K) | (refine wff fun K hK => ?_; go_simp; refine hK _ _ ?_; clear hK K)))
       have huY := huX.kp (Kp.of_below (Below.alloc (Below.refl _ _) (Nat.le_refl _) (.cells #[.int .i64 0, .slice none 0 0] 65)))
       have hPx := Blk.new (w1.ext X) 65 #[.int .i64 0, .slice none 0 0]
       refine First.wpF_must (fun K hK => ?_)
       go_wp2_with (go_at_call 33; (with_reducible refine (hc _ huY).mono ?_); rintro e w2 ⟨v2, rfl, hr2, hb2⟩)
       have hgr : First.Grown _ w2 := World.ext_of_below hb2
       (refine hK _ _ (fun hnd => by first | exact Bool.noConfusion hnd | assumption | with_reducible (first | exact grown_alloc _ _ | exact First.Grown.refl _ | exact First.Grown.cat _ _ _ | exact First.Grown.ext _ _)) ?_; clear hK K)
       obtain ⟨A2, n2, c2, rfl⟩ := hr2.shape
       have hP2 := hPx.below hb2 (by simp)
       have cP2 := hP2.cell
       have fP2 := hP2.frozen
       have lP2 := hP2.lt
       simp only [World.size_ext] at cP2 fP2 lP2
       (repeat (first | (refine wfp fun K hK => ?_; go_simp; refine hK _ _ ?_; clear hK K) | (refine wff fun K hK => ?_; go_simp; refine hK _ _ ?_; clear hK K)))
       refine First.wpF_must (fun K hK => ?_)
       go_wp2
       (refine hK _ _ (fun hnd => by first | exact Bool.noConfusion hnd | assumption | with_reducible (first | exact grown_alloc _ _ | exact First.Grown.refl _ | exact First.Grown.cat _ _ _ | exact First.Grown.ext _ _)) ?_; clear hK K)
       refine First.wpF_nil ?_
       go_wp2_with fail
       go_meet
       case rel =>
        have hs2 := hb2.size
        simp only [World.size_alloc, World.size_ext] at hs2 hsX
        simp only [World.size_ext] at hP2
        refine ⟨w1.heap.size + X.blocks.size, _, rfl, Blk.two hP2, ?_, by omega, ((((hbX X).alloc (by rw [World.size_ext]; omega) _).trans (hb2.mono (by simp [World.size_ext]; omega))).setCell (by show _ ≤ _; omega) _).setCell (by show _ ≤ _; omega) _⟩
        refine ((Bsl.row hr2 (T := fun k => k < w1.heap.size + X.blocks.size + 1) (fun k hk => by simp [World.size_ext]; omega) hby).sub (T' := fun k => k < w.heap.size ∨ k = w1.heap.size + X.blocks.size) (fun k hk ht => ht.elim (fun h => (show k < _ by omega)) (fun e => (show k < _ by omega)))).kp ?_
        exact ⟨rfl, rfl, rfl, by simp, fun k _ hn => (Below.heap_setCell _ _ _ k (fun e => hn (.inr e))).trans (Below.heap_setCell _ _ _ k (fun e => hn (.inr e)))⟩
     case rest =>
      obtain ⟨p, v2, rfl, hPx, hBx, hpge, hbx⟩ := hcut
      have hX2 := hX.below hbx
      obtain ⟨xA, xn, xc, rfl⟩ := hBx.sl
      have hs2 := hbx.size
      have lT := hX.lt
      have hpl := hPx.lt
      have hsT := hX.sub
      have hgS := hX.g
      have hmbl := lT mb (hsT mb hX.ms)
      have hgl := hX.blk.lt
      clear hX hb1 c1 l1 hu hur
      have cX := hX2.blk.cell
      have lX := hX2.blk.lt
      have cPx := hPx.cell
      go_wp2_with fail
      refine First.wp_region_first_ext [4, 5] [0, 1, 2, 3, 8, 9] [(true, false, 0), (true, false, 1), (true, false, 2), (true, false, 3), (true, true, 4), (true, true, 5), (false, true, 6), (false, false, 7), (true, false, 8), (true, false, 9), (false, false, 10)] (by kernel_rfl) (by kernel_rfl) (fun Y => ?_); simp only [List.map_cons, List.map_nil, List.getD_cons_zero, List.getD_cons_succ]
      have hXY := hX2.below (World.below_ext wc Y)
      have hPY := hPx.ext Y
      have hBY := hBx.kp (Kp.of_below (World.below_ext wc Y))
      (repeat (first | (refine wfp fun K hK => ?_; go_simp; refine hK _ _ ?_; clear hK K) | (refine wff fun K hK => ?_; go_simp; refine hK _ _ ?_; clear hK K)))
      refine First.wpF_must (fun K hK => ?_)
      go_wp2
      (refine hK _ _ (fun hnd => by first | exact Bool.noConfusion hnd | assumption | with_reducible (first | exact grown_alloc _ _ | exact First.Grown.refl _ | exact First.Grown.cat _ _ _ | exact First.Grown.ext _ _)) ?_; clear hK K)
      refine First.wpF_must (fun K hK => ?_)
      have hBT : Bsl (wc.ext Y) T (.slice xA xn xc) t := hBY.sub fun k _ hk => .inl (lT k hk)
      have hEn : (⟨r.v.e, t⟩ : Ent).ok := hPr.log _ (by simp)
      go_wp2_with (at_builtin; refine app_ent rfl (.tmp 48) (.tmp 50) rfl T 0 (.slice Al r.log.length cl) r.log ⟨⟨r.v.e, t⟩, .slice xA xn xc⟩ _ rfl rfl hXY.own ⟨hBT, hEn⟩ (fun k hk => hsT k (hXY.vs k hk)) _ (by simp only [World.size_ext]) rfl (by omega) (Nat.zero_le _) (fun v' w3 ho3 hc3 _ => ?_))
      (refine hK _ _ (fun hnd => by first | exact Bool.noConfusion hnd | assumption | with_reducible (first | exact grown_alloc _ _ | exact First.Grown.refl _ | exact First.Grown.cat _ _ _ | exact First.Grown.ext _ _)) ?_; clear hK K)
      obtain ⟨Bl, bl, rfl⟩ : ∃ Bl bl, v' = .slice Bl (r.log.length + 1) bl := by
       obtain ⟨ns, _, ho', _⟩ := ho3
       obtain ⟨A', c', e', _⟩ := own_sl ho'
       exact ⟨A', c', by rw [e', List.length_append]; rfl⟩
      have hB3 : Blk w3 g 77 #[.int .i64 r.id, .int .i64 r.v.e, .int .i64 r.v.p, .slice Am r.v.l.length cm, (.slice Al r.log.length cl), .int .i64 r.joined, .int .i64 (r.sure : Int), .map (some mb), .bool r.act] := (hc3.block g hXY.blk.lt hXY.vg).trans hXY.blk
      have c3 := hB3.cell
      have f3 := hB3.frozen
      have l3 := hB3.lt
      have hL3 := hXY.log hc3 _ ho3
      (repeat (first | (refine wfp fun K hK => ?_; go_simp; refine hK _ _ ?_; clear hK K) | (refine wff fun K hK => ?_; go_simp; refine hK _ _ ?_; clear hK K)))
      refine First.wpF_must (fun K hK => ?_)
      go_wp2
      (refine hK _ _ (fun hnd => by first | exact Bool.noConfusion hnd | assumption | with_reducible (first | exact grown_alloc _ _ | exact First.Grown.refl _ | exact First.Grown.cat _ _ _ | exact First.Grown.ext _ _)) ?_; clear hK K)
      refine First.wpF_nil ?_
      have hP4 : Blk (w3.setCell ⟨g, 4, none⟩ (.slice Bl (r.log.length + 1) bl)) p 65 #[.int .i64 r.v.e, .slice xA xn xc] := Blk.far (w := w3) ((hc3.block p hPY.lt (fun e => by have := lT _ (hsT _ (hXY.vs _ e)); omega)).trans hPY) (by show p ≠ g; omega) _
      have hkB : Kp (fun k => k < w.heap.size ∨ k = p) (wc.ext Y) (w3.setCell ⟨g, 4, none⟩ (.slice Bl (r.log.length + 1) bl)) := hL3.2.1.weaken (fun k hk => .inl (lT k (hsT k hk)))
      have hB4 := hBY.kp hkB
      have hkY : Kp S w (wc.ext Y) := (Kp.of_below hbx).trans (Kp.of_below (World.below_ext wc Y))
      refine abstr (fun W => RelX W (fun k => S k ∨ (Value.slice Bl (r.log.length + 1) bl).ownBlock = some k) (fun k => T k ∨ (Value.slice Bl (r.log.length + 1) bl).ownBlock = some k) g { r with log := r.log ++ [⟨r.v.e, t⟩] } Am cm (.slice Bl (r.log.length + 1) bl) mb ∧ Kp S w W ∧ Blk W p 65 #[.int .i64 r.v.e, .slice xA xn xc] ∧ Bsl W (fun k => k < w.heap.size ∨ k = p) (.slice xA xn xc) t) ⟨hL3.1, hkY.trans hL3.2.1, hP4, hB4⟩ (fun w4 hw4 => ?_)
      obtain ⟨hX4, hk4, hP4', hB4'⟩ := hw4
      have hlies : ∀ k, (Value.slice Bl (r.log.length + 1) bl).ownBlock = some k → S k ∨ w.heap.size ≤ k := fun k hk => (hL3.2.2 k hk).imp id (fun h => by have := (World.below_ext wc Y).size; omega)
      clear hL3 hB3 c3 f3 l3 ho3 hc3 hXY hPY hBY hBT hX2 cX lX cPx hPx hBx hP4 hB4 hkB hkY
      have c4 := hX4.blk.cell
      have l4 := hX4.blk.lt
      go_wp2
      refine First.wp_region_first_ext [3, 7] [0, 1, 2, 4, 5, 6, 8] [(true, false, 0), (true, false, 1), (true, false, 2), (true, true, 3), (true, false, 4), (true, false, 5), (true, false, 6), (true, true, 7), (true, false, 8), (false, false, 9)] (by kernel_rfl) (by kernel_rfl) (fun Z => ?_); simp only [List.map_cons, List.map_nil, List.getD_cons_zero, List.getD_cons_succ]
      have hmp : Mp (w4.ext Z) mb r.acks := hX4.mp.kp (Kp.of_below (S := fun _ => False) (World.below_ext w4 Z)) (fun h => h)
      (repeat (first | (refine wfp fun K hK => ?_; go_simp; refine hK _ _ ?_; clear hK K) | (refine wff fun K hK => ?_; go_simp; refine hK _ _ ?_; clear hK K)))
      refine First.wpF_must (fun K hK => ?_)
      go_wp2_with (at_mapUpdate; refine wpList_put rfl _ _ _ rfl mb r.acks rfl hmp r.id (r.log.length + 1) rfl rfl (by have := hok.id; unfold I64; omega) (by omega) (by have := ack_len hok.ak hok.an; omega) hok.an (fun w5 hm5 ho5 => ?_))
      (refine hK _ _ (fun hnd => by first | exact Bool.noConfusion hnd | assumption | with_reducible (first | exact grown_alloc _ _ | exact First.Grown.refl _ | exact First.Grown.cat _ _ _ | exact First.Grown.ext _ _)) ?_; clear hK K)
      refine First.wpF_nil ?_
      have hX5 : RelX w5 _ _ g { r with log := r.log ++ [⟨r.v.e, t⟩], acks := ackedL r.id (r.log.length + 1) r.acks } Am cm (.slice Bl (r.log.length + 1) bl) mb := (hX4.below (World.below_ext w4 Z)).acks ho5 hm5 rfl
      have hk5 : Kp S w w5 := (hk4.trans (Kp.of_below (World.below_ext w4 Z))).trans (Kp.of_only ho5 (by
       have := hX4.ms
       rcases this with h | h
       ·exact h
       ·exact absurd h hX4.vm))
      have hP5 : Blk w5 p 65 #[.int .i64 r.v.e, .slice xA xn xc] := Blk.only (hP4'.ext Z) ho5 (fun e => by omega)
      have hB5 : Bsl w5 (fun k => k < w.heap.size ∨ k = p) (.slice xA xn xc) t := (hB4'.kp (Kp.of_below (World.below_ext w4 Z))).kp (Kp.of_only ho5 (.inl hmbl))
      have hpv := proposed_v r t
      have hl6 : (proposed r t).leads = true := (leads_of hpv.1 hpv.2.1).trans hl
      have hst := settle_any w5 hX5 hPr
      have hok6 : (proposed r t).ok := settle_ok hPr
      clear hX4 c4 l4 hmp hm5 hP4' hB4' hX5
      go_wp2_with (first | (go_at_call 34; (with_reducible refine hst.mono ?_); rintro e w6 ⟨rfl, hX6, ho6⟩) | (go_at_call 35; (with_reducible refine (others_any w6 (r := proposed r t) hX6 hok6 hl6).mono ?_); rintro e w7 ⟨⟨b7, c7, rfl, hR7, hb7g⟩, hb7⟩))
      have hos := others_of hpv.1 hpv.2.1
      rw [hos] at hR7
      have hlo : (othersP r).length ≤ 8 := Nat.le_trans (List.length_filter_le _ _) hok.mem.2
      have hlr : (othersP (proposed r t)).length = (othersP r).length := by rw [hos]
      have hX7 : RelX w7 _ _ g (proposed r t) Am cm (.slice Bl (r.log.length + 1) bl) mb := hX6.below hb7
      have hP7 := (Blk.only hP5 ho6 (by omega)).below hb7 (Blk.only hP5 ho6 (by omega)).lt
      have hB7 := (hB5.kp (Kp.of_only ho6 (.inl hgl))).kp (Kp.of_below hb7)
      have hk7 := (hk5.trans (Kp.of_only ho6 (hgS))).trans (Kp.of_below hb7)
      have hl67 := hb7.size
      have hb7l := hR7.lt
      clear hX6 hb7 ho6 hP5 hB5 hk5 hst
      have hpe : (proposed r t).v.e = r.v.e := by rw [hpv.1]
      rw [hlr]
      go_loopw [6, 73] (fun vo vi wr => ∃ j : Nat, j ≤ (othersP r).length ∧ vi = .int .i64 (j : Int) ∧ OwnO wr (fun k => T k ∨ (Value.slice Bl (r.log.length + 1) bl).ownBlock = some k) w7.heap.size vo (((othersP r).take j).map fun n => ⟨n, ⟨2, r.v.e, Vi.none, (r.log.length + 1 : Nat), (proposed r t).sure, [⟨r.v.e, t⟩]⟩⟩) ∧ Below w7.heap.size w7 wr) (fun _ vi _ => (((othersP r).length : Int) - intOf vi).toNat)
      case atStart => exact ⟨0, by omega, rfl, OwnO.nil _ _ _, Below.refl _ _⟩
      case round =>
       obtain ⟨j, hj, rfl, hO, hb⟩ := hrel
       obtain ⟨wo, rfl⟩ : ∃ wo : World, wo = wr := ⟨_, rfl⟩
       have hs7 := hb.size
       have hXo := hX7.below hb
       have cXo := hXo.blk.cell
       have lXo := hXo.blk.lt
       by_cases hlt : j < (othersP r).length
       ·have hlj : (j : Int) < (othersP r).length := by omega
        have hg : (othersP r)[j]? = some (othersP r)[j] := List.getElem?_eq_getElem hlt
        obtain ⟨b', o', e', _, hcc⟩ := (hR7.keep (w' := wo) (hb.block _ hb7l)).reads.plain (by omega) (by omega)
        cases e'
        have m1 := hcc _ _ (ints_get hg)
        rw [Nat.zero_add] at m1
        have hbl : b7 < wo.heap.size := by omega
        have HT := hide (show ((othersP r).take (j + 1)).map (fun n => (⟨n, ⟨2, r.v.e, Vi.none, (r.log.length + 1 : Nat), (proposed r t).sure, [⟨r.v.e, t⟩]⟩⟩ : Ot)) = ((othersP r).take j).map (fun n => (⟨n, ⟨2, r.v.e, Vi.none, (r.log.length + 1 : Nat), (proposed r t).sure, [⟨r.v.e, t⟩]⟩⟩ : Ot)) ++ [⟨(othersP r)[j], ⟨2, r.v.e, Vi.none, (r.log.length + 1 : Nat), (proposed r t).sure, [⟨r.v.e, t⟩]⟩⟩] by
         rw [List.take_add_one, hg, List.map_append]; rfl)
        have hmx : (othersP r)[j] ∈ r.v.l := (List.mem_filter.1 (List.getElem_mem hlt)).1
        generalize (othersP r)[j] = x at *
        rw [hpe] at cXo
        have hPo := hP7.below hb hP7.lt
        have cPo := hPo.cell
        have lPo := hPo.lt
        have hBo := hB7.kp (Kp.of_below hb)
        have hlo' : (((othersP r).take j).map (fun n => (⟨n, ⟨2, r.v.e, Vi.none, (r.log.length + 1 : Nat), (proposed r t).sure, [⟨r.v.e, t⟩]⟩⟩ : Ot))).length ≤ 8 := by rw [List.length_map, List.length_take]; omega
        generalize ((othersP r).take j).map (fun n => (⟨n, ⟨2, r.v.e, Vi.none, (r.log.length + 1 : Nat), (proposed r t).sure, [⟨r.v.e, t⟩]⟩⟩ : Ot)) = L at *
        clear hcc hg
        obtain ⟨ms', _, ho', _⟩ := id hO
        obtain ⟨vA, vc, rfl, _⟩ := own_sl ho'
        clear ho'
        go_wp2_with fail
        refine wp_region_below w7.heap.size [6, 11, 12] [0, 1, 2, 3, 4, 5, 7, 8, 9, 10, 15, 16] [(true, false, 0), (true, false, 1), (true, false, 2), (true, false, 3), (true, false, 4), (true, false, 5), (true, true, 6), (true, false, 7), (true, false, 8), (true, false, 9), (true, false, 10), (true, true, 11), (true, true, 12), (false, true, 13), (false, true, 14), (true, false, 15), (true, false, 16), (false, true, 17), (false, true, 18), (false, false, 19)] (by kernel_rfl) (by kernel_rfl) (fun V => ?_); simp only [List.map_cons, List.map_nil, List.getD_cons_zero, List.getD_cons_succ]
        have hBg := hXo.blk
        rw [hpe] at hBg
        replace hBg := hBg.ext V
        have hPV := hPo.ext V
        have hlg7 := hX7.blk.lt
        have hlp7 := hP7.lt
        have hOV := hO.below (World.below_ext wo V)
        have hE1 := Ents.one (hBo.kp (Kp.of_below (World.below_ext wo V))) hEn (by simp only [World.size_ext]; omega)
        simp only [World.size_ext] at hE1
        have hOA := hOV.below (Below.alloc (Below.refl _ _) (Nat.le_refl _) (.cells #[.int .i64 r.v.e, .slice xA xn xc] 65))
        (repeat (first | (refine wfp fun K hK => ?_; go_simp; refine hK _ _ ?_; clear hK K) | (refine wff fun K hK => ?_; go_simp; refine hK _ _ ?_; clear hK K)))
        (refine first_read rfl (v := .int .i64 r.v.e) (fun w' hw' => ?_) (fun K hK => ?_); rotate_left 1; go_simp; refine hK _ _ ?_; clear hK K; rotate_left 1; (have hB' := Blk.below hBg hw' hlg7; have c' := Blk.cell hB'; go_simp))
        (repeat (first | (refine wfp fun K hK => ?_; go_simp; refine hK _ _ ?_; clear hK K) | (refine wff fun K hK => ?_; go_simp; refine hK _ _ ?_; clear hK K)))
        (refine first_read rfl (v := .int .i64 ((proposed r t).sure : Int)) (fun w' hw' => ?_) (fun K hK => ?_); rotate_left 1; go_simp; refine hK _ _ ?_; clear hK K; rotate_left 1; (have hB' := Blk.below hBg hw' hlg7; have c' := Blk.cell hB'; go_simp))
        (repeat (first | (refine wfp fun K hK => ?_; go_simp; refine hK _ _ ?_; clear hK K) | (refine wff fun K hK => ?_; go_simp; refine hK _ _ ?_; clear hK K)))
        (refine first_read rfl (v := .agg #[.int .i64 r.v.e, .slice xA xn xc]) (fun w' hw' => ?_) (fun K hK => ?_); rotate_left 1; go_simp; refine hK _ _ ?_; clear hK K; rotate_left 1; (have hB' := Blk.below hPV hw' hlp7; have c' := Blk.cell hB'; go_simp))
        (repeat (first | (refine wfp fun K hK => ?_; go_simp; refine hK _ _ ?_; clear hK K) | (refine wff fun K hK => ?_; go_simp; refine hK _ _ ?_; clear hK K)))
        refine First.wpF_must (fun K hK => ?_)
        go_wp2
        (refine hK _ _ (fun hnd => by first | exact Bool.noConfusion hnd | exact Below.alloc (Below.refl _ _) (by simp only [World.size_ext]; omega) _) ?_; clear hK K)
        refine First.wpF_must (fun K hK => ?_)
        go_wp2_with (go_at_call 36; (with_reducible refine (twins_any _ 1 1 _ _ hE1 (by omega)).mono ?_); rintro e w8 ⟨A8, c8, rfl, hO8, hb8⟩)
        (refine hK _ _ (fun hnd => by first | exact Bool.noConfusion hnd | exact hb8.mono (by simp only [World.size_alloc, World.size_ext]; omega)) ?_; clear hK K)
        have hO9 := hOA.below hb8
        have hs8 := hb8.size
        simp only [World.size_alloc, World.size_ext] at hs8 hO8
        have hbo8 : Below w7.heap.size w7 w8 := ((hb.trans ((World.below_ext wo V).mono hs7)).alloc (by simp only [World.size_ext]; omega) _).trans (hb8.mono (by simp [World.size_ext]; omega))
        have hown8 : ∀ k, ((T k ∨ (Value.slice Bl (r.log.length + 1) bl).ownBlock = some k) ∨ (Value.slice vA L.length vc).ownBlock = some k) → k < wo.heap.size + V.blocks.size := fun k hk => by
         rcases hk with hk | hk
         ·have := hXo.lt k hk; omega
         ·obtain ⟨ms', _, ho', _⟩ := hO
          cases vA with
          | none => cases hk
          | some ad => cases hk; have := (own_addr ho' _ rfl).2; omega
        have hE8 := hO8.ents (T' := fun k => (T k ∨ (Value.slice Bl (r.log.length + 1) bl).ownBlock = some k) ∨ (Value.slice vA L.length vc).ownBlock = some k) rfl (fun k hk => by have := hown8 k hk; omega) (fun k hk => .inl (by have := hown8 k hk; omega))
        (repeat (first | (refine wfp fun K hK => ?_; go_simp; refine hK _ _ ?_; clear hK K) | (refine wff fun K hK => ?_; go_simp; refine hK _ _ ?_; clear hK K)))
        refine First.wpF_must (fun K hK => ?_)
        go_wp2
        (refine hK _ _ (fun hnd => by first | exact Bool.noConfusion hnd | exact Below.alloc (Below.refl _ _) hbo8.size _) ?_; clear hK K)
        refine First.wpF_must (fun K hK => ?_)
        go_wp2_with (at_builtin; refine app_out rfl (.tmp 77) (.tmp 94) rfl _ w7.heap.size (.slice vA L.length vc) L ⟨⟨x, ⟨2, r.v.e, Vi.none, (r.log.length + 1 : Nat), (proposed r t).sure, [⟨r.v.e, t⟩]⟩⟩, .slice none 0 0, .slice A8 1 c8⟩ _ rfl rfl hO9 ⟨⟨none, 0, rfl, Reads.none_, fun h => absurd h (by simp [Vi.none])⟩, A8, c8, rfl, hE8⟩ _ rfl rfl (by omega) hbo8.size (fun v' w9 hO' hc9 hz9 => ?_))
        have hb9 : Below w7.heap.size (w8.alloc (.cells #[.int .i64 x, .int .i64 2, .int .i64 r.v.e, .int .i64 0, .int .i64 0, .slice none 0 0, .int .i64 ((r.log.length : Int) + 1), .int .i64 ((proposed r t).sure : Int), .slice A8 1 c8] 90)) w9 := ⟨hc9.os, hc9.tape, hc9.output, by simpa using hz9, fun k hk => (hc9.block k (by have := hbo8.size; omega) (fun e => by
         obtain ⟨ms', _, ho', _⟩ := hO
         cases vA with
         | none => cases e
         | some ad => cases e; have := (own_addr ho' _ rfl).1; omega)).trans (Below.heap_alloc w8 _ k (by have := hbo8.size; omega)).symm⟩
        (refine hK _ _ (fun hnd => by first | exact Bool.noConfusion hnd | exact hb9) ?_; clear hK K)
        (repeat (first | (refine wfp fun K hK => ?_; go_simp; refine hK _ _ ?_; clear hK K) | (refine wff fun K hK => ?_; go_simp; refine hK _ _ ?_; clear hK K)))
        refine First.wpF_must (fun K hK => ?_)
        go_wp2
        (refine hK _ _ (fun hnd => by first | exact Bool.noConfusion hnd | assumption | with_reducible (first | exact grown_alloc _ _ | exact First.Grown.refl _ | exact First.Grown.cat _ _ _ | exact First.Grown.ext _ _)) ?_; clear hK K)
        refine First.wpF_nil ?_
        go_wp2
        go_roundw
        case rel => exact ⟨j + 1, by omega, by go_num, by rw [HT.out]; exact hO', (hbo8.alloc hbo8.size _).trans hb9⟩
        case measure => simp [intOf]; omega
       ·obtain rfl : j = (othersP r).length := by omega
        rw [List.take_length] at hO
        have hPo := hP7.below hb hP7.lt
        have cPo := hPo.cell
        have lPo := hPo.lt
        have hBo := hB7.kp (Kp.of_below hb)
        have hRE := recEntry_any (r.log.length + 1) ⟨r.v.e, t⟩ (.slice xA xn xc) wo hBo hEn (by omega)
        rw [show ((r.log.length + 1 : Nat) : Int) = (r.log.length : Int) + 1 from rfl] at hRE
        obtain ⟨vA, vc, rfl, _⟩ := hO.outs (fun k hk hT => by have := hX7.lt k hT; omega)
        clear cXo lXo
        go_wp2_with (go_at_call 37; (with_reducible refine hRE.mono ?_); rintro e w9 ⟨u9, rfl, hu9, hb9⟩; obtain ⟨uA, un, uc, rfl⟩ := hu9.shape)
        refine bodyPost_ret (v := .tuple #[.int .i64 ((r.log.length : Int) + 1), .slice (some ⟨w9.heap.size, 0, none⟩) 1 1, .slice vA _ vc, .int .i64 0]) (by simp [results, Tryz.results10, go_sem] <;> rfl) rfl ?_
        have hba : Below w9.heap.size w9 (w9.alloc (.cells #[.slice uA un uc] 36)) := Below.alloc (Below.refl _ _) (Nat.le_refl _) _
        have hs9 := hb9.size
        have hXf := ((hXo.below hb9).below hba).widen (T' := fun k => T k ∨ (S k ∨ (Value.slice Bl (r.log.length + 1) bl).ownBlock = some k)) (fun k hk => hk.elim .inl (fun hk => hk.elim (fun hk => .inl (hsT k hk)) .inr)) (fun k hk => .inr hk)
        have hT7 : ∀ k, T k ∨ (S k ∨ (Value.slice Bl (r.log.length + 1) bl).ownBlock = some k) → k < w7.heap.size := fun k hk => by
         rcases hk with hk | hk | hk
         ·exact hX7.lt k (.inl hk)
         ·exact hX7.lt k (.inl (hsT k hk))
         ·exact hX7.lt k (.inr hk)
        refine ⟨fun k => S k ∨ (Value.slice Bl (r.log.length + 1) bl).ownBlock = some k, ⟨hok6, Am, cm, _, mb, hXf⟩, ((hk7.trans (Kp.of_below hb)).trans (Kp.of_below hb9)).trans (Kp.of_below hba), fun k hk => hk.elim .inl (hlies k), _, 1, 1, vA, _, vc, rfl, ?_, ?_⟩
        ·have hbs : Bsl w9 (fun k => k < wo.heap.size) (.slice uA un uc) (recEntryP (r.log.length + 1) ⟨r.v.e, t⟩) := Bsl.row hu9 (fun k hk => hk) (recEntry_by (by omega) hEn)
         exact Recs.one (hbs.sub fun k hk ht => by have := hT7 k ht; show k < wo.heap.size; omega) (fun ht => by have := hT7 _ ht; omega)
        ·obtain ⟨A', c', e', hOu⟩ := ((hO.below hb9).below hba).outs (fun k hk hT => by have := hX7.lt k hT; omega)
         cases e'
         rw [List.length_map] at hOu
         exact hOu.sub fun k _ (hk : T k ∨ (S k ∨ (Value.slice Bl (r.log.length + 1) bl).ownBlock = some k)) => hk.elim .inl (fun hk => hk.elim (fun hk => .inl (hsT k hk)) .inr)
end Go.Proofs.YtjhcgnmibnjocaaGreat
