import Derived.Test.YtjhcgnmibnjocaaGreatW1
/-! The document's relay hears of what is sure; its record of an entry. -/
namespace Go.Proofs.YtjhcgnmibnjocaaGreat
open Go.RowKit Go.Maps
set_option linter.unusedVariables false
set_option linter.unusedSimpArgs false
theorem OutsD.one {w : World} {T : Nat → Prop} {vm vl : Value} {o : Ot} {cs : Array Value} (hcs : cs = (Om.mk o vm vl).cells.toArray) (h : MgW w T vm vl o.m) (hT : ¬T w.heap.size) : Outs (w.alloc (.cells cs 96)) T (some ⟨w.heap.size, 0, none⟩) 1 [o] := by
 subst hcs
 have hb : Below w.heap.size w (w.alloc (.cells (Om.mk o vm vl).cells.toArray 96)) := Below.alloc (Below.refl _ _) (Nat.le_refl _) _
 refine ⟨⟨[⟨o, vm, vl⟩], rfl, ⟨rfl, fun _ => ⟨_, rfl, by simp, fun j u hu => ?_⟩⟩, fun m hm => ?_⟩, rfl, fun _ a ha => by cases ha; exact hT⟩
 ·rw [add_plain, (Blk.new w 96 (Om.mk o vm vl).cells.toArray).cell, Nat.zero_add]
  have : omV [⟨o, vm, vl⟩] = (Om.mk o vm vl).cells := by simp [omV, rowsV]
  rw [this] at hu
  simpa using hu
 ·simp only [List.mem_singleton] at hm
  subst hm
  exact h.kp (Kp.of_below hb)
theorem mgW_bare (w : World) (T : Nat → Prop) {m : Mg} (h1 : m.v.l = []) (h2 : m.log = []) : MgW w T (.slice none 0 0) (.slice none 0 0) m :=
 ⟨⟨none, 0, by rw [h1]; rfl, by rw [h1]; exact Reads.none_, fun h => by rw [h1] at h; cases h⟩, none, 0, by rw [h2]; rfl, by rw [h2]; exact Ents.nil _ _⟩
theorem DrW.hear {w : World} {T : Nat → Prop} {vm vl va : Value} {r : Rl} (h : DrW w T vm vl va r) (s : Int) : DrW w T vm vl va (hearP r s) := ⟨h.mem, h.log, h.ack⟩
set_option maxRecDepth 100000 in
set_option maxHeartbeats 4000000 in
theorem dhear_any {T : Nat → Prop} (r : Rl) (fr s : Int) (vm vl va : Value) (w : World) (h : DrW w T vm vl va r) (hTl : ∀ k, T k → k < w.heap.size) :
  Calls Tryz.prog 53 #[.agg #[.int .i64 r.id, .int .i64 r.v.e, .int .i64 r.v.p, vm, vl, .int .i64 r.joined, .int .i64 (r.sure : Int), va, .bool r.act], .int .i64 fr, .int .i64 s] w fun e w' => ∃ A, e = .returned (.tuple #[.slice A 1 1, .agg #[.int .i64 (hearP r s).id, .int .i64 (hearP r s).v.e, .int .i64 (hearP r s).v.p, vm, vl, .int .i64 (hearP r s).joined, .int .i64 ((hearP r s).sure : Int), va, .bool (hearP r s).act]]) ∧ Outs w' T A 1 (hearO r fr) ∧ DrW w' T vm vl va (hearP r s) ∧ Below w.heap.size w w' := by
 have hD := h.hear s
 obtain ⟨A, c, B, d, C, f, rfl, rfl, rfl⟩ := h.sl
 have hB0 := (Blk.new w 34 #[.int .i64 r.id, .int .i64 r.v.e, .int .i64 r.v.p, (.slice A r.v.l.length c), (.slice B r.log.length d), .int .i64 r.joined, .int .i64 (r.sure : Int), (.slice C r.acks.length f), .bool r.act]).alloc (.cells #[.int .i64 0, .int .i64 0, .int .i64 0, .slice none 0 0, .slice none 0 0, .int .i64 0, .int .i64 0, .slice none 0 0, .bool false] 34)
 have hZ0 := Blk.made w (.cells #[.int .i64 r.id, .int .i64 r.v.e, .int .i64 r.v.p, (.slice A r.v.l.length c), (.slice B r.log.length d), .int .i64 r.joined, .int .i64 (r.sure : Int), (.slice C r.acks.length f), .bool r.act] 34) 34 #[.int .i64 0, .int .i64 0, .int .i64 0, .slice none 0 0, .slice none 0 0, .int .i64 0, .int .i64 0, .slice none 0 0, .bool false]
 clear h
 by_cases h1 : (r.log.length : Int) < s
 ·have a1 : decide ((r.log.length : Int) < s) = true := decide_eq_true h1
  by_cases h2 : (r.sure : Int) < r.log.length
  ·have a2 : decide ((r.sure : Int) < r.log.length) = true := decide_eq_true h2
   have a2' : decide (r.sure < r.log.length) = true := decide_eq_true (by omega)
   have hq := hide (show (((hearP r s).sure : Nat) : Int) = (r.log.length : Int) by show ((max r.sure (min s r.log.length).toNat : Nat) : Int) = _; omega)
   go_enter Tryz.func53, Tryz.ntmps53
   go_upto_region 5 with fail
   refine abstr (fun W => Below w.heap.size w W ∧ Blk W w.heap.size 34 #[.int .i64 r.id, .int .i64 r.v.e, .int .i64 r.v.p, .slice A r.v.l.length c, .slice B r.log.length d, .int .i64 r.joined, .int .i64 ((hearP r s).sure : Int), .slice C r.acks.length f, .bool r.act] ∧ Blk W (w.heap.size + 1) 34 #[.int .i64 0, .int .i64 0, .int .i64 0, .slice none 0 0, .slice none 0 0, .int .i64 0, .int .i64 0, .slice none 0 0, .bool false]) ⟨by (repeat' (first | with_reducible (first | exact Below.refl _ _ | refine Below.ext ?_ ?_ _ | refine Below.alloc ?_ ?_ _ | refine Below.setCell ?_ ?_ _ | refine Below.drew ?_ | assumption) | (simp [World.size_ext]; done) | (simp [World.size_ext]; omega))), by rw [hq.out]; exact (Blk.new _ _ _).alloc _, Blk.made _ _ _ _⟩ (fun W hW => ?_)
   obtain ⟨hb, hB, hZ⟩ := hW
   have hs := hb.size
   have lB := hB.lt
   have lZ := hZ.lt
   refine wp_region_kp (fun k => k = w.heap.size + 1) [3, 5, 10] [0, 1, 2, 4, 6, 7, 8] [(true, false, 0), (true, false, 1), (true, false, 2), (true, true, 3), (true, false, 4), (true, true, 5), (true, false, 6), (true, false, 7), (true, false, 8), (true, true, 10), (false, true, 9), (false, true, 11), (false, false, 12)] (by kernel_rfl) (by kernel_rfl) (fun X => ?_); simp only [List.map_cons, List.map_nil, List.getD_cons_zero, List.getD_cons_succ]
   have hne : ¬(w.heap.size = w.heap.size + 1) := by omega
   (repeat (first | (refine wfp fun K hK => ?_; go_simp; refine hK _ _ ?_; clear hK K) | (refine wff fun K hK => ?_; go_simp; refine hK _ _ ?_; clear hK K)))
   (refine first_readG rfl (v := .int .i64 r.v.e) (fun w' hw' => ?_) (fun K hK => ?_); rotate_left 1; go_simp; refine hK _ _ ?_; clear hK K; rotate_left 1; (have hB' := Blk.kp (Blk.ext hB _) hw' hne; have c' := Blk.cell hB'; go_simp))
   (repeat (first | (refine wfp fun K hK => ?_; go_simp; refine hK _ _ ?_; clear hK K) | (refine wff fun K hK => ?_; go_simp; refine hK _ _ ?_; clear hK K)))
   (refine first_readG rfl (v := .slice B r.log.length d) (fun w' hw' => ?_) (fun K hK => ?_); rotate_left 1; go_simp; refine hK _ _ ?_; clear hK K; rotate_left 1; (have hB' := Blk.kp (Blk.ext hB _) hw' hne; have c' := Blk.cell hB'; go_simp))
   (repeat (first | (refine wfp fun K hK => ?_; go_simp; refine hK _ _ ?_; clear hK K) | (refine wff fun K hK => ?_; go_simp; refine hK _ _ ?_; clear hK K)))
   (refine first_readG rfl (v := .agg #[.int .i64 r.id, .int .i64 r.v.e, .int .i64 r.v.p, .slice A r.v.l.length c, .slice B r.log.length d, .int .i64 r.joined, .int .i64 ((hearP r s).sure : Int), .slice C r.acks.length f, .bool r.act]) (fun w' hw' => ?_) (fun K hK => ?_); rotate_left 1; go_simp; refine hK _ _ ?_; clear hK K; rotate_left 1; (have hB' := Blk.kp (Blk.ext hB _) hw' hne; have c' := Blk.cell hB'; go_simp))
   (repeat (first | (refine wfp fun K hK => ?_; go_simp; refine hK _ _ ?_; clear hK K) | (refine wff fun K hK => ?_; go_simp; refine hK _ _ ?_; clear hK K)))
   have hZX := hZ.ext X
   have hbX := hb.trans ((World.below_ext W X).mono hs)
   have hDX := (hD.sub (T' := fun k => T k ∨ k = w.heap.size + 1) (fun k hk ht => ht.elim id (fun e => by omega))).kp (Kp.of_below hbX)
   clear hD hB hZ hb
   have sX := hbX.size
   have lX := hZX.lt
   generalize W.ext X = V at *
   refine First.wpF_must (fun K hK => ?_)
   go_wp2
   (refine hK _ _ (fun hnd => by first | exact Bool.noConfusion hnd | exact Kp.of_below (Below.alloc (Below.refl _ _) (Nat.le_refl _) _)) ?_; clear hK K)
   (repeat (first | (refine wfp fun K hK => ?_; go_simp; refine hK _ _ ?_; clear hK K) | (refine wff fun K hK => ?_; go_simp; refine hK _ _ ?_; clear hK K)))
   have hO : Outs (V.alloc (.cells #[.int .i64 fr, .int .i64 3, .int .i64 r.v.e, .int .i64 0, .int .i64 0, .slice none 0 0, .int .i64 (r.log.length : Int), .int .i64 0, .slice none 0 0] 96)) (fun k => T k ∨ k = w.heap.size + 1) (some ⟨V.heap.size, 0, none⟩) 1 (hearO r fr) := OutsD.one (vm := .slice none 0 0) (vl := .slice none 0 0) (o := ⟨fr, ⟨3, r.v.e, Vi.none, r.log.length, 0, []⟩⟩) rfl (mgW_bare V _ rfl rfl) (fun e => e.elim (fun e => by have := hTl _ e; omega) (fun e => by omega))
   refine First.wpF_must (fun K hK => ?_)
   go_wp2
   (refine hK _ _ (fun hnd => by first | exact Bool.noConfusion hnd | exact Kp.refl _ _) ?_; clear hK K)
   (repeat (first | (refine wfp fun K hK => ?_; go_simp; refine hK _ _ ?_; clear hK K) | (refine wff fun K hK => ?_; go_simp; refine hK _ _ ?_; clear hK K)))
   have hZ2 := hZX.alloc (.cells #[.int .i64 fr, .int .i64 3, .int .i64 r.v.e, .int .i64 0, .int .i64 0, .slice none 0 0, .int .i64 (r.log.length : Int), .int .i64 0, .slice none 0 0] 96)
   have hD2 := hDX.kp (Kp.of_below (Below.alloc (Below.refl _ _) (Nat.le_refl _) (.cells #[.int .i64 fr, .int .i64 3, .int .i64 r.v.e, .int .i64 0, .int .i64 0, .slice none 0 0, .int .i64 (r.log.length : Int), .int .i64 0, .slice none 0 0] 96)))
   have hb2 := hbX.alloc sX (.cells #[.int .i64 fr, .int .i64 3, .int .i64 r.v.e, .int .i64 0, .int .i64 0, .slice none 0 0, .int .i64 (r.log.length : Int), .int .i64 0, .slice none 0 0] 96)
   clear hZX hDX hbX
   generalize V.alloc (.cells #[.int .i64 fr, .int .i64 3, .int .i64 r.v.e, .int .i64 0, .int .i64 0, .slice none 0 0, .int .i64 (r.log.length : Int), .int .i64 0, .slice none 0 0] 96) = V2 at *
   have c2 := hZ2.cell
   have f2 := hZ2.frozen
   have l2 := hZ2.lt
   refine First.wpF_must (fun K hK => ?_)
   go_wp2
   (refine hK _ _ (fun hnd => by first | exact Bool.noConfusion hnd | exact Kp.nine _ (w.heap.size + 1) _ _ _ _ _ _ _ _ _) ?_; clear hK K)
   (repeat (first | (refine wfp fun K hK => ?_; go_simp; refine hK _ _ ?_; clear hK K) | (refine wff fun K hK => ?_; go_simp; refine hK _ _ ?_; clear hK K)))
   refine First.wpF_nil ?_
   go_wp2
   refine bodyPost_tc Tryz.results53 rfl (Blk.nine hZ2) Tryz.underlying34 rfl (by kernel_rfl) rfl ?_
   refine ⟨some ⟨V.heap.size, 0, none⟩, rfl, ?_, ?_, ?_⟩
   ·exact (hO.kp (Kp.weaken (Kp.nine V2 (w.heap.size + 1) _ _ _ _ _ _ _ _ _) fun k hk => .inr hk)).sub fun k _ hk => .inl hk
   ·exact (hD2.kp (Kp.weaken (Kp.nine V2 (w.heap.size + 1) _ _ _ _ _ _ _ _ _) fun k hk => .inr hk)).sub fun k _ hk => .inl hk
   ·exact hb2.trans (Kp.below (Kp.nine V2 (w.heap.size + 1) _ _ _ _ _ _ _ _ _) hb2.size (fun k hk => by omega))
  ·have a2 : decide ((r.sure : Int) < r.log.length) = false := decide_eq_false h2
   have a2' : decide (r.sure < r.log.length) = false := decide_eq_false (by omega)
   have hq := hide (show (((hearP r s).sure : Nat) : Int) = (r.sure : Int) by show ((max r.sure (min s r.log.length).toNat : Nat) : Int) = _; omega)
   go_enter Tryz.func53, Tryz.ntmps53
   go_upto_region 5 with fail
   refine abstr (fun W => Below w.heap.size w W ∧ Blk W w.heap.size 34 #[.int .i64 r.id, .int .i64 r.v.e, .int .i64 r.v.p, .slice A r.v.l.length c, .slice B r.log.length d, .int .i64 r.joined, .int .i64 ((hearP r s).sure : Int), .slice C r.acks.length f, .bool r.act] ∧ Blk W (w.heap.size + 1) 34 #[.int .i64 0, .int .i64 0, .int .i64 0, .slice none 0 0, .slice none 0 0, .int .i64 0, .int .i64 0, .slice none 0 0, .bool false]) ⟨by (repeat' (first | with_reducible (first | exact Below.refl _ _ | refine Below.ext ?_ ?_ _ | refine Below.alloc ?_ ?_ _ | refine Below.setCell ?_ ?_ _ | refine Below.drew ?_ | assumption) | (simp [World.size_ext]; done) | (simp [World.size_ext]; omega))), by rw [hq.out]; exact (Blk.new _ _ _).alloc _, Blk.made _ _ _ _⟩ (fun W hW => ?_)
   obtain ⟨hb, hB, hZ⟩ := hW
   have hs := hb.size
   have lB := hB.lt
   have lZ := hZ.lt
   refine wp_region_kp (fun k => k = w.heap.size + 1) [3, 5, 10] [0, 1, 2, 4, 6, 7, 8] [(true, false, 0), (true, false, 1), (true, false, 2), (true, true, 3), (true, false, 4), (true, true, 5), (true, false, 6), (true, false, 7), (true, false, 8), (true, true, 10), (false, true, 9), (false, true, 11), (false, false, 12)] (by kernel_rfl) (by kernel_rfl) (fun X => ?_); simp only [List.map_cons, List.map_nil, List.getD_cons_zero, List.getD_cons_succ]
   have hne : ¬(w.heap.size = w.heap.size + 1) := by omega
   (repeat (first | (refine wfp fun K hK => ?_; go_simp; refine hK _ _ ?_; clear hK K) | (refine wff fun K hK => ?_; go_simp; refine hK _ _ ?_; clear hK K)))
   (refine first_readG rfl (v := .int .i64 r.v.e) (fun w' hw' => ?_) (fun K hK => ?_); rotate_left 1; go_simp; refine hK _ _ ?_; clear hK K; rotate_left 1; (have hB' := Blk.kp (Blk.ext hB _) hw' hne; have c' := Blk.cell hB'; go_simp))
   (repeat (first | (refine wfp fun K hK => ?_; go_simp; refine hK _ _ ?_; clear hK K) | (refine wff fun K hK => ?_; go_simp; refine hK _ _ ?_; clear hK K)))
   (refine first_readG rfl (v := .slice B r.log.length d) (fun w' hw' => ?_) (fun K hK => ?_); rotate_left 1; go_simp; refine hK _ _ ?_; clear hK K; rotate_left 1; (have hB' := Blk.kp (Blk.ext hB _) hw' hne; have c' := Blk.cell hB'; go_simp))
   (repeat (first | (refine wfp fun K hK => ?_; go_simp; refine hK _ _ ?_; clear hK K) | (refine wff fun K hK => ?_; go_simp; refine hK _ _ ?_; clear hK K)))
   (refine first_readG rfl (v := .agg #[.int .i64 r.id, .int .i64 r.v.e, .int .i64 r.v.p, .slice A r.v.l.length c, .slice B r.log.length d, .int .i64 r.joined, .int .i64 ((hearP r s).sure : Int), .slice C r.acks.length f, .bool r.act]) (fun w' hw' => ?_) (fun K hK => ?_); rotate_left 1; go_simp; refine hK _ _ ?_; clear hK K; rotate_left 1; (have hB' := Blk.kp (Blk.ext hB _) hw' hne; have c' := Blk.cell hB'; go_simp))
   (repeat (first | (refine wfp fun K hK => ?_; go_simp; refine hK _ _ ?_; clear hK K) | (refine wff fun K hK => ?_; go_simp; refine hK _ _ ?_; clear hK K)))
   have hZX := hZ.ext X
   have hbX := hb.trans ((World.below_ext W X).mono hs)
   have hDX := (hD.sub (T' := fun k => T k ∨ k = w.heap.size + 1) (fun k hk ht => ht.elim id (fun e => by omega))).kp (Kp.of_below hbX)
   clear hD hB hZ hb
   have sX := hbX.size
   have lX := hZX.lt
   generalize W.ext X = V at *
   refine First.wpF_must (fun K hK => ?_)
   go_wp2
   (refine hK _ _ (fun hnd => by first | exact Bool.noConfusion hnd | exact Kp.of_below (Below.alloc (Below.refl _ _) (Nat.le_refl _) _)) ?_; clear hK K)
   (repeat (first | (refine wfp fun K hK => ?_; go_simp; refine hK _ _ ?_; clear hK K) | (refine wff fun K hK => ?_; go_simp; refine hK _ _ ?_; clear hK K)))
   have hO : Outs (V.alloc (.cells #[.int .i64 fr, .int .i64 3, .int .i64 r.v.e, .int .i64 0, .int .i64 0, .slice none 0 0, .int .i64 (r.log.length : Int), .int .i64 0, .slice none 0 0] 96)) (fun k => T k ∨ k = w.heap.size + 1) (some ⟨V.heap.size, 0, none⟩) 1 (hearO r fr) := OutsD.one (vm := .slice none 0 0) (vl := .slice none 0 0) (o := ⟨fr, ⟨3, r.v.e, Vi.none, r.log.length, 0, []⟩⟩) rfl (mgW_bare V _ rfl rfl) (fun e => e.elim (fun e => by have := hTl _ e; omega) (fun e => by omega))
   refine First.wpF_must (fun K hK => ?_)
   go_wp2
   (refine hK _ _ (fun hnd => by first | exact Bool.noConfusion hnd | exact Kp.refl _ _) ?_; clear hK K)
   (repeat (first | (refine wfp fun K hK => ?_; go_simp; refine hK _ _ ?_; clear hK K) | (refine wff fun K hK => ?_; go_simp; refine hK _ _ ?_; clear hK K)))
   have hZ2 := hZX.alloc (.cells #[.int .i64 fr, .int .i64 3, .int .i64 r.v.e, .int .i64 0, .int .i64 0, .slice none 0 0, .int .i64 (r.log.length : Int), .int .i64 0, .slice none 0 0] 96)
   have hD2 := hDX.kp (Kp.of_below (Below.alloc (Below.refl _ _) (Nat.le_refl _) (.cells #[.int .i64 fr, .int .i64 3, .int .i64 r.v.e, .int .i64 0, .int .i64 0, .slice none 0 0, .int .i64 (r.log.length : Int), .int .i64 0, .slice none 0 0] 96)))
   have hb2 := hbX.alloc sX (.cells #[.int .i64 fr, .int .i64 3, .int .i64 r.v.e, .int .i64 0, .int .i64 0, .slice none 0 0, .int .i64 (r.log.length : Int), .int .i64 0, .slice none 0 0] 96)
   clear hZX hDX hbX
   generalize V.alloc (.cells #[.int .i64 fr, .int .i64 3, .int .i64 r.v.e, .int .i64 0, .int .i64 0, .slice none 0 0, .int .i64 (r.log.length : Int), .int .i64 0, .slice none 0 0] 96) = V2 at *
   have c2 := hZ2.cell
   have f2 := hZ2.frozen
   have l2 := hZ2.lt
   refine First.wpF_must (fun K hK => ?_)
   go_wp2
   (refine hK _ _ (fun hnd => by first | exact Bool.noConfusion hnd | exact Kp.nine _ (w.heap.size + 1) _ _ _ _ _ _ _ _ _) ?_; clear hK K)
   (repeat (first | (refine wfp fun K hK => ?_; go_simp; refine hK _ _ ?_; clear hK K) | (refine wff fun K hK => ?_; go_simp; refine hK _ _ ?_; clear hK K)))
   refine First.wpF_nil ?_
   go_wp2
   refine bodyPost_tc Tryz.results53 rfl (Blk.nine hZ2) Tryz.underlying34 rfl (by kernel_rfl) rfl ?_
   refine ⟨some ⟨V.heap.size, 0, none⟩, rfl, ?_, ?_, ?_⟩
   ·exact (hO.kp (Kp.weaken (Kp.nine V2 (w.heap.size + 1) _ _ _ _ _ _ _ _ _) fun k hk => .inr hk)).sub fun k _ hk => .inl hk
   ·exact (hD2.kp (Kp.weaken (Kp.nine V2 (w.heap.size + 1) _ _ _ _ _ _ _ _ _) fun k hk => .inr hk)).sub fun k _ hk => .inl hk
   ·exact hb2.trans (Kp.below (Kp.nine V2 (w.heap.size + 1) _ _ _ _ _ _ _ _ _) hb2.size (fun k hk => by omega))
 ·have a1 : decide ((r.log.length : Int) < s) = false := decide_eq_false h1
  by_cases h2 : (r.sure : Int) < s
  ·have a2 : decide ((r.sure : Int) < s) = true := decide_eq_true h2
   have hq := hide (show (((hearP r s).sure : Nat) : Int) = s by show ((max r.sure (min s r.log.length).toNat : Nat) : Int) = _; omega)
   go_enter Tryz.func53, Tryz.ntmps53
   go_upto_region 5 with fail
   refine abstr (fun W => Below w.heap.size w W ∧ Blk W w.heap.size 34 #[.int .i64 r.id, .int .i64 r.v.e, .int .i64 r.v.p, .slice A r.v.l.length c, .slice B r.log.length d, .int .i64 r.joined, .int .i64 ((hearP r s).sure : Int), .slice C r.acks.length f, .bool r.act] ∧ Blk W (w.heap.size + 1) 34 #[.int .i64 0, .int .i64 0, .int .i64 0, .slice none 0 0, .slice none 0 0, .int .i64 0, .int .i64 0, .slice none 0 0, .bool false]) ⟨by (repeat' (first | with_reducible (first | exact Below.refl _ _ | refine Below.ext ?_ ?_ _ | refine Below.alloc ?_ ?_ _ | refine Below.setCell ?_ ?_ _ | refine Below.drew ?_ | assumption) | (simp [World.size_ext]; done) | (simp [World.size_ext]; omega))), by rw [hq.out]; exact (Blk.new _ _ _).alloc _, Blk.made _ _ _ _⟩ (fun W hW => ?_)
   obtain ⟨hb, hB, hZ⟩ := hW
   have hs := hb.size
   have lB := hB.lt
   have lZ := hZ.lt
   refine wp_region_kp (fun k => k = w.heap.size + 1) [3, 5, 10] [0, 1, 2, 4, 6, 7, 8] [(true, false, 0), (true, false, 1), (true, false, 2), (true, true, 3), (true, false, 4), (true, true, 5), (true, false, 6), (true, false, 7), (true, false, 8), (true, true, 10), (false, true, 9), (false, true, 11), (false, false, 12)] (by kernel_rfl) (by kernel_rfl) (fun X => ?_); simp only [List.map_cons, List.map_nil, List.getD_cons_zero, List.getD_cons_succ]
   have hne : ¬(w.heap.size = w.heap.size + 1) := by omega
   (repeat (first | (refine wfp fun K hK => ?_; go_simp; refine hK _ _ ?_; clear hK K) | (refine wff fun K hK => ?_; go_simp; refine hK _ _ ?_; clear hK K)))
   (refine first_readG rfl (v := .int .i64 r.v.e) (fun w' hw' => ?_) (fun K hK => ?_); rotate_left 1; go_simp; refine hK _ _ ?_; clear hK K; rotate_left 1; (have hB' := Blk.kp (Blk.ext hB _) hw' hne; have c' := Blk.cell hB'; go_simp))
   (repeat (first | (refine wfp fun K hK => ?_; go_simp; refine hK _ _ ?_; clear hK K) | (refine wff fun K hK => ?_; go_simp; refine hK _ _ ?_; clear hK K)))
   (refine first_readG rfl (v := .slice B r.log.length d) (fun w' hw' => ?_) (fun K hK => ?_); rotate_left 1; go_simp; refine hK _ _ ?_; clear hK K; rotate_left 1; (have hB' := Blk.kp (Blk.ext hB _) hw' hne; have c' := Blk.cell hB'; go_simp))
   (repeat (first | (refine wfp fun K hK => ?_; go_simp; refine hK _ _ ?_; clear hK K) | (refine wff fun K hK => ?_; go_simp; refine hK _ _ ?_; clear hK K)))
   (refine first_readG rfl (v := .agg #[.int .i64 r.id, .int .i64 r.v.e, .int .i64 r.v.p, .slice A r.v.l.length c, .slice B r.log.length d, .int .i64 r.joined, .int .i64 ((hearP r s).sure : Int), .slice C r.acks.length f, .bool r.act]) (fun w' hw' => ?_) (fun K hK => ?_); rotate_left 1; go_simp; refine hK _ _ ?_; clear hK K; rotate_left 1; (have hB' := Blk.kp (Blk.ext hB _) hw' hne; have c' := Blk.cell hB'; go_simp))
   (repeat (first | (refine wfp fun K hK => ?_; go_simp; refine hK _ _ ?_; clear hK K) | (refine wff fun K hK => ?_; go_simp; refine hK _ _ ?_; clear hK K)))
   have hZX := hZ.ext X
   have hbX := hb.trans ((World.below_ext W X).mono hs)
   have hDX := (hD.sub (T' := fun k => T k ∨ k = w.heap.size + 1) (fun k hk ht => ht.elim id (fun e => by omega))).kp (Kp.of_below hbX)
   clear hD hB hZ hb
   have sX := hbX.size
   have lX := hZX.lt
   generalize W.ext X = V at *
   refine First.wpF_must (fun K hK => ?_)
   go_wp2
   (refine hK _ _ (fun hnd => by first | exact Bool.noConfusion hnd | exact Kp.of_below (Below.alloc (Below.refl _ _) (Nat.le_refl _) _)) ?_; clear hK K)
   (repeat (first | (refine wfp fun K hK => ?_; go_simp; refine hK _ _ ?_; clear hK K) | (refine wff fun K hK => ?_; go_simp; refine hK _ _ ?_; clear hK K)))
   have hO : Outs (V.alloc (.cells #[.int .i64 fr, .int .i64 3, .int .i64 r.v.e, .int .i64 0, .int .i64 0, .slice none 0 0, .int .i64 (r.log.length : Int), .int .i64 0, .slice none 0 0] 96)) (fun k => T k ∨ k = w.heap.size + 1) (some ⟨V.heap.size, 0, none⟩) 1 (hearO r fr) := OutsD.one (vm := .slice none 0 0) (vl := .slice none 0 0) (o := ⟨fr, ⟨3, r.v.e, Vi.none, r.log.length, 0, []⟩⟩) rfl (mgW_bare V _ rfl rfl) (fun e => e.elim (fun e => by have := hTl _ e; omega) (fun e => by omega))
   refine First.wpF_must (fun K hK => ?_)
   go_wp2
   (refine hK _ _ (fun hnd => by first | exact Bool.noConfusion hnd | exact Kp.refl _ _) ?_; clear hK K)
   (repeat (first | (refine wfp fun K hK => ?_; go_simp; refine hK _ _ ?_; clear hK K) | (refine wff fun K hK => ?_; go_simp; refine hK _ _ ?_; clear hK K)))
   have hZ2 := hZX.alloc (.cells #[.int .i64 fr, .int .i64 3, .int .i64 r.v.e, .int .i64 0, .int .i64 0, .slice none 0 0, .int .i64 (r.log.length : Int), .int .i64 0, .slice none 0 0] 96)
   have hD2 := hDX.kp (Kp.of_below (Below.alloc (Below.refl _ _) (Nat.le_refl _) (.cells #[.int .i64 fr, .int .i64 3, .int .i64 r.v.e, .int .i64 0, .int .i64 0, .slice none 0 0, .int .i64 (r.log.length : Int), .int .i64 0, .slice none 0 0] 96)))
   have hb2 := hbX.alloc sX (.cells #[.int .i64 fr, .int .i64 3, .int .i64 r.v.e, .int .i64 0, .int .i64 0, .slice none 0 0, .int .i64 (r.log.length : Int), .int .i64 0, .slice none 0 0] 96)
   clear hZX hDX hbX
   generalize V.alloc (.cells #[.int .i64 fr, .int .i64 3, .int .i64 r.v.e, .int .i64 0, .int .i64 0, .slice none 0 0, .int .i64 (r.log.length : Int), .int .i64 0, .slice none 0 0] 96) = V2 at *
   have c2 := hZ2.cell
   have f2 := hZ2.frozen
   have l2 := hZ2.lt
   refine First.wpF_must (fun K hK => ?_)
   go_wp2
   (refine hK _ _ (fun hnd => by first | exact Bool.noConfusion hnd | exact Kp.nine _ (w.heap.size + 1) _ _ _ _ _ _ _ _ _) ?_; clear hK K)
   (repeat (first | (refine wfp fun K hK => ?_; go_simp; refine hK _ _ ?_; clear hK K) | (refine wff fun K hK => ?_; go_simp; refine hK _ _ ?_; clear hK K)))
   refine First.wpF_nil ?_
   go_wp2
   refine bodyPost_tc Tryz.results53 rfl (Blk.nine hZ2) Tryz.underlying34 rfl (by kernel_rfl) rfl ?_
   refine ⟨some ⟨V.heap.size, 0, none⟩, rfl, ?_, ?_, ?_⟩
   ·exact (hO.kp (Kp.weaken (Kp.nine V2 (w.heap.size + 1) _ _ _ _ _ _ _ _ _) fun k hk => .inr hk)).sub fun k _ hk => .inl hk
   ·exact (hD2.kp (Kp.weaken (Kp.nine V2 (w.heap.size + 1) _ _ _ _ _ _ _ _ _) fun k hk => .inr hk)).sub fun k _ hk => .inl hk
   ·exact hb2.trans (Kp.below (Kp.nine V2 (w.heap.size + 1) _ _ _ _ _ _ _ _ _) hb2.size (fun k hk => by omega))
  ·have a2 : decide ((r.sure : Int) < s) = false := decide_eq_false h2
   have hq := hide (show (((hearP r s).sure : Nat) : Int) = (r.sure : Int) by show ((max r.sure (min s r.log.length).toNat : Nat) : Int) = _; omega)
   go_enter Tryz.func53, Tryz.ntmps53
   go_upto_region 5 with fail
   refine abstr (fun W => Below w.heap.size w W ∧ Blk W w.heap.size 34 #[.int .i64 r.id, .int .i64 r.v.e, .int .i64 r.v.p, .slice A r.v.l.length c, .slice B r.log.length d, .int .i64 r.joined, .int .i64 ((hearP r s).sure : Int), .slice C r.acks.length f, .bool r.act] ∧ Blk W (w.heap.size + 1) 34 #[.int .i64 0, .int .i64 0, .int .i64 0, .slice none 0 0, .slice none 0 0, .int .i64 0, .int .i64 0, .slice none 0 0, .bool false]) ⟨by (repeat' (first | with_reducible (first | exact Below.refl _ _ | refine Below.ext ?_ ?_ _ | refine Below.alloc ?_ ?_ _ | refine Below.setCell ?_ ?_ _ | refine Below.drew ?_ | assumption) | (simp [World.size_ext]; done) | (simp [World.size_ext]; omega))), by rw [hq.out]; exact (Blk.new _ _ _).alloc _, Blk.made _ _ _ _⟩ (fun W hW => ?_)
   obtain ⟨hb, hB, hZ⟩ := hW
   have hs := hb.size
   have lB := hB.lt
   have lZ := hZ.lt
   refine wp_region_kp (fun k => k = w.heap.size + 1) [3, 5, 10] [0, 1, 2, 4, 6, 7, 8] [(true, false, 0), (true, false, 1), (true, false, 2), (true, true, 3), (true, false, 4), (true, true, 5), (true, false, 6), (true, false, 7), (true, false, 8), (true, true, 10), (false, true, 9), (false, true, 11), (false, false, 12)] (by kernel_rfl) (by kernel_rfl) (fun X => ?_); simp only [List.map_cons, List.map_nil, List.getD_cons_zero, List.getD_cons_succ]
   have hne : ¬(w.heap.size = w.heap.size + 1) := by omega
   (repeat (first | (refine wfp fun K hK => ?_; go_simp; refine hK _ _ ?_; clear hK K) | (refine wff fun K hK => ?_; go_simp; refine hK _ _ ?_; clear hK K)))
   (refine first_readG rfl (v := .int .i64 r.v.e) (fun w' hw' => ?_) (fun K hK => ?_); rotate_left 1; go_simp; refine hK _ _ ?_; clear hK K; rotate_left 1; (have hB' := Blk.kp (Blk.ext hB _) hw' hne; have c' := Blk.cell hB'; go_simp))
   (repeat (first | (refine wfp fun K hK => ?_; go_simp; refine hK _ _ ?_; clear hK K) | (refine wff fun K hK => ?_; go_simp; refine hK _ _ ?_; clear hK K)))
   (refine first_readG rfl (v := .slice B r.log.length d) (fun w' hw' => ?_) (fun K hK => ?_); rotate_left 1; go_simp; refine hK _ _ ?_; clear hK K; rotate_left 1; (have hB' := Blk.kp (Blk.ext hB _) hw' hne; have c' := Blk.cell hB'; go_simp))
   (repeat (first | (refine wfp fun K hK => ?_; go_simp; refine hK _ _ ?_; clear hK K) | (refine wff fun K hK => ?_; go_simp; refine hK _ _ ?_; clear hK K)))
   (refine first_readG rfl (v := .agg #[.int .i64 r.id, .int .i64 r.v.e, .int .i64 r.v.p, .slice A r.v.l.length c, .slice B r.log.length d, .int .i64 r.joined, .int .i64 ((hearP r s).sure : Int), .slice C r.acks.length f, .bool r.act]) (fun w' hw' => ?_) (fun K hK => ?_); rotate_left 1; go_simp; refine hK _ _ ?_; clear hK K; rotate_left 1; (have hB' := Blk.kp (Blk.ext hB _) hw' hne; have c' := Blk.cell hB'; go_simp))
   (repeat (first | (refine wfp fun K hK => ?_; go_simp; refine hK _ _ ?_; clear hK K) | (refine wff fun K hK => ?_; go_simp; refine hK _ _ ?_; clear hK K)))
   have hZX := hZ.ext X
   have hbX := hb.trans ((World.below_ext W X).mono hs)
   have hDX := (hD.sub (T' := fun k => T k ∨ k = w.heap.size + 1) (fun k hk ht => ht.elim id (fun e => by omega))).kp (Kp.of_below hbX)
   clear hD hB hZ hb
   have sX := hbX.size
   have lX := hZX.lt
   generalize W.ext X = V at *
   refine First.wpF_must (fun K hK => ?_)
   go_wp2
   (refine hK _ _ (fun hnd => by first | exact Bool.noConfusion hnd | exact Kp.of_below (Below.alloc (Below.refl _ _) (Nat.le_refl _) _)) ?_; clear hK K)
   (repeat (first | (refine wfp fun K hK => ?_; go_simp; refine hK _ _ ?_; clear hK K) | (refine wff fun K hK => ?_; go_simp; refine hK _ _ ?_; clear hK K)))
   have hO : Outs (V.alloc (.cells #[.int .i64 fr, .int .i64 3, .int .i64 r.v.e, .int .i64 0, .int .i64 0, .slice none 0 0, .int .i64 (r.log.length : Int), .int .i64 0, .slice none 0 0] 96)) (fun k => T k ∨ k = w.heap.size + 1) (some ⟨V.heap.size, 0, none⟩) 1 (hearO r fr) := OutsD.one (vm := .slice none 0 0) (vl := .slice none 0 0) (o := ⟨fr, ⟨3, r.v.e, Vi.none, r.log.length, 0, []⟩⟩) rfl (mgW_bare V _ rfl rfl) (fun e => e.elim (fun e => by have := hTl _ e; omega) (fun e => by omega))
   refine First.wpF_must (fun K hK => ?_)
   go_wp2
   (refine hK _ _ (fun hnd => by first | exact Bool.noConfusion hnd | exact Kp.refl _ _) ?_; clear hK K)
   (repeat (first | (refine wfp fun K hK => ?_; go_simp; refine hK _ _ ?_; clear hK K) | (refine wff fun K hK => ?_; go_simp; refine hK _ _ ?_; clear hK K)))
   have hZ2 := hZX.alloc (.cells #[.int .i64 fr, .int .i64 3, .int .i64 r.v.e, .int .i64 0, .int .i64 0, .slice none 0 0, .int .i64 (r.log.length : Int), .int .i64 0, .slice none 0 0] 96)
   have hD2 := hDX.kp (Kp.of_below (Below.alloc (Below.refl _ _) (Nat.le_refl _) (.cells #[.int .i64 fr, .int .i64 3, .int .i64 r.v.e, .int .i64 0, .int .i64 0, .slice none 0 0, .int .i64 (r.log.length : Int), .int .i64 0, .slice none 0 0] 96)))
   have hb2 := hbX.alloc sX (.cells #[.int .i64 fr, .int .i64 3, .int .i64 r.v.e, .int .i64 0, .int .i64 0, .slice none 0 0, .int .i64 (r.log.length : Int), .int .i64 0, .slice none 0 0] 96)
   clear hZX hDX hbX
   generalize V.alloc (.cells #[.int .i64 fr, .int .i64 3, .int .i64 r.v.e, .int .i64 0, .int .i64 0, .slice none 0 0, .int .i64 (r.log.length : Int), .int .i64 0, .slice none 0 0] 96) = V2 at *
   have c2 := hZ2.cell
   have f2 := hZ2.frozen
   have l2 := hZ2.lt
   refine First.wpF_must (fun K hK => ?_)
   go_wp2
   (refine hK _ _ (fun hnd => by first | exact Bool.noConfusion hnd | exact Kp.nine _ (w.heap.size + 1) _ _ _ _ _ _ _ _ _) ?_; clear hK K)
   (repeat (first | (refine wfp fun K hK => ?_; go_simp; refine hK _ _ ?_; clear hK K) | (refine wff fun K hK => ?_; go_simp; refine hK _ _ ?_; clear hK K)))
   refine First.wpF_nil ?_
   go_wp2
   refine bodyPost_tc Tryz.results53 rfl (Blk.nine hZ2) Tryz.underlying34 rfl (by kernel_rfl) rfl ?_
   refine ⟨some ⟨V.heap.size, 0, none⟩, rfl, ?_, ?_, ?_⟩
   ·exact (hO.kp (Kp.weaken (Kp.nine V2 (w.heap.size + 1) _ _ _ _ _ _ _ _ _) fun k hk => .inr hk)).sub fun k _ hk => .inl hk
   ·exact (hD2.kp (Kp.weaken (Kp.nine V2 (w.heap.size + 1) _ _ _ _ _ _ _ _ _) fun k hk => .inr hk)).sub fun k _ hk => .inl hk
   ·exact hb2.trans (Kp.below (Kp.nine V2 (w.heap.size + 1) _ _ _ _ _ _ _ _ _) hb2.size (fun k hk => by omega))
end Go.Proofs.YtjhcgnmibnjocaaGreat
