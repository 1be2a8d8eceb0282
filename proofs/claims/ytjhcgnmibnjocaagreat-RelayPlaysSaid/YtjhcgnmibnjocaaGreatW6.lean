import Derived.Test.YtjhcgnmibnjocaaGreatW5
import Derived.Test.YtjhcgnmibnjocaaGreatY29
/-! The document's relay proposes. -/
namespace Go.Proofs.YtjhcgnmibnjocaaGreat
open Go.RowKit Go.Maps
set_option linter.unusedVariables false
set_option linter.unusedSimpArgs false
theorem bodyPost_t4c {P : Program} {fn : Func} {R : Ending → World → Prop} {a : Act} {w : World} {p u u2 u3 u4 g : Nat} {t ty : TypeId} {cs : Array Value} {d : TypeDesc} (h : fn.results = #[.tmp u, .tmp u2, .tmp u3, .tmp u4, .cell p ty])
  (hp : a.tmps.getD p undef = .pointer (some ⟨g, 0, none⟩)) (hB : Blk w g t cs) (hu : P.underlying ty = some d) (hd : (match d with | .struct _ | .array _ _ => true | _ => false) = true) (hi : (P.info? ty).map (·.size) = some cs.size)
  (hdf : a.defers = []) (hR : R (.returned (.tuple #[a.tmps.getD u undef, a.tmps.getD u2 undef, a.tmps.getD u3 undef, a.tmps.getD u4 undef, .agg cs])) w) : bodyPost P fn R .ret a w :=
 bodyPost_ret (by
  have hp' := hp
  rw [Array.getD_eq_getD_getElem?] at hp'
  simp only [results, h]
  simp [hp', asAddr, run_loadVar_row w g t ty cs (0, 0) d hB hu hd hi, Array.getD_eq_getD_getElem?]) hdf hR
theorem run_copyV {T : Nat → Prop} (W : World) (b : Nat) (hE : Blk W b 5 #[]) (u : Value) (t : List Nat) (h : Bsl W T u t) (hn : t.length ≤ 1000000) :
  ∃ v w', (Builtin.append_ #[36, 36] 36 #[.slice (some ⟨b, 0, none⟩) 0 0, u]).run Tryz.prog W = .ok v w' ∧ Row w' b v t ∧ First.Grown W w' := by
 have hbl : b < W.heap.size := hE.lt
 have hown : W.ownsRow b 5 1 (.slice (some ⟨b, 0, none⟩) 0 0) 0 [] := ⟨by simp, .inr ⟨b, 0, #[], rfl, Nat.le_refl _, hE, Nat.zero_le _, Nat.zero_le _, rfl, by simp⟩⟩
 obtain ⟨A, c, rfl, hR, hnil⟩ := h.exR
 obtain ⟨i0, hi, hz0, hz1, hz2⟩ := info_parts infoU8
 rcases Nat.eq_zero_or_pos t.length with h0 | h0
 ·obtain rfl : t = [] := List.eq_nil_of_length_eq_zero h0
  have hs : Src Tryz.prog i0.size 36 (.slice A 0 c) 0 [] W := by
   cases A with
   | none => rw [hnil rfl]; exact Src.ofNil _ Tryz.underlying36 _
   | some ad => exact Src.ofSlice _ Tryz.underlying36 ad 0 c [] (by simp) (fun j u hu => by cases hu) (fun u hu => by cases hu)
  have h2 := run_append_room_src (P := Tryz.prog) W 36 36 36 5 i0 Tryz.underlying36 hi b 0 0 0 (.slice A 0 c) 0 [] hs (Nat.le_refl _) (fun j hj => by cases hj) (fun j hj => by cases hj)
  exact ⟨_, _, h2, hown, First.Grown.refl _⟩
 ·obtain ⟨ad, rfl, hb, hc⟩ := hR.2 h0
  have h2 := run_append_grow (P := Tryz.prog) W 36 36 5 i0 (.int .u8 0) Tryz.underlying36 hi hz0 ⟨b, 0, none⟩ 0 0 [] (by simp) (fun j u hu => by cases hu) ad t.length c (u8s t) (by rw [u8s_length, hz1, Nat.mul_one])
   (fun j u hu => hc j u hu) (by omega) (by omega) (growslice_fits (by omega) (by rw [hz2]; omega))
  obtain ⟨v, w', h1, hr, _, _⟩ := run_append_own (P := Tryz.prog) W b 36 36 5 i0 (.int .u8 0) 1 1 Tryz.underlying36 hi hz0 hz1 hz2 rfl (by decide) (.slice (some ⟨b, 0, none⟩) 0 0) 0 [] hown ad t.length c (u8s t) (by simp [u8s_length])
   (fun j u hu => hc j u hu) (fun u hu => by simp only [u8s, List.mem_map] at hu; obtain ⟨x, _, rfl⟩ := hu; rfl) (by unfold maxLen; omega) (by omega) (by omega)
  refine ⟨v, w', h1, by simpa [Row] using hr, ?_⟩
  rw [h1] at h2
  injection h2 with _ h3
  rw [h3]
  have hbb : Below W.heap.size W W.drew := Below.drew (Below.refl _ _)
  exact World.ext_of_below (hbb.alloc (Nat.le_refl _) _)
theorem Row.ne_blk {w : World} {base : Nat} {v : Value} {xs : List Nat} (h : Row w base v xs) {p : Nat} {ty : TypeId} {cs : Array Value} (hB : Blk w p ty cs) (ht : ty ≠ 5) : v.ownBlock ≠ some p := fun e => by
 rcases h.2 with ⟨hv, _⟩ | ⟨g, cap, cur, hv, _, hh, _⟩
 ·rw [hv] at e; cases e
 ·rw [hv] at e
  cases e
  have := hh.symm.trans hB
  simp only [Option.some.injEq, Obj.cells.injEq] at this
  exact ht this.2.1.symm
theorem Bsl.row' {w : World} {T : Nat → Prop} {base : Nat} {v : Value} {t : List Nat} (h : Row w base v t) (hT : ∀ k, v.ownBlock = some k → ¬T k) (hb : ∀ x ∈ t, x < 256) : Bsl w T v t := by
 obtain ⟨A, c, e, h1, h2, hn, hr⟩ := h.slice
 exact ⟨⟨A, c, e, hr, hn, fun h0 a ha ht => hT a.block (by rw [e, ha]; rfl) ht, h1, h2⟩, hb⟩
set_option maxRecDepth 100000 in
set_option maxHeartbeats 40000000 in
theorem dpropose_any {T T0 : Nat → Prop} (r : Rl) (t : List Nat) (u vm vl va : Value) (w : World) (h : DrW w T vm vl va r) (hTl : ∀ k, T k → k < w.heap.size) (hok : r.ok) (hu : Bsl w T0 u t) (hn0 : t.length ≤ 1000000) :
  Calls Tryz.prog 11 #[.agg #[.int .i64 r.id, .int .i64 r.v.e, .int .i64 r.v.p, vm, vl, .int .i64 r.joined, .int .i64 (r.sure : Int), va, .bool r.act], u] w fun e w' => ∃ vl' va' A1 n1 c1 A2 n2 c2, e = .returned (.tuple #[.int .i64 ((proposeP r t).at_ : Int), .slice A1 n1 c1, .slice A2 n2 c2, .int .i64 (proposeP r t).e, .agg #[.int .i64 (proposeP r t).r.id, .int .i64 (proposeP r t).r.v.e, .int .i64 (proposeP r t).r.v.p, vm, vl', .int .i64 (proposeP r t).r.joined, .int .i64 ((proposeP r t).r.sure : Int), va', .bool (proposeP r t).r.act]]) ∧ Recs w' T A1 n1 (proposeP r t).recs ∧ Outs w' T A2 n2 (proposeP r t).outs ∧ DrW w' T vm vl' va' (proposeP r t).r ∧ Below w.heap.size w w' := by
 have hD := h
 obtain ⟨A, c, B, d, C, f, rfl, rfl, rfl⟩ := h.sl
 obtain ⟨Au, cu, rfl, hur, hunil⟩ := hu.exR
 have hby := hu.by_
 have hB0 := (Blk.new w 34 #[.int .i64 r.id, .int .i64 r.v.e, .int .i64 r.v.p, (.slice A r.v.l.length c), (.slice B r.log.length d), .int .i64 r.joined, .int .i64 (r.sure : Int), (.slice C r.acks.length f), .bool r.act]).alloc (.cells #[.int .i64 0, .int .i64 0, .int .i64 0, .slice none 0 0, .slice none 0 0, .int .i64 0, .int .i64 0, .slice none 0 0, .bool false] 34)
 have hZ0 := Blk.made w (.cells #[.int .i64 r.id, .int .i64 r.v.e, .int .i64 r.v.p, (.slice A r.v.l.length c), (.slice B r.log.length d), .int .i64 r.joined, .int .i64 (r.sure : Int), (.slice C r.acks.length f), .bool r.act] 34) 34 #[.int .i64 0, .int .i64 0, .int .i64 0, .slice none 0 0, .slice none 0 0, .int .i64 0, .int .i64 0, .slice none 0 0, .bool false]
 have hb0 : Below w.heap.size w ((w.alloc (.cells #[.int .i64 r.id, .int .i64 r.v.e, .int .i64 r.v.p, (.slice A r.v.l.length c), (.slice B r.log.length d), .int .i64 r.joined, .int .i64 (r.sure : Int), (.slice C r.acks.length f), .bool r.act] 34)).alloc (.cells #[.int .i64 0, .int .i64 0, .int .i64 0, .slice none 0 0, .slice none 0 0, .int .i64 0, .int .i64 0, .slice none 0 0, .bool false] 34)) := (Below.alloc (Below.refl _ _) (Nat.le_refl _) _).alloc (by simp) _
 have hL := dleads_any r _ _ _ _ (hD.kp (Kp.of_below hb0))
 have cB := hB0.cell
 have lB := hB0.lt
 clear h
 by_cases hn : 262144 < t.length
 ·have hP : proposeP r t = ⟨0, [], [], 8, r⟩ := by unfold proposeP; rw [if_pos hn]
  rw [hP]
  have hd : decide ((262144 : Int) < t.length) = true := by simp; omega
  go_enter Tryz.func11, Tryz.ntmps11
  go_upto_region 2 with fail
  refine abstr (fun W => Below w.heap.size w W ∧ Blk W w.heap.size 34 #[.int .i64 r.id, .int .i64 r.v.e, .int .i64 r.v.p, (.slice A r.v.l.length c), (.slice B r.log.length d), .int .i64 r.joined, .int .i64 (r.sure : Int), (.slice C r.acks.length f), .bool r.act] ∧ Blk W (w.heap.size + 1) 34 #[.int .i64 0, .int .i64 0, .int .i64 0, .slice none 0 0, .slice none 0 0, .int .i64 0, .int .i64 0, .slice none 0 0, .bool false]) ⟨hb0, hB0, hZ0⟩ (fun w1 hW => ?_)
  clear hB0 hZ0 hb0 hL cB lB
  obtain ⟨hb01, hB1, hZ1⟩ := hW; have lB := hB1.lt; have lZ := hZ1.lt; refine wp_region_kp (fun k => k = w.heap.size + 1) [0] [] [(true, true, 0), (false, true, 1), (false, true, 2), (false, true, 3), (false, true, 4), (false, false, 5)] (by kernel_rfl) (by kernel_rfl) (fun X => ?_); simp only [List.map_cons, List.map_nil, List.getD_cons_zero, List.getD_cons_succ]; (have hne : ¬(w.heap.size = w.heap.size + 1) := by omega); (repeat (first | (refine wfp fun K hK => ?_; go_simp; refine hK _ _ ?_; clear hK K) | (refine wff fun K hK => ?_; go_simp; refine hK _ _ ?_; clear hK K))); (refine first_readG rfl (v := .agg #[.int .i64 r.id, .int .i64 r.v.e, .int .i64 r.v.p, (.slice A r.v.l.length c), (.slice B r.log.length d), .int .i64 r.joined, .int .i64 (r.sure : Int), (.slice C r.acks.length f), .bool r.act]) (fun w' hw' => ?_) (fun K hK => ?_); rotate_left 1; go_simp; refine hK _ _ ?_; clear hK K; rotate_left 1; (have hB' := Blk.kp (Blk.ext hB1 _) hw' hne; have c' := Blk.cell hB'; go_simp)); (repeat (first | (refine wfp fun K hK => ?_; go_simp; refine hK _ _ ?_; clear hK K) | (refine wff fun K hK => ?_; go_simp; refine hK _ _ ?_; clear hK K))); (have hbX := hb01.trans ((World.below_ext w1 X).mono hb01.size)); (have hZX := hZ1.ext X); (have hD2 := (hD.sub (T' := fun k => T k ∨ k = w.heap.size + 1) (fun k hk ht => ht.elim id (fun e => by omega))).kp (Kp.of_below hbX)); generalize w1.ext X = V at *; (have c2 := hZX.cell); (have f2 := hZX.frozen); (have l2 := hZX.lt); (repeat (refine First.wpF_must (fun K hK => ?_); go_wp2; (refine hK _ _ (fun hnd => by first | exact Bool.noConfusion hnd | exact Kp.refl _ _) ?_; clear hK K); (repeat (first | (refine wfp fun K hK => ?_; go_simp; refine hK _ _ ?_; clear hK K) | (refine wff fun K hK => ?_; go_simp; refine hK _ _ ?_; clear hK K))))); (try (refine First.wpF_must (fun K hK => ?_); go_wp2; (refine hK _ _ (fun hnd => by first | exact Bool.noConfusion hnd | exact Kp.nine _ (w.heap.size + 1) _ _ _ _ _ _ _ _ _) ?_; clear hK K); (repeat (first | (refine wfp fun K hK => ?_; go_simp; refine hK _ _ ?_; clear hK K) | (refine wff fun K hK => ?_; go_simp; refine hK _ _ ?_; clear hK K))))); refine First.wpF_nil ?_; go_wp2; refine bodyPost_t4c Tryz.results11 rfl (Blk.nine hZX) Tryz.underlying34 rfl (by kernel_rfl) rfl ?_; exact ⟨_, _, none, 0, 0, none, 0, 0, rfl, Recs.nil _ _, Outs.nil _ _, (hD2.kp (Kp.weaken (Kp.nine V (w.heap.size + 1) _ _ _ _ _ _ _ _ _) fun k hk => .inr hk)).sub fun k _ hk => .inl hk, hbX.trans (Kp.below (Kp.nine V (w.heap.size + 1) _ _ _ _ _ _ _ _ _) hbX.size (fun k hk => by omega))⟩
 ·have hd : decide ((262144 : Int) < t.length) = false := by simp; omega
  rcases hl : r.leads with _ | _
  ·have hP : proposeP r t = ⟨0, [], [], 3, r⟩ := by unfold proposeP; rw [if_neg hn, if_pos (by rw [hl]; rfl)]
   rw [hP]
   rw [hl] at hL
   go_enter Tryz.func11, Tryz.ntmps11
   go_upto_region 4 with (go_at_call 38; (with_reducible refine hL.mono ?_); rintro e wl ⟨rfl, hb1⟩)
   refine abstr (fun W => Below w.heap.size w W ∧ Blk W w.heap.size 34 #[.int .i64 r.id, .int .i64 r.v.e, .int .i64 r.v.p, (.slice A r.v.l.length c), (.slice B r.log.length d), .int .i64 r.joined, .int .i64 (r.sure : Int), (.slice C r.acks.length f), .bool r.act] ∧ Blk W (w.heap.size + 1) 34 #[.int .i64 0, .int .i64 0, .int .i64 0, .slice none 0 0, .slice none 0 0, .int .i64 0, .int .i64 0, .slice none 0 0, .bool false]) ⟨hb0.trans (hb1.mono (by simp; omega)), hB0.below hb1 lB, hZ0.below hb1 hZ0.lt⟩ (fun w1 hW => ?_)
   clear hB0 hZ0 hb0 hL cB lB hb1
   obtain ⟨hb01, hB1, hZ1⟩ := hW; have lB := hB1.lt; have lZ := hZ1.lt; refine wp_region_kp (fun k => k = w.heap.size + 1) [0] [] [(true, true, 0), (false, true, 1), (false, true, 2), (false, true, 3), (false, true, 4), (false, false, 5)] (by kernel_rfl) (by kernel_rfl) (fun X => ?_); simp only [List.map_cons, List.map_nil, List.getD_cons_zero, List.getD_cons_succ]; (have hne : ¬(w.heap.size = w.heap.size + 1) := by omega); (repeat (first | (refine wfp fun K hK => ?_; go_simp; refine hK _ _ ?_; clear hK K) | (refine wff fun K hK => ?_; go_simp; refine hK _ _ ?_; clear hK K))); (refine first_readG rfl (v := .agg #[.int .i64 r.id, .int .i64 r.v.e, .int .i64 r.v.p, (.slice A r.v.l.length c), (.slice B r.log.length d), .int .i64 r.joined, .int .i64 (r.sure : Int), (.slice C r.acks.length f), .bool r.act]) (fun w' hw' => ?_) (fun K hK => ?_); rotate_left 1; go_simp; refine hK _ _ ?_; clear hK K; rotate_left 1; (have hB' := Blk.kp (Blk.ext hB1 _) hw' hne; have c' := Blk.cell hB'; go_simp)); (repeat (first | (refine wfp fun K hK => ?_; go_simp; refine hK _ _ ?_; clear hK K) | (refine wff fun K hK => ?_; go_simp; refine hK _ _ ?_; clear hK K))); (have hbX := hb01.trans ((World.below_ext w1 X).mono hb01.size)); (have hZX := hZ1.ext X); (have hD2 := (hD.sub (T' := fun k => T k ∨ k = w.heap.size + 1) (fun k hk ht => ht.elim id (fun e => by omega))).kp (Kp.of_below hbX)); generalize w1.ext X = V at *; (have c2 := hZX.cell); (have f2 := hZX.frozen); (have l2 := hZX.lt); (repeat (refine First.wpF_must (fun K hK => ?_); go_wp2; (refine hK _ _ (fun hnd => by first | exact Bool.noConfusion hnd | exact Kp.refl _ _) ?_; clear hK K); (repeat (first | (refine wfp fun K hK => ?_; go_simp; refine hK _ _ ?_; clear hK K) | (refine wff fun K hK => ?_; go_simp; refine hK _ _ ?_; clear hK K))))); (try (refine First.wpF_must (fun K hK => ?_); go_wp2; (refine hK _ _ (fun hnd => by first | exact Bool.noConfusion hnd | exact Kp.nine _ (w.heap.size + 1) _ _ _ _ _ _ _ _ _) ?_; clear hK K); (repeat (first | (refine wfp fun K hK => ?_; go_simp; refine hK _ _ ?_; clear hK K) | (refine wff fun K hK => ?_; go_simp; refine hK _ _ ?_; clear hK K))))); refine First.wpF_nil ?_; go_wp2; refine bodyPost_t4c Tryz.results11 rfl (Blk.nine hZX) Tryz.underlying34 rfl (by kernel_rfl) rfl ?_; exact ⟨_, _, none, 0, 0, none, 0, 0, rfl, Recs.nil _ _, Outs.nil _ _, (hD2.kp (Kp.weaken (Kp.nine V (w.heap.size + 1) _ _ _ _ _ _ _ _ _) fun k hk => .inr hk)).sub fun k _ hk => .inl hk, hbX.trans (Kp.below (Kp.nine V (w.heap.size + 1) _ _ _ _ _ _ _ _ _) hbX.size (fun k hk => by omega))⟩
  ·rw [hl] at hL
   rcases (show r.act = false ∨ r.act = true by cases r.act <;> simp) with hac0 | hac0
   ·skip
    have hP : proposeP r t = ⟨0, [], [], 3, r⟩ := by unfold proposeP; rw [if_neg hn, if_pos (by rw [hac0]; simp)]
    rw [hP]
    have hac := hide hac0
    clear hac0
    go_enter Tryz.func11, Tryz.ntmps11
    go_upto_region 4 with (go_at_call 38; (with_reducible refine hL.mono ?_); rintro e wl ⟨rfl, hb1⟩; have hBl := hB0.below hb1 lB; have cl := hBl.cell; have ll := hBl.lt; rw [hac.out] at cl)
    refine abstr (fun W => Below w.heap.size w W ∧ Blk W w.heap.size 34 #[.int .i64 r.id, .int .i64 r.v.e, .int .i64 r.v.p, (.slice A r.v.l.length c), (.slice B r.log.length d), .int .i64 r.joined, .int .i64 (r.sure : Int), (.slice C r.acks.length f), .bool r.act] ∧ Blk W (w.heap.size + 1) 34 #[.int .i64 0, .int .i64 0, .int .i64 0, .slice none 0 0, .slice none 0 0, .int .i64 0, .int .i64 0, .slice none 0 0, .bool false]) ⟨hb0.trans (hb1.mono (by simp; omega)), hB0.below hb1 lB, hZ0.below hb1 hZ0.lt⟩ (fun w1 hW => ?_)
    clear hB0 hZ0 hb0 hL cB lB hb1 hBl cl ll
    obtain ⟨hb01, hB1, hZ1⟩ := hW; have lB := hB1.lt; have lZ := hZ1.lt; refine wp_region_kp (fun k => k = w.heap.size + 1) [0] [] [(true, true, 0), (false, true, 1), (false, true, 2), (false, true, 3), (false, true, 4), (false, false, 5)] (by kernel_rfl) (by kernel_rfl) (fun X => ?_); simp only [List.map_cons, List.map_nil, List.getD_cons_zero, List.getD_cons_succ]; (have hne : ¬(w.heap.size = w.heap.size + 1) := by omega); (repeat (first | (refine wfp fun K hK => ?_; go_simp; refine hK _ _ ?_; clear hK K) | (refine wff fun K hK => ?_; go_simp; refine hK _ _ ?_; clear hK K))); (refine first_readG rfl (v := .agg #[.int .i64 r.id, .int .i64 r.v.e, .int .i64 r.v.p, (.slice A r.v.l.length c), (.slice B r.log.length d), .int .i64 r.joined, .int .i64 (r.sure : Int), (.slice C r.acks.length f), .bool r.act]) (fun w' hw' => ?_) (fun K hK => ?_); rotate_left 1; go_simp; refine hK _ _ ?_; clear hK K; rotate_left 1; (have hB' := Blk.kp (Blk.ext hB1 _) hw' hne; have c' := Blk.cell hB'; go_simp)); (repeat (first | (refine wfp fun K hK => ?_; go_simp; refine hK _ _ ?_; clear hK K) | (refine wff fun K hK => ?_; go_simp; refine hK _ _ ?_; clear hK K))); (have hbX := hb01.trans ((World.below_ext w1 X).mono hb01.size)); (have hZX := hZ1.ext X); (have hD2 := (hD.sub (T' := fun k => T k ∨ k = w.heap.size + 1) (fun k hk ht => ht.elim id (fun e => by omega))).kp (Kp.of_below hbX)); generalize w1.ext X = V at *; (have c2 := hZX.cell); (have f2 := hZX.frozen); (have l2 := hZX.lt); (repeat (refine First.wpF_must (fun K hK => ?_); go_wp2; (refine hK _ _ (fun hnd => by first | exact Bool.noConfusion hnd | exact Kp.refl _ _) ?_; clear hK K); (repeat (first | (refine wfp fun K hK => ?_; go_simp; refine hK _ _ ?_; clear hK K) | (refine wff fun K hK => ?_; go_simp; refine hK _ _ ?_; clear hK K))))); (try (refine First.wpF_must (fun K hK => ?_); go_wp2; (refine hK _ _ (fun hnd => by first | exact Bool.noConfusion hnd | exact Kp.nine _ (w.heap.size + 1) _ _ _ _ _ _ _ _ _) ?_; clear hK K); (repeat (first | (refine wfp fun K hK => ?_; go_simp; refine hK _ _ ?_; clear hK K) | (refine wff fun K hK => ?_; go_simp; refine hK _ _ ?_; clear hK K))))); refine First.wpF_nil ?_; go_wp2; refine bodyPost_t4c Tryz.results11 rfl (Blk.nine hZX) Tryz.underlying34 rfl (by kernel_rfl) rfl ?_; exact ⟨_, _, none, 0, 0, none, 0, 0, rfl, Recs.nil _ _, Outs.nil _ _, (hD2.kp (Kp.weaken (Kp.nine V (w.heap.size + 1) _ _ _ _ _ _ _ _ _) fun k hk => .inr hk)).sub fun k _ hk => .inl hk, hbX.trans (Kp.below (Kp.nine V (w.heap.size + 1) _ _ _ _ _ _ _ _ _) hbX.size (fun k hk => by omega))⟩
   ·skip
    have hac := hide hac0
    clear hac0
    by_cases hf : 4096 ≤ r.log.length
    ·have hP : proposeP r t = ⟨0, [], [], 4, r⟩ := by unfold proposeP; rw [if_neg hn, if_neg (by rw [hl, hac.out]; simp), if_pos hf]
     rw [hP]
     have hd2 : decide ((4096 : Int) ≤ r.log.length) = true := by simp; omega
     go_enter Tryz.func11, Tryz.ntmps11
     go_upto_region 6 with (go_at_call 38; (with_reducible refine hL.mono ?_); rintro e wl ⟨rfl, hb1⟩; have hBl := hB0.below hb1 lB; have cl := hBl.cell; have ll := hBl.lt; rw [hac.out] at cl)
     refine abstr (fun W => Below w.heap.size w W ∧ Blk W w.heap.size 34 #[.int .i64 r.id, .int .i64 r.v.e, .int .i64 r.v.p, (.slice A r.v.l.length c), (.slice B r.log.length d), .int .i64 r.joined, .int .i64 (r.sure : Int), (.slice C r.acks.length f), .bool r.act] ∧ Blk W (w.heap.size + 1) 34 #[.int .i64 0, .int .i64 0, .int .i64 0, .slice none 0 0, .slice none 0 0, .int .i64 0, .int .i64 0, .slice none 0 0, .bool false]) ⟨hb0.trans (hb1.mono (by simp; omega)), hB0.below hb1 lB, hZ0.below hb1 hZ0.lt⟩ (fun w1 hW => ?_)
     clear hB0 hZ0 hb0 hL cB lB hb1 hBl cl ll
     obtain ⟨hb01, hB1, hZ1⟩ := hW; have lB := hB1.lt; have lZ := hZ1.lt; refine wp_region_kp (fun k => k = w.heap.size + 1) [0] [] [(true, true, 0), (false, true, 1), (false, true, 2), (false, true, 3), (false, true, 4), (false, false, 5)] (by kernel_rfl) (by kernel_rfl) (fun X => ?_); simp only [List.map_cons, List.map_nil, List.getD_cons_zero, List.getD_cons_succ]; (have hne : ¬(w.heap.size = w.heap.size + 1) := by omega); (repeat (first | (refine wfp fun K hK => ?_; go_simp; refine hK _ _ ?_; clear hK K) | (refine wff fun K hK => ?_; go_simp; refine hK _ _ ?_; clear hK K))); (refine first_readG rfl (v := .agg #[.int .i64 r.id, .int .i64 r.v.e, .int .i64 r.v.p, (.slice A r.v.l.length c), (.slice B r.log.length d), .int .i64 r.joined, .int .i64 (r.sure : Int), (.slice C r.acks.length f), .bool r.act]) (fun w' hw' => ?_) (fun K hK => ?_); rotate_left 1; go_simp; refine hK _ _ ?_; clear hK K; rotate_left 1; (have hB' := Blk.kp (Blk.ext hB1 _) hw' hne; have c' := Blk.cell hB'; go_simp)); (repeat (first | (refine wfp fun K hK => ?_; go_simp; refine hK _ _ ?_; clear hK K) | (refine wff fun K hK => ?_; go_simp; refine hK _ _ ?_; clear hK K))); (have hbX := hb01.trans ((World.below_ext w1 X).mono hb01.size)); (have hZX := hZ1.ext X); (have hD2 := (hD.sub (T' := fun k => T k ∨ k = w.heap.size + 1) (fun k hk ht => ht.elim id (fun e => by omega))).kp (Kp.of_below hbX)); generalize w1.ext X = V at *; (have c2 := hZX.cell); (have f2 := hZX.frozen); (have l2 := hZX.lt); (repeat (refine First.wpF_must (fun K hK => ?_); go_wp2; (refine hK _ _ (fun hnd => by first | exact Bool.noConfusion hnd | exact Kp.refl _ _) ?_; clear hK K); (repeat (first | (refine wfp fun K hK => ?_; go_simp; refine hK _ _ ?_; clear hK K) | (refine wff fun K hK => ?_; go_simp; refine hK _ _ ?_; clear hK K))))); (try (refine First.wpF_must (fun K hK => ?_); go_wp2; (refine hK _ _ (fun hnd => by first | exact Bool.noConfusion hnd | exact Kp.nine _ (w.heap.size + 1) _ _ _ _ _ _ _ _ _) ?_; clear hK K); (repeat (first | (refine wfp fun K hK => ?_; go_simp; refine hK _ _ ?_; clear hK K) | (refine wff fun K hK => ?_; go_simp; refine hK _ _ ?_; clear hK K))))); refine First.wpF_nil ?_; go_wp2; refine bodyPost_t4c Tryz.results11 rfl (Blk.nine hZX) Tryz.underlying34 rfl (by kernel_rfl) rfl ?_; exact ⟨_, _, none, 0, 0, none, 0, 0, rfl, Recs.nil _ _, Outs.nil _ _, (hD2.kp (Kp.weaken (Kp.nine V (w.heap.size + 1) _ _ _ _ _ _ _ _ _) fun k hk => .inr hk)).sub fun k _ hk => .inl hk, hbX.trans (Kp.below (Kp.nine V (w.heap.size + 1) _ _ _ _ _ _ _ _ _) hbX.size (fun k hk => by omega))⟩
    ·have hd2 : decide ((4096 : Int) ≤ r.log.length) = false := by simp; omega
     have hP : proposeP r t = ⟨r.log.length + 1, [recEntryP (r.log.length + 1) ⟨r.v.e, t⟩], (othersP r).map fun n => ⟨n, ⟨2, r.v.e, Vi.none, (r.log.length + 1 : Nat), (proposed r t).sure, [⟨r.v.e, t⟩]⟩⟩, 0, proposed r t⟩ := by unfold proposeP; rw [if_neg hn, if_neg (by rw [hl, hac.out]; simp), if_neg hf]
     have hPr := proposed_ok hok (t := t) (by omega) (by omega) hby
     have hEn : (⟨r.v.e, t⟩ : Ent).ok := hPr.log _ (by simp)
     rw [hP]
     clear hP
     go_enter Tryz.func11, Tryz.ntmps11
     go_upto_region 7 with (go_at_call 38; (with_reducible refine hL.mono ?_); rintro e wl ⟨rfl, hb1⟩; have hBl := hB0.below hb1 lB; have cl := hBl.cell; have ll := hBl.lt; rw [hac.out] at cl)
     refine abstr (fun W => Below w.heap.size w W ∧ Blk W w.heap.size 34 #[.int .i64 r.id, .int .i64 r.v.e, .int .i64 r.v.p, (.slice A r.v.l.length c), (.slice B r.log.length d), .int .i64 r.joined, .int .i64 (r.sure : Int), (.slice C r.acks.length f), .bool r.act] ∧ Blk W (w.heap.size + 1) 34 #[.int .i64 0, .int .i64 0, .int .i64 0, .slice none 0 0, .slice none 0 0, .int .i64 0, .int .i64 0, .slice none 0 0, .bool false]) ⟨hb0.trans (hb1.mono (by simp; omega)), hB0.below hb1 lB, hZ0.below hb1 hZ0.lt⟩ (fun w1 hW => ?_)
     clear hB0 hZ0 hb0 hL cB lB hb1 hBl cl ll
     obtain ⟨hb01, hB1, hZ1⟩ := hW
     have lB1 := hB1.lt
     have lZ1 := hZ1.lt
     go_cut [9] (fun s9 wx => ∃ (p : Nat) (v2 : Value), s9 = .pointer (some ⟨p, 0, none⟩) ∧ Blk wx p 79 #[.int .i64 r.v.e, v2] ∧ Bsl wx (fun k => k < w1.heap.size ∨ k = p) v2 t ∧ w1.heap.size ≤ p ∧ Below w1.heap.size w1 wx)
     case first =>
      refine wp_region_tree_below w1.heap.size [2] [0, 1, 4, 6] (.fork [(true, false, 0), (true, false, 1), (true, true, 2), (true, false, 4)] true 3 (.fork [] true 5 (.leaf [(true, false, 6), (false, true, 7), (false, false, 8)]) true 7 (.leaf [(false, true, 5), (true, false, 6), (false, false, 8)])) true 7 (.leaf [(false, true, 3), (false, true, 5), (true, false, 6), (false, false, 8)])) (by kernel_rfl) (by kernel_rfl) (fun X => ?_); simp only [First.wpT, List.map_cons, List.map_nil, List.getD_cons_zero, List.getD_cons_succ]
      have hBX := hB1.ext X
      have huX := hu.kp (Kp.of_below (hb01.trans ((World.below_ext w1 X).mono hb01.size)))
      (repeat (first | (refine wfp fun K hK => ?_; go_simp; refine hK _ _ ?_; clear hK K) | (refine wff fun K hK => ?_; go_simp; refine hK _ _ ?_; clear hK K)))
      (refine first_read rfl (v := .int .i64 r.v.e) (fun w' hw' => ?_) (fun K hK => ?_); rotate_left 1; go_simp; refine hK _ _ ?_; clear hK K; rotate_left 1; (have hB' := Blk.below hBX hw' lB1; have c' := Blk.cell hB'; go_simp))
      (repeat (first | (refine wfp fun K hK => ?_; go_simp; refine hK _ _ ?_; clear hK K) | (refine wff fun K hK => ?_; go_simp; refine hK _ _ ?_; clear hK K)))
      have hbV : Below w1.heap.size w1 (w1.ext X) := World.below_ext w1 X
      generalize w1.ext X = V at *
      have sV := hbV.size
      refine First.wpF_nil ?_
      refine First.Both.mk ?_ ?_
      ·refine First.wpF_must (fun K hK => ?_)
       go_wp2
       (refine hK _ _ (fun hnd => by first | exact Bool.noConfusion hnd | exact Below.alloc (Below.refl _ _) sV _) ?_; clear hK K)
       obtain ⟨V1, hV1⟩ : ∃ V1, V1 = V.alloc (.cells #[] 5) := ⟨_, rfl⟩
       have hE1 : Blk V1 V.heap.size 5 #[] := by rw [hV1]; exact Blk.new _ _ _
       have hb1 : Below V.heap.size V V1 := by rw [hV1]; exact Below.alloc (Below.refl _ _) (Nat.le_refl _) _
       rw [← hV1]
       clear hV1
       have s1 := hb1.size
       have hb01' := hbV.trans (hb1.mono sV)
       have lE1 := hE1.lt
       refine First.wpF_nil ?_
       (repeat (first | (refine wfp fun K hK => ?_; go_simp; refine hK _ _ ?_; clear hK K) | (refine wff fun K hK => ?_; go_simp; refine hK _ _ ?_; clear hK K)))
       refine First.wpF_nil ?_
       refine First.Both.mk ?_ ?_
       ·obtain ⟨v3, w3, hap, hr3, hgr⟩ := run_copyV V1 V.heap.size hE1 _ t (huX.kp (Kp.of_below hb1)) hn0
        obtain ⟨A3, n3, c3, rfl⟩ := hr3.shape
        have hb3 : Below V1.heap.size V1 w3 := by obtain ⟨Y, hY⟩ := hgr; rw [hY]; exact World.below_ext _ _
        have s3 := hb3.size
        refine First.wpF_must (fun K hK => ?_)
        go_wp2_with (at_builtin; refine wpList_append_run rfl _ _ 36 rfl rfl rfl hap ?_)
        (refine hK _ _ (fun hnd => by first | exact Bool.noConfusion hnd | exact hb3.mono (by omega)) ?_; clear hK K)
        refine First.wpF_nil ?_
        (repeat (first | (refine wfp fun K hK => ?_; go_simp; refine hK _ _ ?_; clear hK K) | (refine wff fun K hK => ?_; go_simp; refine hK _ _ ?_; clear hK K)))
        refine First.wpF_must (fun K hK => ?_)
        go_wp2
        (refine hK _ _ (fun hnd => by first | exact Bool.noConfusion hnd | exact Below.alloc (Below.refl _ _) (by omega) _) ?_; clear hK K)
        (repeat (first | (refine wfp fun K hK => ?_; go_simp; refine hK _ _ ?_; clear hK K) | (refine wff fun K hK => ?_; go_simp; refine hK _ _ ?_; clear hK K)))
        refine First.wpF_must (fun K hK => ?_)
        go_wp2
        (refine hK _ _ (fun hnd => by first | exact Bool.noConfusion hnd | exact Below.refl _ _) ?_; clear hK K)
        refine First.wpF_nil ?_
        go_wp2_with fail
        go_meet
        case rel => exact ⟨w3.heap.size, _, rfl, Blk.new w3 _ _, ((Bsl.row hr3 (T := fun k => k < w1.heap.size) (fun k hk => by omega) hby).sub (T' := fun k => k < w1.heap.size ∨ k = w3.heap.size) (fun k hk ht => ht.elim id (fun e => by omega))).kp (Kp.of_below (Below.alloc (Below.refl _ _) (Nat.le_refl _) _)), by omega, (hb01'.trans (hb3.mono (by omega))).alloc (by omega) _⟩
       ·have hPx := Blk.new V1 79 #[.int .i64 0, .slice none 0 0]
        have hbA : Below V1.heap.size V1 (V1.alloc (.cells #[.int .i64 0, .slice none 0 0] 79)) := Below.alloc (Below.refl _ _) (Nat.le_refl _) _
        obtain ⟨v3, w3, hap, hr3, hgr⟩ := run_copyV _ V.heap.size (hE1.alloc (.cells #[.int .i64 0, .slice none 0 0] 79)) _ t ((huX.kp (Kp.of_below hb1)).kp (Kp.of_below hbA)) hn0
        obtain ⟨A3, n3, c3, rfl⟩ := hr3.shape
        have hb3 : Below (V1.alloc (.cells #[.int .i64 0, .slice none 0 0] 79)).heap.size (V1.alloc (.cells #[.int .i64 0, .slice none 0 0] 79)) w3 := by obtain ⟨Y, hY⟩ := hgr; rw [hY]; exact World.below_ext _ _
        have s3 := hb3.size
        simp only [World.size_alloc] at s3
        have hP3 := hPx.below hb3 hPx.lt
        have hb03 := (hb01'.trans (hbA.mono (by omega))).trans (hb3.mono (by simp only [World.size_alloc]; omega))
        have hn3 := Row.ne_blk hr3 hP3 (by decide)
        have cP := hP3.cell
        have fP := hP3.frozen
        have lP := hP3.lt
        refine First.wpF_must (fun K hK => ?_)
        go_wp2
        (refine hK _ _ (fun hnd => by first | exact Bool.noConfusion hnd | exact Below.alloc (Below.refl _ _) (by omega) _) ?_; clear hK K)
        refine First.wpF_nil ?_
        (repeat (first | (refine wfp fun K hK => ?_; go_simp; refine hK _ _ ?_; clear hK K) | (refine wff fun K hK => ?_; go_simp; refine hK _ _ ?_; clear hK K)))
        refine First.wpF_must (fun K hK => ?_)
        go_wp2_with (at_builtin; refine wpList_append_run rfl _ _ 36 rfl rfl rfl hap ?_)
        (refine hK _ _ (fun hnd => by first | exact Bool.noConfusion hnd | exact hb3.mono (by simp only [World.size_alloc]; omega)) ?_; clear hK K)
        (repeat (first | (refine wfp fun K hK => ?_; go_simp; refine hK _ _ ?_; clear hK K) | (refine wff fun K hK => ?_; go_simp; refine hK _ _ ?_; clear hK K)))
        refine First.wpF_must (fun K hK => ?_)
        go_wp2
        (refine hK _ _ (fun hnd => by first | exact Bool.noConfusion hnd | exact Below.refl _ _) ?_; clear hK K)
        refine First.wpF_nil ?_
        go_wp2_with fail
        go_meet
        case rel => exact ⟨V1.heap.size, _, rfl, Blk.two hP3, (Bsl.row' hr3 (T := fun k => k < w1.heap.size ∨ k = V1.heap.size) (fun k hk ht => ht.elim (fun h => by have := (Row.own_ge hr3 k hk).1; omega) (fun e => hn3 (by rw [hk, e]))) hby).kp ⟨rfl, rfl, rfl, by simp, fun k _ hn => (Below.heap_setCell _ _ _ k (fun e => hn (.inr e))).trans (Below.heap_setCell _ _ _ k (fun e => hn (.inr e)))⟩, by omega, (hb03.setCell (by show w1.heap.size ≤ V1.heap.size; omega) _).setCell (by show w1.heap.size ≤ V1.heap.size; omega) _⟩
      ·have hPx := Blk.new V 79 #[.int .i64 0, .slice none 0 0]
       have hbA : Below V.heap.size V (V.alloc (.cells #[.int .i64 0, .slice none 0 0] 79)) := Below.alloc (Below.refl _ _) (Nat.le_refl _) _
       refine First.wpF_must (fun K hK => ?_)
       go_wp2
       (refine hK _ _ (fun hnd => by first | exact Bool.noConfusion hnd | exact Below.alloc (Below.refl _ _) sV _) ?_; clear hK K)
       obtain ⟨V1, hV1⟩ : ∃ V1, V1 = V.alloc (.cells #[.int .i64 0, .slice none 0 0] 79) := ⟨_, rfl⟩
       rw [← hV1] at hPx hbA ⊢
       clear hV1
       have s1 := hbA.size
       have lPx := hPx.lt
       have hbB : Below V1.heap.size V1 (V1.alloc (.cells #[] 5)) := Below.alloc (Below.refl _ _) (Nat.le_refl _) _
       obtain ⟨v3, w3, hap, hr3, hgr⟩ := run_copyV (V1.alloc (.cells #[] 5)) V1.heap.size (Blk.new _ _ _) _ t ((huX.kp (Kp.of_below hbA)).kp (Kp.of_below hbB)) hn0
       obtain ⟨A3, n3, c3, rfl⟩ := hr3.shape
       have hb3 : Below (V1.alloc (.cells #[] 5)).heap.size (V1.alloc (.cells #[] 5)) w3 := by obtain ⟨Y, hY⟩ := hgr; rw [hY]; exact World.below_ext _ _
       have s3 := hb3.size
       simp only [World.size_alloc] at s3
       have hP3 := (hPx.alloc (.cells #[] 5)).below hb3 (by simp only [World.size_alloc]; omega)
       have hb03 := ((hbV.trans (hbA.mono sV)).trans (hbB.mono (by omega))).trans (hb3.mono (by simp only [World.size_alloc]; omega))
       have cP := hP3.cell
       have fP := hP3.frozen
       have lP := hP3.lt
       refine First.wpF_nil ?_
       (repeat (first | (refine wfp fun K hK => ?_; go_simp; refine hK _ _ ?_; clear hK K) | (refine wff fun K hK => ?_; go_simp; refine hK _ _ ?_; clear hK K)))
       refine First.wpF_must (fun K hK => ?_)
       go_wp2
       (refine hK _ _ (fun hnd => by first | exact Bool.noConfusion hnd | exact Below.alloc (Below.refl _ _) (by omega) _) ?_; clear hK K)
       (repeat (first | (refine wfp fun K hK => ?_; go_simp; refine hK _ _ ?_; clear hK K) | (refine wff fun K hK => ?_; go_simp; refine hK _ _ ?_; clear hK K)))
       refine First.wpF_must (fun K hK => ?_)
       go_wp2_with (at_builtin; refine wpList_append_run rfl _ _ 36 rfl rfl rfl hap ?_)
       (refine hK _ _ (fun hnd => by first | exact Bool.noConfusion hnd | exact hb3.mono (by simp only [World.size_alloc]; omega)) ?_; clear hK K)
       (repeat (first | (refine wfp fun K hK => ?_; go_simp; refine hK _ _ ?_; clear hK K) | (refine wff fun K hK => ?_; go_simp; refine hK _ _ ?_; clear hK K)))
       refine First.wpF_must (fun K hK => ?_)
       go_wp2
       (refine hK _ _ (fun hnd => by first | exact Bool.noConfusion hnd | exact Below.refl _ _) ?_; clear hK K)
       refine First.wpF_nil ?_
       go_wp2_with fail
       go_meet
       case rel => exact ⟨V.heap.size, _, rfl, Blk.two hP3, (Bsl.row' hr3 (T := fun k => k < w1.heap.size ∨ k = V.heap.size) (fun k hk ht => by have := (Row.own_ge hr3 k hk).1; omega) hby).kp ⟨rfl, rfl, rfl, by simp, fun k _ hn => (Below.heap_setCell _ _ _ k (fun e => hn (.inr e))).trans (Below.heap_setCell _ _ _ k (fun e => hn (.inr e)))⟩, by omega, (hb03.setCell (by show w1.heap.size ≤ V.heap.size; omega) _).setCell (by show w1.heap.size ≤ V.heap.size; omega) _⟩
     case rest =>
      obtain ⟨p, v2, rfl, hPx, hBx, hpge, hbx⟩ := hcut
      obtain ⟨xA, xn, xc, rfl⟩ := hBx.sl
      have hs1 := hb01.size
      have hbc := hb01.trans (hbx.mono hs1)
      have hBc := hB1.below hbx lB1
      have hZc := hZ1.below hbx lZ1
      have cBc := hBc.cell
      have lBc := hBc.lt
      have cPx := hPx.cell
      have lPx := hPx.lt
      have hsc := hbx.size
      have hDc : DrW wc (fun k => T k ∨ (w.heap.size ≤ k ∧ k ≤ w.heap.size + 1)) _ _ _ r := (hD.sub (T' := (fun k => T k ∨ (w.heap.size ≤ k ∧ k ≤ w.heap.size + 1))) (fun k hk ht => ht.elim id (fun h => by omega))).kp (Kp.of_below hbc)
      have hTT : ∀ W : World, wc.heap.size ≤ W.heap.size → ∀ k, (fun k => T k ∨ (w.heap.size ≤ k ∧ k ≤ w.heap.size + 1)) k → k < W.heap.size := fun W hW k hk => hk.elim (fun h => by have := hTl k h; omega) (fun h => by omega)
      have hBT : Bsl wc (fun k => T k ∨ (w.heap.size ≤ k ∧ k ≤ w.heap.size + 1)) (.slice xA xn xc) t := hBx.sub (fun k _ hk => .inl (hk.elim (fun h => by have := hTl k h; omega) (fun h => by omega)))
      have hWt := dwith_any (T := (fun k => T k ∨ (w.heap.size ≤ k ∧ k ≤ w.heap.size + 1))) B r.log.length d r.log ⟨r.v.e, t⟩ (.slice xA xn xc) wc hDc.log' hBT hEn (hTT _ (Nat.le_refl _)) (by omega)
      go_upto_region 9 with (go_at_call 39; (with_reducible refine hWt.mono ?_); rintro e w4 ⟨A4, c4, ⟨rfl, hcap4⟩, hE4, hb4⟩; have hB4 := hBc.below hb4 lBc; have c4' := hB4.cell; have f4 := hB4.frozen; have l4 := hB4.lt)
      have hs4 := hb4.size
      have hLl : (r.log ++ [(⟨r.v.e, t⟩ : Ent)]).length = r.log.length + 1 := by rw [List.length_append]; rfl
      have hD4 : DrW w4 (fun k => T k ∨ (w.heap.size ≤ k ∧ k ≤ w.heap.size + 1)) (.slice A r.v.l.length c) (.slice A4 (r.log.length + 1) c4) (.slice C r.acks.length f) { r with log := r.log ++ [⟨r.v.e, t⟩] } := by
       have := (hDc.kp (Kp.of_below hb4)).relog (l := r.log ++ [⟨r.v.e, t⟩]) (c := c4) (by rw [hLl]; exact hE4) (by rw [hLl]; exact hcap4) r.joined
       rw [hLl] at this
       exact this
      have hkS : Kp (fun k => T k ∨ (w.heap.size ≤ k ∧ k ≤ w.heap.size + 1)) w4 (w4.setCell ⟨w.heap.size, 4, none⟩ (.slice A4 (r.log.length + 1) c4)) := (Kp.put w4 w.heap.size 4 _).weaken (fun k hk => .inr (by omega))
      have hbc4 := hbc.trans (hb4.mono hbc.size)
      refine abstr (fun W => Blk W w.heap.size 34 #[.int .i64 r.id, .int .i64 r.v.e, .int .i64 r.v.p, .slice A r.v.l.length c, .slice A4 (r.log.length + 1) c4, .int .i64 r.joined, .int .i64 (r.sure : Int), .slice C r.acks.length f, .bool r.act] ∧ Blk W (w.heap.size + 1) 34 #[.int .i64 0, .int .i64 0, .int .i64 0, .slice none 0 0, .slice none 0 0, .int .i64 0, .int .i64 0, .slice none 0 0, .bool false] ∧ Blk W p 79 #[.int .i64 r.v.e, .slice xA xn xc] ∧ Bsl W (fun k => T k ∨ (w.heap.size ≤ k ∧ k ≤ w.heap.size + 1)) (.slice xA xn xc) t ∧ DrW W (fun k => T k ∨ (w.heap.size ≤ k ∧ k ≤ w.heap.size + 1)) (.slice A r.v.l.length c) (.slice A4 (r.log.length + 1) c4) (.slice C r.acks.length f) { r with log := r.log ++ [⟨r.v.e, t⟩] } ∧ Below w.heap.size w W ∧ wc.heap.size ≤ W.heap.size) ⟨hB4.set_ 4 _, (hZc.below hb4 hZc.lt).far (p := ⟨w.heap.size, 4, none⟩) (by show w.heap.size + 1 ≠ w.heap.size; omega) _, (hPx.below hb4 lPx).far (p := ⟨w.heap.size, 4, none⟩) (by show p ≠ w.heap.size; omega) _, (hBT.kp (Kp.of_below hb4)).kp hkS, hD4.kp hkS, hbc4.setCell (p := ⟨w.heap.size, 4, none⟩) (by show w.heap.size ≤ w.heap.size; omega) _, by simp only [World.size_setCell]; exact hs4⟩ (fun W8 hW8 => ?_)
      obtain ⟨hB8, hZ8, hP8, hT8, hD8, hb8, hs8⟩ := hW8
      clear hB4 c4' f4 l4 hD4 hkS hbc4 hE4 hb4 hWt cBc lBc cPx hBc hDc
      have c8 := hB8.cell
      have f8 := hB8.frozen
      have l8 := hB8.lt
      have lZ8 := hZ8.lt
      have lP8 := hP8.lt
      have hal := ack_len hok.ak hok.an
      have hpv := proposed_v r t
      have hAk := show Calls Tryz.prog 40 #[.agg #[.int .i64 r.id, .int .i64 r.v.e, .int .i64 r.v.p, .slice A r.v.l.length c, .slice A4 (r.log.length + 1) c4, .int .i64 r.joined, .int .i64 (r.sure : Int), .slice C r.acks.length f, .bool r.act], .int .i64 r.id, .int .i64 ((r.log.length : Int) + 1)] W8 (fun e w' => ∃ va', e = .returned (.agg #[.int .i64 r.id, .int .i64 r.v.e, .int .i64 r.v.p, .slice A r.v.l.length c, .slice A4 (r.log.length + 1) c4, .int .i64 r.joined, .int .i64 (r.sure : Int), va', .bool r.act]) ∧ DrW w' (fun k => T k ∨ (w.heap.size ≤ k ∧ k ≤ w.heap.size + 1)) (.slice A r.v.l.length c) (.slice A4 (r.log.length + 1) c4) va' { r with log := r.log ++ [⟨r.v.e, t⟩], acks := ackedL r.id (r.log.length + 1) r.acks } ∧ Below W8.heap.size W8 w') from dacked_any { r with log := r.log ++ [⟨r.v.e, t⟩] } r.id (r.log.length + 1) _ _ _ W8 hD8 (hTT _ hs8) (by show r.acks.length ≤ 1000; omega)
      have hSt := fun W5 va' (hD5 : DrW W5 (fun k => T k ∨ (w.heap.size ≤ k ∧ k ≤ w.heap.size + 1)) (.slice A r.v.l.length c) (.slice A4 (r.log.length + 1) c4) va' { r with log := r.log ++ [⟨r.v.e, t⟩], acks := ackedL r.id (r.log.length + 1) r.acks }) => show Calls Tryz.prog 41 #[.agg #[.int .i64 r.id, .int .i64 r.v.e, .int .i64 r.v.p, .slice A r.v.l.length c, .slice A4 (r.log.length + 1) c4, .int .i64 r.joined, .int .i64 (r.sure : Int), va', .bool r.act]] W5 (fun e w' => e = .returned (.agg #[.int .i64 (proposed r t).id, .int .i64 (proposed r t).v.e, .int .i64 (proposed r t).v.p, (.slice A r.v.l.length c), (.slice A4 (r.log.length + 1) c4), .int .i64 (proposed r t).joined, .int .i64 ((proposed r t).sure : Int), va', .bool (proposed r t).act]) ∧ DrW w' (fun k => T k ∨ (w.heap.size ≤ k ∧ k ≤ w.heap.size + 1)) (.slice A r.v.l.length c) (.slice A4 (r.log.length + 1) c4) va' (proposed r t) ∧ Below W5.heap.size W5 w') from
       dsettle_any { r with log := r.log ++ [⟨r.v.e, t⟩], acks := ackedL r.id (r.log.length + 1) r.acks } _ _ va' W5 hD5 (by rw [hLl]; omega) (by have := ack_len hPr.ak hPr.an; omega) (by have := hok.mem.2; show r.v.l.length ≤ 1000000; omega) (fun x hx => (hPr.ak x hx).1)
      generalize hPRe : proposed r t = PR at *
      have hPR' := hide hPRe
      clear hPRe
      have hpv' := hide hpv
      clear hpv
      go_upto_region 10 with (first | (go_at_call 40; (with_reducible refine hAk.mono ?_); rintro e w5 ⟨va5, rfl, hD5, hb5⟩; obtain ⟨C5, f5, rfl⟩ := hD5.sla; have hB5 := hB8.below hb5 l8; have c5 := hB5.cell; have fx5 := hB5.frozen; have l5 := hB5.lt) | (go_at_call 41; (with_reducible refine (hSt _ _ hD5).mono ?_); rintro e w6 ⟨rfl, hD6, hb6⟩; have hB6 := hB5.below hb6 l5; have c6 := hB6.cell; have f6 := hB6.frozen; have l6 := hB6.lt))
      have hs5 := hb5.size
      have hs6 := hb6.size
      have hb56 := hb5.trans (hb6.mono hs5)
      have hb06 := hb8.trans (hb56.mono hb8.size)
      have hkN := Kp.nine w6 w.heap.size (.int .i64 PR.id) (.int .i64 PR.v.e) (.int .i64 PR.v.p) (.slice A r.v.l.length c) (.slice A4 (r.log.length + 1) c4) (.int .i64 PR.joined) (.int .i64 (PR.sure : Int)) (.slice C5 (ackedL r.id (r.log.length + 1) r.acks).length f5) (.bool PR.act)
      have hB7 := Blk.nine hB6 (a' := .int .i64 PR.id) (b' := .int .i64 PR.v.e) (c' := .int .i64 PR.v.p) (d' := .slice A r.v.l.length c) (e' := .slice A4 (r.log.length + 1) c4) (f' := .int .i64 PR.joined) (h' := .int .i64 (PR.sure : Int)) (i' := .slice C5 (ackedL r.id (r.log.length + 1) r.acks).length f5) (k' := .bool PR.act)
      rw [hpv'.out.1, hpv'.out.2.1] at hB7
      rw [hpv'.out.1, hpv'.out.2.1] at hkN
      rw [hpv'.out.1, hpv'.out.2.1]
      refine abstr (fun W => Blk W w.heap.size 34 #[.int .i64 r.id, .int .i64 r.v.e, .int .i64 r.v.p, .slice A r.v.l.length c, .slice A4 (r.log.length + 1) c4, .int .i64 PR.joined, .int .i64 (PR.sure : Int), .slice C5 (ackedL r.id (r.log.length + 1) r.acks).length f5, .bool PR.act] ∧ Blk W (w.heap.size + 1) 34 #[.int .i64 0, .int .i64 0, .int .i64 0, .slice none 0 0, .slice none 0 0, .int .i64 0, .int .i64 0, .slice none 0 0, .bool false] ∧ Blk W p 79 #[.int .i64 r.v.e, .slice xA xn xc] ∧ Bsl W (fun k => T k ∨ (w.heap.size ≤ k ∧ k ≤ w.heap.size + 1)) (.slice xA xn xc) t ∧ DrW W (fun k => T k ∨ (w.heap.size ≤ k ∧ k ≤ w.heap.size + 1)) (.slice A r.v.l.length c) (.slice A4 (r.log.length + 1) c4) (.slice C5 (ackedL r.id (r.log.length + 1) r.acks).length f5) PR ∧ Below w.heap.size w W ∧ wc.heap.size ≤ W.heap.size) ⟨hB7, Blk.kp (hZ8.below hb56 lZ8) hkN (by omega), Blk.kp (hP8.below hb56 lP8) hkN (by omega), (hT8.kp (Kp.of_below hb56)).kp (hkN.weaken (fun k hk => .inr (by omega))), hD6.kp (hkN.weaken (fun k hk => .inr (by omega))), hb06.trans (Kp.below hkN hb06.size (fun k hk => by omega)), by have := hkN.size; omega⟩ (fun W9 hW9 => ?_)
      clear hB7 hkN hb06 hb56 hs6 hs5 hB6 c6 f6 l6 hB5 c5 fx5 l5 hD6 hb6 hD5 hb5 hAk hSt hB8 hZ8 hP8 hT8 hD8 hb8 hs8 c8 f8 l8 lZ8 lP8 w5 w6 W8
      obtain ⟨hB9, hZ9, hP9, hT9, hD9, hb9, hs9⟩ := hW9
      have l9 := hB9.lt
      have lP9 := hP9.lt
      have lZ9 := hZ9.lt
      have hT9l := hTT W9 hs9
      have hvl := hok.mem.2
      have hrm9 : Reads W9 W9.heap.size 1 A r.v.l.length (ints r.v.l) := by
       obtain ⟨⟨A', c', e', hrm, _⟩, _, _⟩ := hD9
       simp only [Value.slice.injEq] at e'
       obtain ⟨rfl, -, rfl⟩ := e'
       rw [hpv'.out.1] at hrm
       exact hrm
      generalize hMSG : (⟨2, r.v.e, Vi.none, (r.log.length + 1 : Nat), PR.sure, [⟨r.v.e, t⟩]⟩ : Mg) = MSG
      have HM := hide hMSG
      clear hMSG
      go_wp2
      go_loopw [10, 11] (fun vo vi wr => ∃ j : Nat, j ≤ r.v.l.length ∧ vi = .int .i64 (j : Int) ∧ OwnOD wr (fun k => T k ∨ (w.heap.size ≤ k ∧ k ≤ w.heap.size + 1)) W9.heap.size vo (((r.v.l.take j).filter fun n => !(n == r.id)).map fun n => (⟨n, MSG⟩ : Ot)) ∧ Below W9.heap.size W9 wr) (fun _ vi _ => ((r.v.l.length : Int) - intOf vi).toNat)
      case atStart => exact ⟨0, by omega, rfl, OwnOD.nil _ _ _, Below.refl _ _⟩
      case round =>
       obtain ⟨j, hj, rfl, hO, hb⟩ := hrel
       obtain ⟨wo, rfl⟩ : ∃ wo : World, wo = wr := ⟨_, rfl⟩
       have hso := hb.size
       have hBo := hB9.below hb l9
       have cBo := hBo.cell
       have lBo := hBo.lt
       by_cases hlt : j < r.v.l.length
       ·have hlj : (j : Int) < r.v.l.length := by omega
        have e0 : decide ((j : Int) < r.v.l.length) = true := decide_eq_true hlj
        obtain ⟨b, o, rfl, hbb, hcc⟩ := hrm9.plain (by omega) (by omega)
        have hg : r.v.l[j]? = some (r.v.l[j]'hlt) := List.getElem?_eq_getElem hlt
        have m1 : wo.cell? ⟨b, o + j, none⟩ = some (.int .i64 (r.v.l[j]'hlt)) := by rw [hb.cell (p := ⟨b, o + j, none⟩) hbb]; exact hcc _ _ (ints_get hg)
        have hbw : b < wo.heap.size := by omega
        have hLn : (((r.v.l.take j).filter fun n => !(n == r.id)).map fun n => (⟨n, MSG⟩ : Ot)).length ≤ 8 := by
         have h3 := List.length_filter_le (fun n => !(n == r.id)) (r.v.l.take j)
         have h4 := hok.mem.2
         rw [List.length_map]
         rw [List.length_take] at h3
         omega
        have HT0 : ((r.v.l.take (j + 1)).filter fun n => !(n == r.id)).map (fun n => (⟨n, MSG⟩ : Ot)) = ((r.v.l.take j).filter fun n => !(n == r.id)).map (fun n => (⟨n, MSG⟩ : Ot)) ++ (if (r.v.l[j]'hlt) == r.id then [] else [⟨(r.v.l[j]'hlt), MSG⟩]) := by
         rw [List.take_add_one, hg, List.filter_append, List.map_append]
         congr 1
         rcases he : (r.v.l[j]'hlt == r.id) with _ | _ <;> simp [he]
        generalize r.v.l[j]'hlt = x at *
        generalize ((r.v.l.take j).filter fun n => !(n == r.id)).map (fun n => (⟨n, MSG⟩ : Ot)) = L at *
        obtain ⟨vA, vc, rfl, _⟩ := hO.sl
        clear hcc hg
        rcases hx : (x == r.id) with _ | _
        ·have hx' : (x != r.id) = true := by rw [bne, hx]; rfl
         rw [hx, if_neg (by simp)] at HT0
         have HT := hide HT0
         clear HT0
         have hPo := hP9.below hb lP9
         have cPo := hPo.cell
         have lPo := hPo.lt
         have hge := hO.ge
         have hTo : Bsl wo (fun k => (fun k => T k ∨ (w.heap.size ≤ k ∧ k ≤ w.heap.size + 1)) k ∨ (Value.slice vA L.length vc).ownBlock = some k) (.slice xA xn xc) t := ((hT9.sub (T' := fun k => (fun k => T k ∨ (w.heap.size ≤ k ∧ k ≤ w.heap.size + 1)) k ∨ W9.heap.size ≤ k) (fun k hk ht => ht.elim id (fun e => by omega))).kp (Kp.of_below hb)).sub (fun k _ hk => hk.imp id (fun e => (hge k e).1))
         have hE1 := EntsD.one hTo hEn (fun e => e.elim (fun e => by have := hT9l _ e; omega) (fun e => by have := (hge _ e).2; omega))
         have hbE : Below wo.heap.size wo (wo.alloc (.cells #[.int .i64 r.v.e, .slice xA xn xc] 79)) := Below.alloc (Below.refl _ _) (Nat.le_refl _) _
         have hMw : MgW (wo.alloc (.cells #[.int .i64 r.v.e, .slice xA xn xc] 79)) (fun k => (fun k => T k ∨ (w.heap.size ≤ k ∧ k ≤ w.heap.size + 1)) k ∨ (Value.slice vA L.length vc).ownBlock = some k) (.slice none 0 0) (.slice (some ⟨wo.heap.size, 0, none⟩) 1 1) MSG := by
          rw [← HM.out]
          exact ⟨⟨none, 0, rfl, Reads.none_, fun h => absurd h (by simp [Vi.none])⟩, _, _, rfl, hE1⟩
         have hcs := hide <| show #[.int .i64 x, .int .i64 2, .int .i64 r.v.e, .int .i64 0, .int .i64 0, .slice none 0 0, .int .i64 ((r.log.length : Int) + 1), .int .i64 (PR.sure : Int), .slice (some ⟨wo.heap.size, 0, none⟩) 1 1] = (Om.mk ⟨x, MSG⟩ (.slice none 0 0) (.slice (some ⟨wo.heap.size, 0, none⟩) 1 1)).cells.toArray by rw [← HM.out]; rfl
         go_wp2_with (at_builtin; refine app_outD rfl (.tmp 69) (.tmp 83) rfl (fun k => T k ∨ (w.heap.size ≤ k ∧ k ≤ w.heap.size + 1)) W9.heap.size (.slice vA L.length vc) L ⟨⟨x, MSG⟩, .slice none 0 0, .slice (some ⟨wo.heap.size, 0, none⟩) 1 1⟩ _ hcs.out rfl (hO.below hbE) hMw (wo.heap.size + 1) (by simp only [World.size_alloc]) rfl (by omega) (by simp only [World.size_alloc]; omega) (fun v' w4 ho4 hc4 hz4 => ?_))
         go_roundw
         case rel => exact ⟨j + 1, by omega, by go_num, by rw [HT.out]; exact ho4, (hb.trans (hbE.mono hso)).trans (hc4.low (fun k hk => (hge k hk).1) (by simp only [World.size_alloc]; omega))⟩
         case measure => simp [intOf]; omega
        ·have hx' : (x != r.id) = false := by rw [bne, hx]; rfl
         rw [hx, if_pos rfl, List.append_nil] at HT0
         have HT := hide HT0
         clear HT0
         go_wp2
         go_roundw
         case rel => exact ⟨j + 1, by omega, by go_num, by rw [HT.out]; exact hO, hb⟩
         case measure => simp [intOf]; omega
       ·obtain rfl : j = r.v.l.length := by omega
        have e0 : decide ((r.v.l.length : Int) < r.v.l.length) = false := by simp
        rw [List.take_length] at hO
        have hOt : OwnOD wo (fun k => T k ∨ (w.heap.size ≤ k ∧ k ≤ w.heap.size + 1)) W9.heap.size u10 ((othersP r).map fun n => (⟨n, MSG⟩ : Ot)) := hO
        clear hO
        obtain ⟨vA, vc, hv10, hOu⟩ := hOt.outs (fun k hk hT => by have := hT9l k hT; omega)
        subst hv10
        have hPo := hP9.below hb lP9
        have hZo := hZ9.below hb lZ9
        have hDo := hD9.kp (Kp.of_below hb)
        have hTo := hT9.kp (Kp.of_below hb)
        have hb0o := hb9.trans (hb.mono hb9.size)
        have s0o := hb0o.size
        generalize ((othersP r).map fun n => (⟨n, MSG⟩ : Ot)).length = nO at *
        go_wp2
        refine wp_region_tree_kp (fun k => k = w.heap.size + 1) [1, 4, 6, 10] [0, 2, 3, 5, 9] (.fork [(true, false, 0), (true, true, 1), (true, false, 2), (true, false, 3), (true, true, 4), (true, false, 5), (true, true, 6), (true, false, 9), (true, true, 10), (false, true, 7)] true 8 (.leaf [(false, true, 11), (false, true, 12), (false, true, 13), (false, true, 14), (false, false, 15)]) true 11 (.leaf [(false, true, 8), (false, true, 12), (false, true, 13), (false, true, 14), (false, false, 15)])) (by kernel_rfl) (by kernel_rfl) (fun X => ?_); simp only [First.wpT, List.map_cons, List.map_nil, List.getD_cons_zero, List.getD_cons_succ]
        have hne : ¬(w.heap.size = w.heap.size + 1) := by omega
        have hnp : ¬(p = w.heap.size + 1) := by omega
        have hbX : Below wo.heap.size wo (wo.ext X) := World.below_ext wo X
        (repeat (first | (refine wfp fun K hK => ?_; go_simp; refine hK _ _ ?_; clear hK K) | (refine wff fun K hK => ?_; go_simp; refine hK _ _ ?_; clear hK K)))
        (refine first_readG rfl (v := .slice A4 (r.log.length + 1) c4) (fun w' hw' => ?_) (fun K hK => ?_); rotate_left 1; go_simp; refine hK _ _ ?_; clear hK K; rotate_left 1; (have hB' := Blk.kp (Blk.ext hBo _) hw' hne; have c' := Blk.cell hB'; go_simp))
        (repeat (first | (refine wfp fun K hK => ?_; go_simp; refine hK _ _ ?_; clear hK K) | (refine wff fun K hK => ?_; go_simp; refine hK _ _ ?_; clear hK K)))
        (refine first_readG rfl (v := .slice A4 (r.log.length + 1) c4) (fun w' hw' => ?_) (fun K hK => ?_); rotate_left 1; go_simp; refine hK _ _ ?_; clear hK K; rotate_left 1; (have hB' := Blk.kp (Blk.ext hBo _) hw' hne; have c' := Blk.cell hB'; go_simp))
        (repeat (first | (refine wfp fun K hK => ?_; go_simp; refine hK _ _ ?_; clear hK K) | (refine wff fun K hK => ?_; go_simp; refine hK _ _ ?_; clear hK K)))
        (refine first_readG rfl (v := .agg #[.int .i64 r.v.e, .slice xA xn xc]) (fun w' hw' => ?_) (fun K hK => ?_); rotate_left 1; go_simp; refine hK _ _ ?_; clear hK K; rotate_left 1; (have hB' := Blk.kp (Blk.ext hPo _) hw' hnp; have c' := Blk.cell hB'; go_simp))
        (repeat (first | (refine wfp fun K hK => ?_; go_simp; refine hK _ _ ?_; clear hK K) | (refine wff fun K hK => ?_; go_simp; refine hK _ _ ?_; clear hK K)))
        (try ((refine first_readG rfl (v := .agg #[.int .i64 r.id, .int .i64 r.v.e, .int .i64 r.v.p, .slice A r.v.l.length c, .slice A4 (r.log.length + 1) c4, .int .i64 PR.joined, .int .i64 (PR.sure : Int), .slice C5 (ackedL r.id (r.log.length + 1) r.acks).length f5, .bool PR.act]) (fun w' hw' => ?_) (fun K hK => ?_); rotate_left 1; go_simp; refine hK _ _ ?_; clear hK K; rotate_left 1; (have hB' := Blk.kp (Blk.ext hBo _) hw' hne; have c' := Blk.cell hB'; go_simp)); (repeat (first | (refine wfp fun K hK => ?_; go_simp; refine hK _ _ ?_; clear hK K) | (refine wff fun K hK => ?_; go_simp; refine hK _ _ ?_; clear hK K)))))
        have hbV : Below wo.heap.size wo (wo.ext X) := hbX
        have hZV := hZo.ext X
        have hBV := hBo.ext X
        have hTV := hTo.kp (Kp.of_below hbX)
        have hDV := hDo.kp (Kp.of_below hbX)
        have hOV := hOu.kp (Kp.of_below hbX)
        have hb0V := hb0o.trans (hbX.mono s0o)
        have s0V := hb0V.size
        have lZV := hZV.lt
        have hwV : wo.heap.size ≤ (wo.ext X).heap.size := hbX.size
        generalize wo.ext X = V at *
        have hRE := drecEntry_any (r.log.length + 1) ⟨r.v.e, t⟩ (.slice xA xn xc) V hTV hEn (by omega)
        rw [show ((r.log.length + 1 : Nat) : Int) = (r.log.length : Int) + 1 from rfl] at hRE
        refine First.wpF_must (fun K hK => ?_)
        go_wp2_with (go_at_call 42; (with_reducible refine hRE.mono ?_); rintro e w5 ⟨u, rfl, hRow, hb5⟩; obtain ⟨uA, uc, rfl, _⟩ := own_sl hRow)
        (refine hK _ _ (fun hnd => by first | exact Bool.noConfusion hnd | exact Kp.of_below hb5) ?_; clear hK K)
        refine First.wpF_nil ?_
        (repeat (first | (refine wfp fun K hK => ?_; go_simp; refine hK _ _ ?_; clear hK K) | (refine wff fun K hK => ?_; go_simp; refine hK _ _ ?_; clear hK K)))
        have s5 := hb5.size
        have hb05 := hb0V.trans (hb5.mono s0V)
        have hbA : Below w5.heap.size w5 (w5.alloc (.cells #[.slice uA (recEntryP (r.log.length + 1) ⟨r.v.e, t⟩).length uc] 36)) := Below.alloc (Below.refl _ _) (Nat.le_refl _) _
        have hb06 := hb05.trans (hbA.mono hb05.size)
        have hZ6 := (hZV.below hb5 lZV).below hbA (by omega)
        have hRc : Recs (w5.alloc (.cells #[.slice uA (recEntryP (r.log.length + 1) ⟨r.v.e, t⟩).length uc] 36)) (fun k => T k ∨ (w.heap.size ≤ k ∧ k ≤ w.heap.size + 1)) (some ⟨w5.heap.size, 0, none⟩) 1 [recEntryP (r.log.length + 1) ⟨r.v.e, t⟩] := Recs.one (Bsl.row hRow (T := (fun k => T k ∨ (w.heap.size ≤ k ∧ k ≤ w.heap.size + 1))) (fun k hk => by have := hT9l k hk; omega) (recEntry_by (by omega) hEn)) (fun hk => by have := hT9l _ hk; omega)
        have hDA := (hDV.kp (Kp.of_below hb5)).kp (Kp.of_below hbA)
        have hOA := (hOV.kp (Kp.of_below hb5)).kp (Kp.of_below hbA)
        refine First.Both.mk ?_ ?_
        ·refine First.wpF_must (fun K hK => ?_)
         go_wp2
         (refine hK _ _ (fun hnd => by first | exact Bool.noConfusion hnd | exact Kp.of_below hbA) ?_; clear hK K)
         generalize (w5.alloc (.cells #[.slice uA (recEntryP (r.log.length + 1) ⟨r.v.e, t⟩).length uc] 36)) = W6 at *
         refine First.wpF_nil ?_
         have c6 := hZ6.cell
         have f6 := hZ6.frozen
         have l6 := hZ6.lt
         (repeat (first | (refine wfp fun K hK => ?_; go_simp; refine hK _ _ ?_; clear hK K) | (refine wff fun K hK => ?_; go_simp; refine hK _ _ ?_; clear hK K)))
         (repeat (refine First.wpF_must (fun K hK => ?_); go_wp2; (refine hK _ _ (fun hnd => by first | exact Bool.noConfusion hnd | exact Kp.refl _ _) ?_; clear hK K); (repeat (first | (refine wfp fun K hK => ?_; go_simp; refine hK _ _ ?_; clear hK K) | (refine wff fun K hK => ?_; go_simp; refine hK _ _ ?_; clear hK K)))))
         refine First.wpF_nil ?_
         go_wp2
         refine bodyPost_t4c Tryz.results11 rfl (Blk.nine hZ6) Tryz.underlying34 rfl (by kernel_rfl) rfl ?_
         refine ⟨.slice A4 (r.log.length + 1) c4, .slice C5 (ackedL r.id (r.log.length + 1) r.acks).length f5, _, 1, 1, vA, nO, vc, by rw [hPR'.out, hpv'.out.1, hpv'.out.2.1]; rfl, ?_, ?_, ?_, ?_⟩
         ·exact (hRc.kp (Kp.weaken (Kp.nine W6 (w.heap.size + 1) _ _ _ _ _ _ _ _ _) fun k hk => .inr (by omega))).sub fun k _ hk => .inl hk
         ·rw [hPR'.out, HM.out]
          exact (hOA.kp (Kp.weaken (Kp.nine W6 (w.heap.size + 1) _ _ _ _ _ _ _ _ _) fun k hk => .inr (by omega))).sub fun k _ hk => .inl hk
         ·rw [hPR'.out]
          exact (hDA.kp (Kp.weaken (Kp.nine W6 (w.heap.size + 1) _ _ _ _ _ _ _ _ _) fun k hk => .inr (by omega))).sub fun k _ hk => .inl hk
         ·exact hb06.trans (Kp.below (Kp.nine W6 (w.heap.size + 1) _ _ _ _ _ _ _ _ _) hb06.size (fun k hk => by omega))
        ·refine First.wpF_must (fun K hK => ?_)
         go_wp2
         (refine hK _ _ (fun hnd => by first | exact Bool.noConfusion hnd | exact Kp.refl _ _) ?_; clear hK K)
         refine First.wpF_nil ?_
         (repeat (first | (refine wfp fun K hK => ?_; go_simp; refine hK _ _ ?_; clear hK K) | (refine wff fun K hK => ?_; go_simp; refine hK _ _ ?_; clear hK K)))
         refine First.wpF_must (fun K hK => ?_)
         go_wp2
         (refine hK _ _ (fun hnd => by first | exact Bool.noConfusion hnd | exact Kp.of_below hbA) ?_; clear hK K)
         generalize (w5.alloc (.cells #[.slice uA (recEntryP (r.log.length + 1) ⟨r.v.e, t⟩).length uc] 36)) = W6 at *
         have c6 := hZ6.cell
         have f6 := hZ6.frozen
         have l6 := hZ6.lt
         (repeat (first | (refine wfp fun K hK => ?_; go_simp; refine hK _ _ ?_; clear hK K) | (refine wff fun K hK => ?_; go_simp; refine hK _ _ ?_; clear hK K)))
         (repeat (refine First.wpF_must (fun K hK => ?_); go_wp2; (refine hK _ _ (fun hnd => by first | exact Bool.noConfusion hnd | exact Kp.refl _ _) ?_; clear hK K); (repeat (first | (refine wfp fun K hK => ?_; go_simp; refine hK _ _ ?_; clear hK K) | (refine wff fun K hK => ?_; go_simp; refine hK _ _ ?_; clear hK K)))))
         refine First.wpF_nil ?_
         go_wp2
         refine bodyPost_t4c Tryz.results11 rfl (Blk.nine hZ6) Tryz.underlying34 rfl (by kernel_rfl) rfl ?_
         refine ⟨.slice A4 (r.log.length + 1) c4, .slice C5 (ackedL r.id (r.log.length + 1) r.acks).length f5, _, 1, 1, vA, nO, vc, by rw [hPR'.out, hpv'.out.1, hpv'.out.2.1]; rfl, ?_, ?_, ?_, ?_⟩
         ·exact (hRc.kp (Kp.weaken (Kp.nine W6 (w.heap.size + 1) _ _ _ _ _ _ _ _ _) fun k hk => .inr (by omega))).sub fun k _ hk => .inl hk
         ·rw [hPR'.out, HM.out]
          exact (hOA.kp (Kp.weaken (Kp.nine W6 (w.heap.size + 1) _ _ _ _ _ _ _ _ _) fun k hk => .inr (by omega))).sub fun k _ hk => .inl hk
         ·rw [hPR'.out]
          exact (hDA.kp (Kp.weaken (Kp.nine W6 (w.heap.size + 1) _ _ _ _ _ _ _ _ _) fun k hk => .inr (by omega))).sub fun k _ hk => .inl hk
         ·exact hb06.trans (Kp.below (Kp.nine W6 (w.heap.size + 1) _ _ _ _ _ _ _ _ _) hb06.size (fun k hk => by omega))
end Go.Proofs.YtjhcgnmibnjocaaGreat
