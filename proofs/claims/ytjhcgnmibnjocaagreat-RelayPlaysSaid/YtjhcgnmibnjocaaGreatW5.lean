import Derived.Test.YtjhcgnmibnjocaaGreatW4
/-! The document's relay is led. -/
namespace Go.Proofs.YtjhcgnmibnjocaaGreat
open Go.RowKit Go.Maps
set_option linter.unusedVariables false
set_option linter.unusedSimpArgs false
theorem wp_region_tree_kp (S : Nat → Prop) {P : Program} {id : Nat} {Q : Exit → Act → World → Prop} {a : Act} {w : World} {l : List Oper} (Vs Ps : List Nat) (t : First.Tr) (hm : P.follows .mixedOrders = true)
  (hB : (Region.noSelect l.toArray && decide (t.fuel = l.length) && t.okB .any l.toArray Vs Ps (Array.replicate l.length false)) = true)
  (h : ∀ X, First.wpT P l.toArray (fun w w' => Kp S w w') (Q .normal) (fun k => l.getD k default) t a (w.ext X)) : (Code.region id l.toArray true).wp P Q a w := by
 have hw₁ : ({ w with drawn := w.drawn + 1 } : World) = w.ext ⟨#[], w.drawn + 1⟩ := by simp [World.ext]
 exact First.wp_region_tree _ (fun w => Kp.refl S w) (fun w w' w'' h h' => h.trans h') Vs Ps t hm hB (hw₁ ▸ h _)
theorem bodyPost_ttc {P : Program} {fn : Func} {R : Ending → World → Prop} {a : Act} {w : World} {p u u2 g : Nat} {t ty : TypeId} {cs : Array Value} {d : TypeDesc} (h : fn.results = #[.tmp u, .tmp u2, .cell p ty])
  (hp : a.tmps.getD p undef = .pointer (some ⟨g, 0, none⟩)) (hB : Blk w g t cs) (hu : P.underlying ty = some d) (hd : (match d with | .struct _ | .array _ _ => true | _ => false) = true) (hi : (P.info? ty).map (·.size) = some cs.size)
  (hdf : a.defers = []) (hR : R (.returned (.tuple #[a.tmps.getD u undef, a.tmps.getD u2 undef, .agg cs])) w) : bodyPost P fn R .ret a w :=
 bodyPost_ret (by
  have hp' := hp
  rw [Array.getD_eq_getD_getElem?] at hp'
  simp only [results, h]
  simp [hp', asAddr, run_loadVar_row w g t ty cs (0, 0) d hB hu hd hi, Array.getD_eq_getD_getElem?]) hdf hR
theorem DrW.sla {w : World} {T : Nat → Prop} {vm vl va : Value} {r : Rl} (h : DrW w T vm vl va r) : ∃ C f, va = .slice C r.acks.length f := by
 obtain ⟨_, _, C, f, e'', _⟩ := h
 exact ⟨C, f, e''⟩
set_option maxRecDepth 100000 in
set_option maxHeartbeats 4000000 in
theorem dlead_any {T : Nat → Prop} (r : Rl) (v : Vi) (vm vl va : Value) (Av : Option Addr) (cv : Nat) (w : World) (h : DrW w T vm vl va r) (hTl : ∀ k, T k → k < w.heap.size) (hr : Reads w w.heap.size 1 Av v.l.length (ints v.l)) (hnv : 0 < v.l.length → ∀ a, Av = some a → ¬T a.block)
  (hn : r.log.length ≤ 4096) (hv : v.l.length ≤ 20) (hl64 : ∀ x ∈ v.l, I64 x) (hp : I64 v.p) :
  Calls Tryz.prog 9 #[.agg #[.int .i64 r.id, .int .i64 r.v.e, .int .i64 r.v.p, vm, vl, .int .i64 r.joined, .int .i64 (r.sure : Int), va, .bool r.act], .agg #[.int .i64 v.e, .int .i64 v.p, .slice Av v.l.length cv]] w fun e w' => ∃ vm' va' A1 n1 c1, e = .returned (.tuple #[.slice A1 n1 c1, .int .i64 (leadP r v).e, .agg #[.int .i64 (leadP r v).r.id, .int .i64 (leadP r v).r.v.e, .int .i64 (leadP r v).r.v.p, vm', vl, .int .i64 (leadP r v).r.joined, .int .i64 ((leadP r v).r.sure : Int), va', .bool (leadP r v).r.act]]) ∧ Recs w' T A1 n1 (leadP r v).recs ∧ DrW w' T vm' vl va' (leadP r v).r ∧ Below w.heap.size w w' := by
 have hD := h
 obtain ⟨A, c, B, d, C, f, rfl, rfl, rfl⟩ := h.sl
 have hB0 := ((Blk.new w 34 #[.int .i64 r.id, .int .i64 r.v.e, .int .i64 r.v.p, (.slice A r.v.l.length c), (.slice B r.log.length d), .int .i64 r.joined, .int .i64 (r.sure : Int), (.slice C r.acks.length f), .bool r.act]).alloc (.cells #[.int .i64 v.e, .int .i64 v.p, .slice Av v.l.length cv] 30)).alloc (.cells #[.int .i64 0, .int .i64 0, .int .i64 0, .slice none 0 0, .slice none 0 0, .int .i64 0, .int .i64 0, .slice none 0 0, .bool false] 34)
 have hV0 := (Blk.made w (.cells #[.int .i64 r.id, .int .i64 r.v.e, .int .i64 r.v.p, (.slice A r.v.l.length c), (.slice B r.log.length d), .int .i64 r.joined, .int .i64 (r.sure : Int), (.slice C r.acks.length f), .bool r.act] 34) 30 #[.int .i64 v.e, .int .i64 v.p, .slice Av v.l.length cv]).alloc (.cells #[.int .i64 0, .int .i64 0, .int .i64 0, .slice none 0 0, .slice none 0 0, .int .i64 0, .int .i64 0, .slice none 0 0, .bool false] 34)
 have hRt := fun W (hW : Below w.heap.size w W) => rvright_any v.e v.p Av v.l.length cv v.l W ((Reads.kp hr (Kp.of_below (S := fun _ => False) hW) (fun _ _ _ h => h))) (by omega)
 have hZ0 : Blk (((w.alloc (.cells #[.int .i64 r.id, .int .i64 r.v.e, .int .i64 r.v.p, (.slice A r.v.l.length c), (.slice B r.log.length d), .int .i64 r.joined, .int .i64 (r.sure : Int), (.slice C r.acks.length f), .bool r.act] 34)).alloc (.cells #[.int .i64 v.e, .int .i64 v.p, .slice Av v.l.length cv] 30)).alloc (.cells #[.int .i64 0, .int .i64 0, .int .i64 0, .slice none 0 0, .slice none 0 0, .int .i64 0, .int .i64 0, .slice none 0 0, .bool false] 34)) (w.heap.size + 1 + 1) 34 #[.int .i64 0, .int .i64 0, .int .i64 0, .slice none 0 0, .slice none 0 0, .int .i64 0, .int .i64 0, .slice none 0 0, .bool false] := by
  have := Blk.new ((w.alloc (.cells #[.int .i64 r.id, .int .i64 r.v.e, .int .i64 r.v.p, (.slice A r.v.l.length c), (.slice B r.log.length d), .int .i64 r.joined, .int .i64 (r.sure : Int), (.slice C r.acks.length f), .bool r.act] 34)).alloc (.cells #[.int .i64 v.e, .int .i64 v.p, .slice Av v.l.length cv] 30)) 34 #[.int .i64 0, .int .i64 0, .int .i64 0, .slice none 0 0, .slice none 0 0, .int .i64 0, .int .i64 0, .slice none 0 0, .bool false]
  simpa using this
 have hb0 : Below w.heap.size w (((w.alloc (.cells #[.int .i64 r.id, .int .i64 r.v.e, .int .i64 r.v.p, (.slice A r.v.l.length c), (.slice B r.log.length d), .int .i64 r.joined, .int .i64 (r.sure : Int), (.slice C r.acks.length f), .bool r.act] 34)).alloc (.cells #[.int .i64 v.e, .int .i64 v.p, .slice Av v.l.length cv] 30)).alloc (.cells #[.int .i64 0, .int .i64 0, .int .i64 0, .slice none 0 0, .slice none 0 0, .int .i64 0, .int .i64 0, .slice none 0 0, .bool false] 34)) := ((Below.alloc (Below.refl _ _) (Nat.le_refl _) _).alloc (by simp) _).alloc (by simp; omega) _
 have hR0 := hRt _ hb0
 clear h
 rcases hvr : rightV v.e v.p v.l with _ | _
 ·rw [hvr] at hR0
  have hLe : leadP r v = ⟨[], 1, r⟩ := by unfold leadP Vi.right; rw [hvr]; rfl
  rw [hLe]
  go_enter Tryz.func9, Tryz.ntmps9
  go_upto_region 2 with (go_at_call 29; (with_reducible refine hR0.mono ?_); rintro e w1 ⟨rfl, hb1⟩)
  have hB1 := hB0.below hb1 (by simp; omega)
  have hZ1 := hZ0.below hb1 hZ0.lt
  have hb01 := hb0.trans (hb1.mono hb0.size)
  have lB := hB1.lt
  have lZ := hZ1.lt
  refine wp_region_kp (fun k => k = w.heap.size + 1 + 1) [0] [] [(true, true, 0), (false, true, 1), (false, true, 2), (false, false, 3)] (by kernel_rfl) (by kernel_rfl) (fun X => ?_); simp only [List.map_cons, List.map_nil, List.getD_cons_zero, List.getD_cons_succ]
  have hne : ¬(w.heap.size = w.heap.size + 1 + 1) := by omega
  (repeat (first | (refine wfp fun K hK => ?_; go_simp; refine hK _ _ ?_; clear hK K) | (refine wff fun K hK => ?_; go_simp; refine hK _ _ ?_; clear hK K)))
  (refine first_readG rfl (v := .agg #[.int .i64 r.id, .int .i64 r.v.e, .int .i64 r.v.p, (.slice A r.v.l.length c), (.slice B r.log.length d), .int .i64 r.joined, .int .i64 (r.sure : Int), (.slice C r.acks.length f), .bool r.act]) (fun w' hw' => ?_) (fun K hK => ?_); rotate_left 1; go_simp; refine hK _ _ ?_; clear hK K; rotate_left 1; (have hB' := Blk.kp (Blk.ext hB1 _) hw' hne; have c' := Blk.cell hB'; go_simp))
  (repeat (first | (refine wfp fun K hK => ?_; go_simp; refine hK _ _ ?_; clear hK K) | (refine wff fun K hK => ?_; go_simp; refine hK _ _ ?_; clear hK K)))
  have hbX := hb01.trans ((World.below_ext w1 X).mono hb01.size)
  have hZX := hZ1.ext X
  have hD2 := (hD.sub (T' := fun k => T k ∨ k = w.heap.size + 1 + 1) (fun k hk ht => ht.elim id (fun e => by omega))).kp (Kp.of_below hbX)
  generalize w1.ext X = V at *
  have c2 := hZX.cell
  have f2 := hZX.frozen
  have l2 := hZX.lt
  refine First.wpF_must (fun K hK => ?_)
  go_wp2
  (refine hK _ _ (fun hnd => by first | exact Bool.noConfusion hnd | exact Kp.refl _ _) ?_; clear hK K)
  (repeat (first | (refine wfp fun K hK => ?_; go_simp; refine hK _ _ ?_; clear hK K) | (refine wff fun K hK => ?_; go_simp; refine hK _ _ ?_; clear hK K)))
  refine First.wpF_must (fun K hK => ?_)
  go_wp2
  (refine hK _ _ (fun hnd => by first | exact Bool.noConfusion hnd | exact Kp.refl _ _) ?_; clear hK K)
  (repeat (first | (refine wfp fun K hK => ?_; go_simp; refine hK _ _ ?_; clear hK K) | (refine wff fun K hK => ?_; go_simp; refine hK _ _ ?_; clear hK K)))
  refine First.wpF_must (fun K hK => ?_)
  go_wp2
  (refine hK _ _ (fun hnd => by first | exact Bool.noConfusion hnd | exact Kp.nine _ (w.heap.size + 1 + 1) _ _ _ _ _ _ _ _ _) ?_; clear hK K)
  (repeat (first | (refine wfp fun K hK => ?_; go_simp; refine hK _ _ ?_; clear hK K) | (refine wff fun K hK => ?_; go_simp; refine hK _ _ ?_; clear hK K)))
  refine First.wpF_nil ?_
  go_wp2
  refine bodyPost_ttc Tryz.results9 rfl (Blk.nine hZX) Tryz.underlying34 rfl (by kernel_rfl) rfl ?_
  refine ⟨_, _, none, 0, 0, rfl, Recs.nil _ _, ?_, ?_⟩
  ·exact (hD2.kp (Kp.weaken (Kp.nine V (w.heap.size + 1 + 1) _ _ _ _ _ _ _ _ _) fun k hk => .inr hk)).sub fun k _ hk => .inl hk
  ·exact hbX.trans (Kp.below (Kp.nine V (w.heap.size + 1 + 1) _ _ _ _ _ _ _ _ _) hbX.size (fun k hk => by omega))
 ·rw [hvr] at hR0
  by_cases hle : v.e ≤ r.v.e
  ·have hLe : leadP r v = ⟨[], 0, r⟩ := by unfold leadP Vi.right; rw [hvr, if_pos rfl, if_pos hle]
   rw [hLe]
   have d1 : decide (v.e ≤ r.v.e) = true := decide_eq_true hle
   go_enter Tryz.func9, Tryz.ntmps9
   go_upto_region 4 with (go_at_call 29; (with_reducible refine hR0.mono ?_); rintro e w1 ⟨rfl, hb1⟩; have hB1 := hB0.below hb1 (by simp; omega); have cB1 := hB1.cell; have lB1 := hB1.lt; have hV1 := hV0.below hb1 hV0.lt; have cV1 := hV1.cell; have lV1 := hV1.lt)
   have hZ1 := hZ0.below hb1 hZ0.lt
   have hb01 := hb0.trans (hb1.mono hb0.size)
   have lB := hB1.lt
   have lZ := hZ1.lt
   refine wp_region_kp (fun k => k = w.heap.size + 1 + 1) [0] [] [(true, true, 0), (false, true, 1), (false, true, 2), (false, false, 3)] (by kernel_rfl) (by kernel_rfl) (fun X => ?_); simp only [List.map_cons, List.map_nil, List.getD_cons_zero, List.getD_cons_succ]
   have hne : ¬(w.heap.size = w.heap.size + 1 + 1) := by omega
   (repeat (first | (refine wfp fun K hK => ?_; go_simp; refine hK _ _ ?_; clear hK K) | (refine wff fun K hK => ?_; go_simp; refine hK _ _ ?_; clear hK K)))
   (refine first_readG rfl (v := .agg #[.int .i64 r.id, .int .i64 r.v.e, .int .i64 r.v.p, (.slice A r.v.l.length c), (.slice B r.log.length d), .int .i64 r.joined, .int .i64 (r.sure : Int), (.slice C r.acks.length f), .bool r.act]) (fun w' hw' => ?_) (fun K hK => ?_); rotate_left 1; go_simp; refine hK _ _ ?_; clear hK K; rotate_left 1; (have hB' := Blk.kp (Blk.ext hB1 _) hw' hne; have c' := Blk.cell hB'; go_simp))
   (repeat (first | (refine wfp fun K hK => ?_; go_simp; refine hK _ _ ?_; clear hK K) | (refine wff fun K hK => ?_; go_simp; refine hK _ _ ?_; clear hK K)))
   have hbX := hb01.trans ((World.below_ext w1 X).mono hb01.size)
   have hZX := hZ1.ext X
   have hD2 := (hD.sub (T' := fun k => T k ∨ k = w.heap.size + 1 + 1) (fun k hk ht => ht.elim id (fun e => by omega))).kp (Kp.of_below hbX)
   generalize w1.ext X = V at *
   have c2 := hZX.cell
   have f2 := hZX.frozen
   have l2 := hZX.lt
   refine First.wpF_must (fun K hK => ?_)
   go_wp2
   (refine hK _ _ (fun hnd => by first | exact Bool.noConfusion hnd | exact Kp.refl _ _) ?_; clear hK K)
   (repeat (first | (refine wfp fun K hK => ?_; go_simp; refine hK _ _ ?_; clear hK K) | (refine wff fun K hK => ?_; go_simp; refine hK _ _ ?_; clear hK K)))
   refine First.wpF_must (fun K hK => ?_)
   go_wp2
   (refine hK _ _ (fun hnd => by first | exact Bool.noConfusion hnd | exact Kp.refl _ _) ?_; clear hK K)
   (repeat (first | (refine wfp fun K hK => ?_; go_simp; refine hK _ _ ?_; clear hK K) | (refine wff fun K hK => ?_; go_simp; refine hK _ _ ?_; clear hK K)))
   refine First.wpF_must (fun K hK => ?_)
   go_wp2
   (refine hK _ _ (fun hnd => by first | exact Bool.noConfusion hnd | exact Kp.nine _ (w.heap.size + 1 + 1) _ _ _ _ _ _ _ _ _) ?_; clear hK K)
   (repeat (first | (refine wfp fun K hK => ?_; go_simp; refine hK _ _ ?_; clear hK K) | (refine wff fun K hK => ?_; go_simp; refine hK _ _ ?_; clear hK K)))
   refine First.wpF_nil ?_
   go_wp2
   refine bodyPost_ttc Tryz.results9 rfl (Blk.nine hZX) Tryz.underlying34 rfl (by kernel_rfl) rfl ?_
   refine ⟨_, _, none, 0, 0, rfl, Recs.nil _ _, ?_, ?_⟩
   ·exact (hD2.kp (Kp.weaken (Kp.nine V (w.heap.size + 1 + 1) _ _ _ _ _ _ _ _ _) fun k hk => .inr hk)).sub fun k _ hk => .inl hk
   ·exact hbX.trans (Kp.below (Kp.nine V (w.heap.size + 1 + 1) _ _ _ _ _ _ _ _ _) hbX.size (fun k hk => by omega))
  ·have hLe : leadP r v = ⟨[recPromiseP v], 0, promiseP r v⟩ := by unfold leadP Vi.right; rw [hvr, if_pos rfl, if_neg hle]
   rw [hLe]
   have d1 : decide (v.e ≤ r.v.e) = false := decide_eq_false hle
   go_enter Tryz.func9, Tryz.ntmps9
   go_upto_region 5 with (go_at_call 29; (with_reducible refine hR0.mono ?_); rintro e w1 ⟨rfl, hb1⟩; have hB1 := hB0.below hb1 (by simp; omega); have cB1 := hB1.cell; have lB1 := hB1.lt; have hV1 := hV0.below hb1 hV0.lt; have cV1 := hV1.cell; have lV1 := hV1.lt)
   have hZ1 := hZ0.below hb1 hZ0.lt
   have hb01 := hb0.trans (hb1.mono hb0.size)
   refine wp_region_tree_kp (fun k => k = w.heap.size + 1 + 1) [0, 3, 4] [] (.fork [(true, true, 0), (true, true, 3), (true, true, 4), (false, true, 1)] true 2 (.leaf [(false, false, 5), (false, false, 6), (false, false, 7), (false, false, 8)]) false 5 (.leaf [(false, false, 2), (false, false, 6), (false, false, 7), (false, false, 8)])) (by kernel_rfl) (by kernel_rfl) (fun X => ?_); simp only [First.wpT, List.map_cons, List.map_nil, List.getD_cons_zero, List.getD_cons_succ]
   have hne : ¬(w.heap.size = w.heap.size + 1 + 1) := by omega
   have hnv2 : ¬(w.heap.size + 1 = w.heap.size + 1 + 1) := by omega
   (repeat (first | (refine wfp fun K hK => ?_; go_simp; refine hK _ _ ?_; clear hK K) | (refine wff fun K hK => ?_; go_simp; refine hK _ _ ?_; clear hK K)))
   (refine first_readG rfl (v := .agg #[.int .i64 v.e, .int .i64 v.p, .slice Av v.l.length cv]) (fun w' hw' => ?_) (fun K hK => ?_); rotate_left 1; go_simp; refine hK _ _ ?_; clear hK K; rotate_left 1; (have hB' := Blk.kp (Blk.ext hV1 _) hw' hnv2; have c' := Blk.cell hB'; go_simp))
   (repeat (first | (refine wfp fun K hK => ?_; go_simp; refine hK _ _ ?_; clear hK K) | (refine wff fun K hK => ?_; go_simp; refine hK _ _ ?_; clear hK K)))
   (refine first_readG rfl (v := .agg #[.int .i64 r.id, .int .i64 r.v.e, .int .i64 r.v.p, (.slice A r.v.l.length c), (.slice B r.log.length d), .int .i64 r.joined, .int .i64 (r.sure : Int), (.slice C r.acks.length f), .bool r.act]) (fun w' hw' => ?_) (fun K hK => ?_); rotate_left 1; go_simp; refine hK _ _ ?_; clear hK K; rotate_left 1; (have hB' := Blk.kp (Blk.ext hB1 _) hw' hne; have c' := Blk.cell hB'; go_simp))
   (repeat (first | (refine wfp fun K hK => ?_; go_simp; refine hK _ _ ?_; clear hK K) | (refine wff fun K hK => ?_; go_simp; refine hK _ _ ?_; clear hK K)))
   (refine first_readG rfl (v := .agg #[.int .i64 v.e, .int .i64 v.p, .slice Av v.l.length cv]) (fun w' hw' => ?_) (fun K hK => ?_); rotate_left 1; go_simp; refine hK _ _ ?_; clear hK K; rotate_left 1; (have hB' := Blk.kp (Blk.ext hV1 _) hw' hnv2; have c' := Blk.cell hB'; go_simp))
   (repeat (first | (refine wfp fun K hK => ?_; go_simp; refine hK _ _ ?_; clear hK K) | (refine wff fun K hK => ?_; go_simp; refine hK _ _ ?_; clear hK K)))
   have hbX := hb01.trans ((World.below_ext w1 X).mono hb01.size)
   have hZX := hZ1.ext X
   have hD2 := (hD.sub (T' := fun k => T k ∨ k = w.heap.size + 1 + 1) (fun k hk ht => ht.elim id (fun e => by omega))).kp (Kp.of_below hbX)
   have lX := hZX.lt
   generalize w1.ext X = V at *
   have hrV := Reads.kp hr (Kp.of_below (S := fun _ => False) hbX) (fun _ _ _ h => h)
   have hRP := drecPromise_any Av cv v V hrV hvr hl64 hv hp
   refine First.wpF_must (fun K hK => ?_)
   go_wp2_with (go_at_call 30; (with_reducible refine hRP.mono ?_); rintro e w2 ⟨u, rfl, hRow, hb2⟩; obtain ⟨uA, uc, rfl, _⟩ := own_sl hRow)
   (refine hK _ _ (fun hnd => by first | exact Bool.noConfusion hnd | exact Kp.of_below hb2) ?_; clear hK K)
   have hbX2 := hbX.trans (hb2.mono hbX.size)
   have hs2 := hb2.size
   have hsX2 := hbX2.size
   have hZ2 := hZX.below hb2 lX
   have hD3 := hD2.kp (Kp.of_below hb2)
   have hr2 := Reads.kp hrV (Kp.of_below (S := fun _ => False) hb2) (fun _ _ _ h => h)
   have hAl : 0 < v.l.length → ∀ a, Av = some a → a.block < w.heap.size := fun h0 a ha => by
    obtain ⟨a', e', hl', _⟩ := hr.2 h0
    rw [ha] at e'; cases e'; exact hl'
   have hn2 : 0 < v.l.length → ∀ a, Av = some a → ¬(T a.block ∨ a.block = w.heap.size + 1 + 1) := fun h0 a ha ht => ht.elim (hnv h0 a ha) (fun e => by have := hAl h0 a ha; omega)
   have hT2 : ∀ W : World, w.heap.size + 1 + 1 < W.heap.size → ∀ k, (T k ∨ k = w.heap.size + 1 + 1) → k < W.heap.size := fun W hW k hk => hk.elim (fun h => by have := hTl k h; omega) (fun e => by omega)
   have l2 := hZ2.lt
   have hby := recPromise_by hvr
   refine First.wpF_nil ?_
   refine First.Both.mk ?_ ?_
   ·refine First.wpF_must (fun K hK => ?_)
    go_wp2
    (refine hK _ _ (fun hnd => by first | exact Bool.noConfusion hnd | exact Kp.of_below (Below.alloc (Below.refl _ _) (Nat.le_refl _) (.cells #[.slice uA (recPromiseP v).length uc] 36))) ?_; clear hK K)
    have hbA : Below w2.heap.size w2 (w2.alloc (.cells #[.slice uA (recPromiseP v).length uc] 36)) := Below.alloc (Below.refl _ _) (Nat.le_refl _) _
    have hRc : Recs (w2.alloc (.cells #[.slice uA (recPromiseP v).length uc] 36)) (fun k => T k ∨ k = w.heap.size + 1 + 1) (some ⟨w2.heap.size, 0, none⟩) 1 [recPromiseP v] := Recs.one (Bsl.row hRow (T := fun k => T k ∨ k = w.heap.size + 1 + 1) (fun k hk => hk.elim (fun h => by have := hTl k h; omega) (fun e => by omega)) hby) (fun hk => hk.elim (fun h => by have := hTl _ h; omega) (fun e => by omega))
    have hD4 := hD3.kp (Kp.of_below hbA)
    have hr4 := Reads.kp hr2 (Kp.of_below (S := fun _ => False) hbA) (fun _ _ _ h => h)
    have hZ4 := hZ2.below hbA l2
    have hb4 := hbX2.trans (hbA.mono hsX2)
    have l4 := hZ4.lt
    have hPr := dpromise_any r v _ _ _ Av cv _ hD4 (hT2 _ l4) (hr4.more (by simp)) hn2 hn (by omega)
    refine First.wpF_nil ?_
    (repeat (first | (refine wfp fun K hK => ?_; go_simp; refine hK _ _ ?_; clear hK K) | (refine wff fun K hK => ?_; go_simp; refine hK _ _ ?_; clear hK K)))
    generalize w2.alloc (.cells #[.slice uA (recPromiseP v).length uc] 36) = W4 at *
    refine First.wpF_must (fun K hK => ?_)
    go_wp2_with (go_at_call 31; (with_reducible refine hPr.mono ?_); rintro e w5 ⟨va', rfl, hD5, hb5⟩; obtain ⟨Ca, fa, rfl⟩ := hD5.sla; have hZ5 := hZ4.below hb5 l4; have c5 := hZ5.cell; have f5 := hZ5.frozen; have l5 := hZ5.lt)
    (refine hK _ _ (fun hnd => by first | exact Bool.noConfusion hnd | exact Kp.of_below hb5) ?_; clear hK K)
    (repeat (first | (refine wfp fun K hK => ?_; go_simp; refine hK _ _ ?_; clear hK K) | (refine wff fun K hK => ?_; go_simp; refine hK _ _ ?_; clear hK K)))
    (repeat (refine First.wpF_must (fun K hK => ?_); go_wp2; (refine hK _ _ (fun hnd => by first | exact Bool.noConfusion hnd | exact Kp.refl _ _) ?_; clear hK K); (repeat (first | (refine wfp fun K hK => ?_; go_simp; refine hK _ _ ?_; clear hK K) | (refine wff fun K hK => ?_; go_simp; refine hK _ _ ?_; clear hK K)))))
    refine First.wpF_nil ?_
    go_wp2
    refine bodyPost_ttc Tryz.results9 rfl (Blk.nine hZ5) Tryz.underlying34 rfl (by kernel_rfl) rfl ?_
    have hb05 := hb4.trans (hb5.mono hb4.size)
    refine ⟨_, _, _, 1, 1, rfl, ?_, ?_, ?_⟩
    ·exact ((hRc.kp (Kp.of_below hb5)).kp (Kp.weaken (Kp.nine w5 (w.heap.size + 1 + 1) _ _ _ _ _ _ _ _ _) fun k hk => .inr hk)).sub fun k _ hk => .inl hk
    ·exact (hD5.kp (Kp.weaken (Kp.nine w5 (w.heap.size + 1 + 1) _ _ _ _ _ _ _ _ _) fun k hk => .inr hk)).sub fun k _ hk => .inl hk
    ·exact hb05.trans (Kp.below (Kp.nine w5 (w.heap.size + 1 + 1) _ _ _ _ _ _ _ _ _) hb05.size (fun k hk => by omega))
   ·have hPr := dpromise_any r v _ _ _ Av cv w2 hD3 (hT2 _ l2) hr2 hn2 hn (by omega)
    refine First.wpF_must (fun K hK => ?_)
    go_wp2_with (go_at_call 31; (with_reducible refine hPr.mono ?_); rintro e w5 ⟨va', rfl, hD5, hb5⟩; obtain ⟨Ca, fa, rfl⟩ := hD5.sla; have hZ5 := hZ2.below hb5 l2)
    (refine hK _ _ (fun hnd => by first | exact Bool.noConfusion hnd | exact Kp.of_below hb5) ?_; clear hK K)
    have l5 := hZ5.lt
    have hs5 := hb5.size
    have hbA : Below w5.heap.size w5 (w5.alloc (.cells #[.slice uA (recPromiseP v).length uc] 36)) := Below.alloc (Below.refl _ _) (Nat.le_refl _) _
    have hRc : Recs (w5.alloc (.cells #[.slice uA (recPromiseP v).length uc] 36)) (fun k => T k ∨ k = w.heap.size + 1 + 1) (some ⟨w5.heap.size, 0, none⟩) 1 [recPromiseP v] := Recs.one ((Bsl.row hRow (T := fun k => T k ∨ k = w.heap.size + 1 + 1) (fun k hk => hk.elim (fun h => by have := hTl k h; omega) (fun e => by omega)) hby).kp (Kp.of_below hb5)) (fun hk => hk.elim (fun h => by have := hTl _ h; omega) (fun e => by omega))
    have hD6 := hD5.kp (Kp.of_below hbA)
    have hZ6 := hZ5.below hbA l5
    have hb05 := hbX2.trans (hb5.mono hsX2)
    have hb06 := hb05.trans (hbA.mono hb05.size)
    refine First.wpF_nil ?_
    (repeat (first | (refine wfp fun K hK => ?_; go_simp; refine hK _ _ ?_; clear hK K) | (refine wff fun K hK => ?_; go_simp; refine hK _ _ ?_; clear hK K)))
    refine First.wpF_must (fun K hK => ?_)
    go_wp2
    (refine hK _ _ (fun hnd => by first | exact Bool.noConfusion hnd | exact Kp.of_below (Below.alloc (Below.refl _ _) (Nat.le_refl _) (.cells #[.slice uA (recPromiseP v).length uc] 36))) ?_; clear hK K)
    generalize w5.alloc (.cells #[.slice uA (recPromiseP v).length uc] 36) = W6 at *
    have c6 := hZ6.cell
    have f6 := hZ6.frozen
    have l6 := hZ6.lt
    (repeat (first | (refine wfp fun K hK => ?_; go_simp; refine hK _ _ ?_; clear hK K) | (refine wff fun K hK => ?_; go_simp; refine hK _ _ ?_; clear hK K)))
    (repeat (refine First.wpF_must (fun K hK => ?_); go_wp2; (refine hK _ _ (fun hnd => by first | exact Bool.noConfusion hnd | exact Kp.refl _ _) ?_; clear hK K); (repeat (first | (refine wfp fun K hK => ?_; go_simp; refine hK _ _ ?_; clear hK K) | (refine wff fun K hK => ?_; go_simp; refine hK _ _ ?_; clear hK K)))))
    refine First.wpF_nil ?_
    go_wp2
    refine bodyPost_ttc Tryz.results9 rfl (Blk.nine hZ6) Tryz.underlying34 rfl (by kernel_rfl) rfl ?_
    refine ⟨_, _, _, 1, 1, rfl, ?_, ?_, ?_⟩
    ·exact (hRc.kp (Kp.weaken (Kp.nine W6 (w.heap.size + 1 + 1) _ _ _ _ _ _ _ _ _) fun k hk => .inr hk)).sub fun k _ hk => .inl hk
    ·exact (hD6.kp (Kp.weaken (Kp.nine W6 (w.heap.size + 1 + 1) _ _ _ _ _ _ _ _ _) fun k hk => .inr hk)).sub fun k _ hk => .inl hk
    ·exact hb06.trans (Kp.below (Kp.nine W6 (w.heap.size + 1 + 1) _ _ _ _ _ _ _ _ _) hb06.size (fun k hk => by omega))
end Go.Proofs.YtjhcgnmibnjocaaGreat
