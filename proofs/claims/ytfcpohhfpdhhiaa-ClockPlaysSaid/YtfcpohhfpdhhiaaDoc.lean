import Derived.Test.YtfcpohhfpdhhiaaOps
/-! Clocks: the document. -/
namespace Go.Proofs.Ytfcpohhfpdhhiaa
open Go.RowKit
set_option linter.unusedVariables false
set_option linter.unusedSimpArgs false
theorem wp_region_only (p : Nat) {P : Program} {id : Nat} {Q : Exit → Act → World → Prop} {a : Act} {w : World} {l : List Oper} (Vs Ps : List Nat) (ks : List (Bool × Bool × Nat)) (hm : P.follows .mixedOrders = true)
    (hB : (Region.noSelect l.toArray && decide (ks.length = l.length) && First.orderB .any l.toArray Vs Ps ks (Array.replicate l.length false)) = true)
    (h : ∀ X, First.wpF P l.toArray (fun w w' => Only w w' p) (Q .normal) (ks.map fun k => (k.1, k.2.1, l.getD k.2.2 default)) a (w.ext X)) : (Code.region id l.toArray true).wp P Q a w := by
  have hw₁ : ({ w with drawn := w.drawn + 1 } : World) = w.ext ⟨#[], w.drawn + 1⟩ := by simp [World.ext]
  exact First.wp_region_first _ (fun w => Only.refl w p) (fun w w' w'' h h' => h.trans h') Vs Ps ks hm hB (hw₁ ▸ h _)
theorem Blk.six {w : World} {g : Nat} {t : TypeId} {a b c d e f u v x y z s : Value} (h : Blk w g t #[a, b, c, d, e, f]) : Blk ((((((w.setCell ⟨g, 0, none⟩ u).setCell ⟨g, 1, none⟩ v).setCell ⟨g, 2, none⟩ x).setCell ⟨g, 3, none⟩ y).setCell ⟨g, 4, none⟩ z).setCell ⟨g, 5, none⟩ s) g t #[u, v, x, y, z, s] :=
  Blk.set_ (Blk.set_ (Blk.set_ (Blk.set_ (Blk.set_ (Blk.set_ h 0 u) 1 v) 2 x) 3 y) 4 z) 5 s
theorem first_read {P : Program} {ops : Array Oper} {Le : World → World → Prop} {Q : Act → World → Prop} {a : Act} {w : World} {o : Oper} {rest : List (Bool × Bool × Oper)} {v : Value} (hg : o.guard = none) (hv : ∀ w', Le w w' → First.at_ P o a w' v)
    (hk : ∀ K : Act → World → Prop, (∀ a w, First.wpF P ops Le Q rest a w → K a w) → K (a.put o.dst v) w) : First.wpF P ops Le Q ((true, true, o) :: rest) a w :=
  First.wpF_free fun K hK => by
    rw [if_pos (by unfold Region.wanted; rw [hg])]
    exact ⟨v, hv, hk K hK⟩
theorem bodyPost_tmp_cell {P : Program} {fn : Func} {R : Ending → World → Prop} {a : Act} {w : World} {p u g : Nat} {t ty : TypeId} {cs : Array Value} {d : TypeDesc} (h : fn.results = #[.tmp u, .cell p ty])
    (hp : a.tmps.getD p undef = .pointer (some ⟨g, 0, none⟩)) (hB : Blk w g t cs) (hu : P.underlying ty = some d) (hd : (match d with | .struct _ | .array _ _ => true | _ => false) = true) (hi : (P.info? ty).map (·.size) = some cs.size)
    (hdf : a.defers = []) (hR : R (.returned (.tuple #[a.tmps.getD u undef, .agg cs])) w) : bodyPost P fn R .ret a w :=
  bodyPost_ret (by
    have hp' := hp
    rw [Array.getD_eq_getD_getElem?] at hp'
    simp only [results, h]
    simp [hp', asAddr, run_loadVar_row w g t ty cs (0, 0) d hB hu hd hi, Array.getD_eq_getD_getElem?]) hdf hR
theorem bodyPost_ctc {P : Program} {fn : Func} {R : Ending → World → Prop} {a : Act} {w : World} {p u q g g' : Nat} {t ty t' ty' : TypeId} {cs cs' : Array Value} {d d' : TypeDesc} (h : fn.results = #[.cell p ty, .tmp u, .cell q ty'])
    (hp : a.tmps.getD p undef = .pointer (some ⟨g, 0, none⟩)) (hB : Blk w g t cs) (hu : P.underlying ty = some d) (hd : (match d with | .struct _ | .array _ _ => true | _ => false) = true) (hi : (P.info? ty).map (·.size) = some cs.size)
    (hq : a.tmps.getD q undef = .pointer (some ⟨g', 0, none⟩)) (hB' : Blk w g' t' cs') (hu' : P.underlying ty' = some d') (hd' : (match d' with | .struct _ | .array _ _ => true | _ => false) = true) (hi' : (P.info? ty').map (·.size) = some cs'.size)
    (hdf : a.defers = []) (hR : R (.returned (.tuple #[.agg cs, a.tmps.getD u undef, .agg cs'])) w) : bodyPost P fn R .ret a w :=
  bodyPost_ret (by
    have hp' := hp
    have hq' := hq
    rw [Array.getD_eq_getD_getElem?] at hp' hq'
    simp only [results, h]
    simp [hp', hq', asAddr, run_loadVar_row w g t ty cs (0, 0) d hB hu hd hi, run_loadVar_row w g' t' ty' cs' (0, 0) d' hB' hu' hd' hi', Array.getD_eq_getD_getElem?]) hdf hR
theorem fits_any (off up : Int) (w : World) : Calls Try.prog 17 #[.int .i64 off, .int .i64 up] w fun e w' => e = .returned (.bool (decide (fitsP off up))) ∧ Below w.heap.size w w' := by
  unfold fitsP
  by_cases h1 : 0 ≤ off
  · by_cases h2 : off ≤ 1099511627776
    · by_cases h3 : 0 ≤ up
      · by_cases h4 : up ≤ 4611686018427387904
        · go_enter Try.func17, Try.ntmps17
          go_wp2
          go_ret
          exact ⟨by simp [h1, h2, h3, h4], by (repeat' (first | with_reducible exact Below.refl _ _ | with_reducible refine Below.ext ?_ ?_ _ | with_reducible refine Below.alloc ?_ ?_ _ | with_reducible refine Below.setCell ?_ ?_ _ | with_reducible refine Below.drew ?_ | with_reducible assumption | (simp [World.size_ext]; done) | (simp [World.size_ext]; omega)))⟩
        · go_enter Try.func17, Try.ntmps17
          go_wp2
          go_ret
          exact ⟨by simp; omega, by (repeat' (first | with_reducible exact Below.refl _ _ | with_reducible refine Below.ext ?_ ?_ _ | with_reducible refine Below.alloc ?_ ?_ _ | with_reducible refine Below.setCell ?_ ?_ _ | with_reducible refine Below.drew ?_ | with_reducible assumption | (simp [World.size_ext]; done) | (simp [World.size_ext]; omega)))⟩
      · go_enter Try.func17, Try.ntmps17
        go_wp2
        go_ret
        exact ⟨by simp; omega, by (repeat' (first | with_reducible exact Below.refl _ _ | with_reducible refine Below.ext ?_ ?_ _ | with_reducible refine Below.alloc ?_ ?_ _ | with_reducible refine Below.setCell ?_ ?_ _ | with_reducible refine Below.drew ?_ | with_reducible assumption | (simp [World.size_ext]; done) | (simp [World.size_ext]; omega)))⟩
    · go_enter Try.func17, Try.ntmps17
      go_wp2
      go_ret
      exact ⟨by simp; omega, by (repeat' (first | with_reducible exact Below.refl _ _ | with_reducible refine Below.ext ?_ ?_ _ | with_reducible refine Below.alloc ?_ ?_ _ | with_reducible refine Below.setCell ?_ ?_ _ | with_reducible refine Below.drew ?_ | with_reducible assumption | (simp [World.size_ext]; done) | (simp [World.size_ext]; omega)))⟩
  · go_enter Try.func17, Try.ntmps17
    go_wp2
    go_ret
    have hd : decide (0 ≤ off ∧ off ≤ 1099511627776 ∧ 0 ≤ up ∧ up ≤ 4611686018427387904) = false := by simp only [decide_eq_false_iff_not]; omega
    exact ⟨by rw [hd]; rfl, by (repeat' (first | with_reducible exact Below.refl _ _ | with_reducible refine Below.ext ?_ ?_ _ | with_reducible refine Below.alloc ?_ ?_ _ | with_reducible refine Below.setCell ?_ ?_ _ | with_reducible refine Below.drew ?_ | with_reducible assumption | (simp [World.size_ext]; done) | (simp [World.size_ext]; omega)))⟩
theorem dnew_any (off up mark : Int) (w : World) : Calls Try.prog 18 #[.int .i64 off, .int .i64 up, .int .u32 mark] w fun e w' => e = .returned (.agg #[.int .i64 ((ckNew off up mark)).a, .int .u32 ((ckNew off up mark)).b, .int .u32 ((ckNew off up mark)).c, .int .i64 ((ckNew off up mark)).off, .int .i64 ((ckNew off up mark)).up, .int .u32 ((ckNew off up mark)).mark]) ∧ Below w.heap.size w w' := by
  go_enter Try.func18, Try.ntmps18
  go_wp2
  refine bodyPost_cell Try.results18 rfl (Blk.new w 47 #[.int .i64 up, .int .u32 4294967295, .int .u32 0, .int .i64 off, .int .i64 up, .int .u32 mark]) Try.underlying47 rfl (by kernel_rfl) rfl ⟨rfl, by (repeat' (first | with_reducible exact Below.refl _ _ | with_reducible refine Below.ext ?_ ?_ _ | with_reducible refine Below.alloc ?_ ?_ _ | with_reducible refine Below.setCell ?_ ?_ _ | with_reducible refine Below.drew ?_ | with_reducible assumption | (simp [World.size_ext]; done) | (simp [World.size_ext]; omega)))⟩
set_option maxRecDepth 100000 in
set_option maxHeartbeats 400000 in
theorem draise_any (k : Ck) (u : Int) (w : World) : Calls Try.prog 22 #[.agg #[.int .i64 (k).a, .int .u32 (k).b, .int .u32 (k).c, .int .i64 (k).off, .int .i64 (k).up, .int .u32 (k).mark], .int .i64 u] w fun e w' => e = .returned (.tuple #[.int .i64 (raiseP k u).1, .agg #[.int .i64 ((raiseP k u).2).a, .int .u32 ((raiseP k u).2).b, .int .u32 ((raiseP k u).2).c, .int .i64 ((raiseP k u).2).off, .int .i64 ((raiseP k u).2).up, .int .u32 ((raiseP k u).2).mark]]) ∧ Below w.heap.size w w' := by
  have hC := Blk.alloc (Blk.new w 47 #[.int .i64 k.a, .int .u32 k.b, .int .u32 k.c, .int .i64 k.off, .int .i64 k.up, .int .u32 k.mark]) (.cells #[.int .i64 0, .int .u32 0, .int .u32 0, .int .i64 0, .int .i64 0, .int .u32 0] 47)
  have n1 : w.heap.size ≠ w.heap.size + 1 := by omega
  by_cases h1 : u < k.up
  · have e1 : raiseP k u = (1, k) := by unfold raiseP; rw [if_pos (.inl h1)]
    rw [e1]
    go_enter Try.func22, Try.ntmps22
    go_wp2
    refine wp_region_only (w.heap.size + 1) [0] [] [(true, true, 0), (false, true, 1), (false, false, 2)] (by kernel_rfl) (by kernel_rfl) (fun Y => ?_); simp only [List.map_cons, List.map_nil, List.getD_cons_zero, List.getD_cons_succ]
    have hCY := Blk.ext hC Y
    (refine first_read rfl (v := .agg #[.int .i64 (k).a, .int .u32 (k).b, .int .u32 (k).c, .int .i64 (k).off, .int .i64 (k).up, .int .u32 (k).mark]) (fun w' hw' => ?_) (fun K hK => ?_); rotate_left 1; go_simp; refine hK _ _ ?_; clear hK K; rotate_left 1; (have hB' := Blk.only hCY hw' n1; have c' := Blk.cell hB'; go_simp))
    refine First.wpF_must (fun K hK => ?_)
    go_wp2
    (refine hK _ _ (fun hnd => by first | exact Bool.noConfusion hnd | exact Only.refl _ _ | ((repeat (refine Only.set_ ?_ (.inl rfl) _)); exact Only.refl _ _)) ?_; clear hK K)
    refine First.wpF_must (fun K hK => ?_)
    go_wp2
    (refine hK _ _ (fun hnd => by first | exact Bool.noConfusion hnd | exact Only.refl _ _ | ((repeat (refine Only.set_ ?_ (.inl rfl) _)); exact Only.refl _ _)) ?_; clear hK K)
    refine First.wpF_nil ?_
    go_wp2
    refine bodyPost_tmp_cell Try.results22 rfl (Blk.six (Blk.ext (Blk.made w _ _ _) Y)) Try.underlying47 rfl (by kernel_rfl) rfl ⟨rfl, ?_⟩
    (repeat' (first | with_reducible exact Below.refl _ _ | with_reducible refine Below.ext ?_ ?_ _ | with_reducible refine Below.alloc ?_ ?_ _ | with_reducible refine Below.setCell ?_ ?_ _ | with_reducible refine Below.drew ?_ | with_reducible assumption | (simp [World.size_ext]; done) | (simp [World.size_ext]; omega)))
  · by_cases h2 : 4611686018427387904 < u
    · have e1 : raiseP k u = (1, k) := by unfold raiseP; rw [if_pos (.inr h2)]
      rw [e1]
      go_enter Try.func22, Try.ntmps22
      go_wp2
      refine wp_region_only (w.heap.size + 1) [0] [] [(true, true, 0), (false, true, 1), (false, false, 2)] (by kernel_rfl) (by kernel_rfl) (fun Y => ?_); simp only [List.map_cons, List.map_nil, List.getD_cons_zero, List.getD_cons_succ]
      have hCY := Blk.ext hC Y
      (refine first_read rfl (v := .agg #[.int .i64 (k).a, .int .u32 (k).b, .int .u32 (k).c, .int .i64 (k).off, .int .i64 (k).up, .int .u32 (k).mark]) (fun w' hw' => ?_) (fun K hK => ?_); rotate_left 1; go_simp; refine hK _ _ ?_; clear hK K; rotate_left 1; (have hB' := Blk.only hCY hw' n1; have c' := Blk.cell hB'; go_simp))
      refine First.wpF_must (fun K hK => ?_)
      go_wp2
      (refine hK _ _ (fun hnd => by first | exact Bool.noConfusion hnd | exact Only.refl _ _ | ((repeat (refine Only.set_ ?_ (.inl rfl) _)); exact Only.refl _ _)) ?_; clear hK K)
      refine First.wpF_must (fun K hK => ?_)
      go_wp2
      (refine hK _ _ (fun hnd => by first | exact Bool.noConfusion hnd | exact Only.refl _ _ | ((repeat (refine Only.set_ ?_ (.inl rfl) _)); exact Only.refl _ _)) ?_; clear hK K)
      refine First.wpF_nil ?_
      go_wp2
      refine bodyPost_tmp_cell Try.results22 rfl (Blk.six (Blk.ext (Blk.made w _ _ _) Y)) Try.underlying47 rfl (by kernel_rfl) rfl ⟨rfl, ?_⟩
      (repeat' (first | with_reducible exact Below.refl _ _ | with_reducible refine Below.ext ?_ ?_ _ | with_reducible refine Below.alloc ?_ ?_ _ | with_reducible refine Below.setCell ?_ ?_ _ | with_reducible refine Below.drew ?_ | with_reducible assumption | (simp [World.size_ext]; done) | (simp [World.size_ext]; omega)))
    · have e1 : raiseP k u = (0, { k with up := u }) := by unfold raiseP; rw [if_neg (by omega)]
      rw [e1]
      go_enter Try.func22, Try.ntmps22
      go_wp2
      refine wp_region_only (w.heap.size + 1) [0] [] [(true, true, 0), (false, true, 1), (false, false, 2)] (by kernel_rfl) (by kernel_rfl) (fun Y => ?_); simp only [List.map_cons, List.map_nil, List.getD_cons_zero, List.getD_cons_succ]
      have hC2 := Blk.ext (Blk.alloc (Blk.new w 47 #[.int .i64 k.a, .int .u32 k.b, .int .u32 k.c, .int .i64 k.off, .int .i64 u, .int .u32 k.mark]) (.cells #[.int .i64 0, .int .u32 0, .int .u32 0, .int .i64 0, .int .i64 0, .int .u32 0] 47)) Y
      (refine first_read rfl (v := .agg #[.int .i64 k.a, .int .u32 k.b, .int .u32 k.c, .int .i64 k.off, .int .i64 u, .int .u32 k.mark]) (fun w' hw' => ?_) (fun K hK => ?_); rotate_left 1; go_simp; refine hK _ _ ?_; clear hK K; rotate_left 1; (have hB' := Blk.only hC2 hw' n1; have c' := Blk.cell hB'; go_simp))
      refine First.wpF_must (fun K hK => ?_)
      go_wp2
      (refine hK _ _ (fun hnd => by first | exact Bool.noConfusion hnd | exact Only.refl _ _ | ((repeat (refine Only.set_ ?_ (.inl rfl) _)); exact Only.refl _ _)) ?_; clear hK K)
      refine First.wpF_must (fun K hK => ?_)
      go_wp2
      (refine hK _ _ (fun hnd => by first | exact Bool.noConfusion hnd | exact Only.refl _ _ | ((repeat (refine Only.set_ ?_ (.inl rfl) _)); exact Only.refl _ _)) ?_; clear hK K)
      refine First.wpF_nil ?_
      go_wp2
      refine bodyPost_tmp_cell Try.results22 rfl (Blk.six (Blk.ext (Blk.made w _ _ _) Y)) Try.underlying47 rfl (by kernel_rfl) rfl ⟨rfl, ?_⟩
      (repeat' (first | with_reducible exact Below.refl _ _ | with_reducible refine Below.ext ?_ ?_ _ | with_reducible refine Below.alloc ?_ ?_ _ | with_reducible refine Below.setCell ?_ ?_ _ | with_reducible refine Below.drew ?_ | with_reducible assumption | (simp [World.size_ext]; done) | (simp [World.size_ext]; omega)))
theorem most_any (a b c x y z : Int) (w : World) : Calls Try.prog 31 #[.agg #[.int .i64 a, .int .u32 b, .int .u32 c], .agg #[.int .i64 x, .int .u32 y, .int .u32 z]] w fun e w' => e = .returned (if belowB a b c x y z then .agg #[.int .i64 x, .int .u32 y, .int .u32 z] else .agg #[.int .i64 a, .int .u32 b, .int .u32 c]) ∧ Below w.heap.size w w' := by
  have hb := fun w' => below_any a b c x y z w'
  cases h : belowB a b c x y z
  · rw [h] at hb
    go_enter Try.func31, Try.ntmps31
    go_wp2_with (go_at_call 33; (with_reducible refine (hb _).mono ?_); rintro e w1 ⟨rfl, hb1⟩; have s1 := hb1.size; have hb0 : Below w.heap.size w w1 := Below.trans (by (repeat' (first | with_reducible exact Below.refl _ _ | with_reducible refine Below.ext ?_ ?_ _ | with_reducible refine Below.alloc ?_ ?_ _ | with_reducible refine Below.setCell ?_ ?_ _ | with_reducible refine Below.drew ?_ | with_reducible assumption | (simp [World.size_ext]; done) | (simp [World.size_ext]; omega)))) (hb1.mono (by simp <;> omega)); have A1 := Blk.below (Blk.alloc (Blk.alloc (Blk.new w 31 #[.int .i64 a, .int .u32 b, .int .u32 c]) _) _) hb1 (by simp <;> omega); have B1 := Blk.below (Blk.alloc (Blk.made w _ 31 #[.int .i64 x, .int .u32 y, .int .u32 z]) _) hb1 (by simp <;> omega); have R1 := Blk.below (Blk.made (w.alloc _) _ 31 #[.int .i64 0, .int .u32 0, .int .u32 0]) hb1 (by simp <;> omega); have c1 := Blk.cell A1; have c2 := Blk.cell B1; have c3 := Blk.cell R1; have c4 := Blk.frozen R1; (simp only [World.size_ext, World.size_alloc, World.size_setCell] at s1 R1 c3 c4))
    refine bodyPost_cell Try.results31 rfl (Blk.three R1) Try.underlying31 rfl (by kernel_rfl) rfl ⟨rfl, ?_⟩
    (repeat' (first | with_reducible exact Below.refl _ _ | with_reducible refine Below.ext ?_ ?_ _ | with_reducible refine Below.alloc ?_ ?_ _ | with_reducible refine Below.setCell ?_ ?_ _ | with_reducible refine Below.drew ?_ | with_reducible assumption | (simp [World.size_ext]; done) | (simp [World.size_ext]; omega)))
  · rw [h] at hb
    go_enter Try.func31, Try.ntmps31
    go_wp2_with (go_at_call 33; (with_reducible refine (hb _).mono ?_); rintro e w1 ⟨rfl, hb1⟩; have s1 := hb1.size; have hb0 : Below w.heap.size w w1 := Below.trans (by (repeat' (first | with_reducible exact Below.refl _ _ | with_reducible refine Below.ext ?_ ?_ _ | with_reducible refine Below.alloc ?_ ?_ _ | with_reducible refine Below.setCell ?_ ?_ _ | with_reducible refine Below.drew ?_ | with_reducible assumption | (simp [World.size_ext]; done) | (simp [World.size_ext]; omega)))) (hb1.mono (by simp <;> omega)); have A1 := Blk.below (Blk.alloc (Blk.alloc (Blk.new w 31 #[.int .i64 a, .int .u32 b, .int .u32 c]) _) _) hb1 (by simp <;> omega); have B1 := Blk.below (Blk.alloc (Blk.made w _ 31 #[.int .i64 x, .int .u32 y, .int .u32 z]) _) hb1 (by simp <;> omega); have R1 := Blk.below (Blk.made (w.alloc _) _ 31 #[.int .i64 0, .int .u32 0, .int .u32 0]) hb1 (by simp <;> omega); have c1 := Blk.cell A1; have c2 := Blk.cell B1; have c3 := Blk.cell R1; have c4 := Blk.frozen R1; (simp only [World.size_ext, World.size_alloc, World.size_setCell] at s1 R1 c3 c4))
    refine bodyPost_cell Try.results31 rfl (Blk.three R1) Try.underlying31 rfl (by kernel_rfl) rfl ⟨rfl, ?_⟩
    (repeat' (first | with_reducible exact Below.refl _ _ | with_reducible refine Below.ext ?_ ?_ _ | with_reducible refine Below.alloc ?_ ?_ _ | with_reducible refine Below.setCell ?_ ?_ _ | with_reducible refine Below.drew ?_ | with_reducible assumption | (simp [World.size_ext]; done) | (simp [World.size_ext]; omega)))
end Go.Proofs.Ytfcpohhfpdhhiaa
