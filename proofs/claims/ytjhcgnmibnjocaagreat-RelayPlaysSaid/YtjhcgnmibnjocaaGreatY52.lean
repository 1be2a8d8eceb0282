import Derived.Test.YtjhcgnmibnjocaaGreatY51
/-! A relay's records. -/
namespace Go.Proofs.YtjhcgnmibnjocaaGreat
open Go.RowKit Go.Maps
set_option linter.unusedVariables false
set_option linter.unusedSimpArgs false
attribute [local irreducible] First.wpF
theorem OwnR.sl {w : World} {T : Nat → Prop} {base : Nat} {v : Value} {l : List (List Nat)} (h : OwnR w T base v l) : ∃ A c, v = .slice A l.length c := by
 obtain ⟨ms, _, ho, _⟩ := h
 obtain ⟨A, c, e, _⟩ := own_sl ho
 exact ⟨A, c, e⟩
theorem ownR_ge {w : World} {T : Nat → Prop} {base : Nat} {v : Value} {l : List (List Nat)} (h : OwnR w T base v l) : ∀ k, v.ownBlock = some k → base ≤ k ∧ k < w.heap.size := fun k hk => by
 obtain ⟨ms, _, ho, _⟩ := h
 obtain ⟨A, c, rfl, _⟩ := own_sl ho
 cases A with
 | none => cases hk
 | some ad => cases hk; exact own_addr ho _ rfl
set_option maxRecDepth 100000 in
set_option maxHeartbeats 4000000 in
theorem rsave_any {S T : Nat → Prop} {g : Nat} {r : Rl} (w : World) (h : RelW w S T g r) :
  Calls Tryz.prog 63 #[.pointer (some ⟨g, 0, none⟩)] w fun e w' => ∃ A c, e = .returned (.slice A (saveP r).length c) ∧ Recs w' (fun k => k < w.heap.size) A (saveP r).length (saveP r) ∧ Below w.heap.size w w' := by
 obtain ⟨hok, Am, cm, vl, mb, hX⟩ := h
 have hXo := hX.own
 obtain ⟨ms0, _, hown0, _⟩ := hXo
 obtain ⟨Al, cl, hvl, hcl⟩ := own_sl hown0
 clear hown0
 subst hvl
 have c0 := hX.blk.cell
 have l0 := hX.blk.lt
 have hj := hok.j
 have hji : I64 r.joined := by unfold I64; omega
 have hrl := fun W h => recLog_any (T := fun _ => False) r.joined Al r.log.length cl r.log W h hok.n hji
 have hrb := recLog_by hji hok.log hok.n
 obtain ⟨SP, hSP⟩ : ∃ SP, SP = saveP r := ⟨_, rfl⟩
 rw [← hSP]
 unfold saveP at hSP
 obtain ⟨R2, hR2⟩ : ∃ R2, R2 = if 0 < r.log.length ∨ 0 < r.joined then [recLogP r.joined r.log] else [] := ⟨_, rfl⟩
 rw [← hR2] at hSP
 by_cases hv : 0 < r.v.e
 ·have d1 : decide ((0 : Int) < r.v.e) = true := by simpa using hv
  have hvr : r.v.right = true := by
   rcases hok.v with e | e
   ·rw [e] at hv; exact absurd hv (by decide)
   ·exact e
  have hpb := recPromise_by hvr
  rw [if_pos hv] at hSP
  have hSP' := hide hSP
  clear hv hSP
  go_enter Tryz.func63, Tryz.ntmps63
  go_upto_region 6 with (first | (go_at_call 28; (with_reducible refine (recPromise_any Am cm r.v w hX.rd hvr).mono ?_); rintro e w1 ⟨u1, rfl, hu1, hb1⟩; obtain ⟨uA, un, uc, rfl⟩ := hu1.shape; have hbs1 : Bsl w1 (fun k => k < w.heap.size ∨ (Value.slice none 0 0).ownBlock = some k) (.slice uA un uc) (recPromiseP r.v) := (Bsl.row hu1 (T := fun k => k < w.heap.size) (fun k hk => hk) hpb).sub (fun k _ hk => hk.elim id (fun e => by cases e))) | (at_builtin; refine app_rec rfl (.tmp 12) (.tmp 18) rfl (fun k => k < w.heap.size) w.heap.size (.slice none 0 0) [] (recPromiseP r.v, .slice uA un uc) _ rfl rfl (OwnR.nil _ _ _) hbs1 _ rfl rfl (by simp) (by have := hb1.size; omega) (fun v' w2 hR2' hc2 hk2 => ?_)))
  have hb02 : Below w.heap.size w w2 := hb1.trans (hc2.low (base := w.heap.size) (fun k hk => by cases hk) hb1.size)
  rw [List.nil_append] at hR2'
  refine abstr (fun W => Below w.heap.size w W ∧ OwnR W (fun k => k < w.heap.size) w.heap.size v' [recPromiseP r.v]) ⟨hb02, hR2'⟩ (fun W hW => ?_)
  clear hb1 hu1 hbs1 hc2 hk2 hb02 hR2'
  obtain ⟨hbW, hRW⟩ := hW
  have hL1 : Hid (([recPromiseP r.v] : List (List Nat)).length ≤ 1) := hide (by simp)
  generalize [recPromiseP r.v] = L1 at *
  generalize v' = v1 at *
  have hXW := hX.below hbW
  have cW := hXW.blk.cell
  have lW := hXW.blk.lt
  have hgl := hX.blk.lt
  have hsW := hbW.size
  by_cases hl : 0 < r.log.length ∨ 0 < r.joined
  ·rw [if_pos hl] at hR2
   have hR2' := hide hR2
   clear hR2
   obtain ⟨vA, vc, hvs⟩ := hRW.sl
   subst hvs
   by_cases hl0 : 0 < r.log.length
   ·have d2 : decide ((0 : Int) < r.log.length) = true := decide_eq_true (by omega)
    have d2' : decide (0 < r.log.length) = true := decide_eq_true hl0
    clear hl hl0
    go_upto_region 7 with fail
    refine wp_region_kp (fun k => w.heap.size ≤ k) [4, 8] [0, 1, 2, 3, 5, 6, 7] [(true, false, 0), (true, false, 1), (true, false, 2), (true, false, 3), (true, true, 4), (true, false, 5), (true, false, 6), (true, false, 7), (true, true, 8), (false, false, 9), (false, false, 10), (false, false, 11), (false, false, 12)] (by kernel_rfl) (by kernel_rfl) (fun X => ?_); simp only [List.map_cons, List.map_nil, List.getD_cons_zero, List.getD_cons_succ]
    have hXX := hXW.below (World.below_ext W X)
    have hBX := hXX.blk
    have ng : ¬(w.heap.size ≤ g) := by omega
    have hEX : Ents (W.ext X) (fun _ => False) Al r.log.length r.log := hXX.ents
    have hRX := hRW.below (World.below_ext W X)
    have hsX := (World.below_ext W X).size
    (repeat (first | (refine wfp fun K hK => ?_; go_simp; refine hK _ _ ?_; clear hK K) | (refine wff fun K hK => ?_; go_simp; refine hK _ _ ?_; clear hK K)))
    (refine first_readG rfl (v := .int .i64 r.joined) (fun w' hw' => ?_) (fun K hK => ?_); rotate_left 1; go_simp; refine hK _ _ ?_; clear hK K; rotate_left 1; (have hB' := Blk.kp hBX hw' ng; have c' := Blk.cell hB'; go_simp))
    (repeat (first | (refine wfp fun K hK => ?_; go_simp; refine hK _ _ ?_; clear hK K) | (refine wff fun K hK => ?_; go_simp; refine hK _ _ ?_; clear hK K)))
    (refine first_readG rfl (v := .slice Al r.log.length cl) (fun w' hw' => ?_) (fun K hK => ?_); rotate_left 1; go_simp; refine hK _ _ ?_; clear hK K; rotate_left 1; (have hB' := Blk.kp hBX hw' ng; have c' := Blk.cell hB'; go_simp))
    (repeat (first | (refine wfp fun K hK => ?_; go_simp; refine hK _ _ ?_; clear hK K) | (refine wff fun K hK => ?_; go_simp; refine hK _ _ ?_; clear hK K)))
    refine First.wpF_must (fun K hK => ?_)
    go_wp2_with (go_at_call 79; (with_reducible refine (hrl _ hEX).mono ?_); rintro e w5 ⟨u5, rfl, hu5, hb5⟩; obtain ⟨uA5, un5, uc5, rfl⟩ := hu5.shape)
    (refine hK _ _ (fun _ => Kp.of_below hb5) ?_; clear hK K)
    have hs5 := hb5.size
    have hR5 := hRX.below hb5
    have hge := ownR_ge hR5
    have hgeX := ownR_ge hRX
    have hbs5 : Bsl w5 (fun k => k < w.heap.size ∨ (Value.slice vA L1.length vc).ownBlock = some k) (.slice uA5 un5 uc5) (recLogP r.joined r.log) := (Bsl.row hu5 (fun k hk => hk) hrb).sub (fun k _ hk => hk.elim (fun h => by omega) (fun e => by have := (hgeX k e).2; omega))
    (repeat (first | (refine wfp fun K hK => ?_; go_simp; refine hK _ _ ?_; clear hK K) | (refine wff fun K hK => ?_; go_simp; refine hK _ _ ?_; clear hK K)))
    refine First.wpF_must (fun K hK => ?_)
    go_wp2
    (refine hK _ _ (fun _ => Kp.of_below (Below.alloc (Below.refl _ _) (Nat.le_refl _) _)) ?_; clear hK K)
    (repeat (first | (refine wfp fun K hK => ?_; go_simp; refine hK _ _ ?_; clear hK K) | (refine wff fun K hK => ?_; go_simp; refine hK _ _ ?_; clear hK K)))
    refine First.wpF_must (fun K hK => ?_)
    go_wp2_with (at_builtin; refine app_rec rfl (.tmp 33) (.tmp 43) rfl (fun k => k < w.heap.size) w.heap.size (.slice vA L1.length vc) L1 (recLogP r.joined r.log, .slice uA5 un5 uc5) _ rfl rfl hR5 hbs5 _ rfl rfl (by have := hL1.out; omega) (by omega) (fun v' w6 hR6 hc6 hk6 => ?_))
    (refine hK _ _ (fun _ => hk6.weaken (fun k hk => (hge k hk).1)) ?_; clear hK K)
    (repeat (first | (refine wfp fun K hK => ?_; go_simp; refine hK _ _ ?_; clear hK K) | (refine wff fun K hK => ?_; go_simp; refine hK _ _ ?_; clear hK K)))
    refine First.wpF_must (fun K hK => ?_)
    go_wp2
    (refine hK _ _ (fun _ => Kp.refl _ _) ?_; clear hK K)
    refine First.wpF_nil ?_
    obtain ⟨vA6, vc6, hv6⟩ := hR6.sl
    go_wp2
    go_ret
    subst hv6
    rw [hSP'.out, hR2'.out]
    obtain ⟨A', c', e', hRc⟩ := hR6.recs (T := fun k => k < w.heap.size) (fun k hk ht => by omega)
    simp only [Value.slice.injEq] at e'
    obtain ⟨rfl, -, rfl⟩ := e'
    exact ⟨_, _, rfl, hRc, ((hbW.trans ((World.below_ext W X).mono hsW)).trans (hb5.mono (by omega))).trans (hc6.low (fun k hk => (hge k hk).1) (by omega))⟩
   ·have d2 : decide ((0 : Int) < r.log.length) = false := decide_eq_false (by omega)
    have d2' : decide (0 < r.log.length) = false := decide_eq_false hl0
    have d3 : decide ((0 : Int) < r.joined) = true := decide_eq_true (hl.resolve_left hl0)
    clear hl hl0
    go_upto_region 7 with fail
    refine wp_region_kp (fun k => w.heap.size ≤ k) [4, 8] [0, 1, 2, 3, 5, 6, 7] [(true, false, 0), (true, false, 1), (true, false, 2), (true, false, 3), (true, true, 4), (true, false, 5), (true, false, 6), (true, false, 7), (true, true, 8), (false, false, 9), (false, false, 10), (false, false, 11), (false, false, 12)] (by kernel_rfl) (by kernel_rfl) (fun X => ?_); simp only [List.map_cons, List.map_nil, List.getD_cons_zero, List.getD_cons_succ]
    have hXX := hXW.below (World.below_ext W X)
    have hBX := hXX.blk
    have ng : ¬(w.heap.size ≤ g) := by omega
    have hEX : Ents (W.ext X) (fun _ => False) Al r.log.length r.log := hXX.ents
    have hRX := hRW.below (World.below_ext W X)
    have hsX := (World.below_ext W X).size
    (repeat (first | (refine wfp fun K hK => ?_; go_simp; refine hK _ _ ?_; clear hK K) | (refine wff fun K hK => ?_; go_simp; refine hK _ _ ?_; clear hK K)))
    (refine first_readG rfl (v := .int .i64 r.joined) (fun w' hw' => ?_) (fun K hK => ?_); rotate_left 1; go_simp; refine hK _ _ ?_; clear hK K; rotate_left 1; (have hB' := Blk.kp hBX hw' ng; have c' := Blk.cell hB'; go_simp))
    (repeat (first | (refine wfp fun K hK => ?_; go_simp; refine hK _ _ ?_; clear hK K) | (refine wff fun K hK => ?_; go_simp; refine hK _ _ ?_; clear hK K)))
    (refine first_readG rfl (v := .slice Al r.log.length cl) (fun w' hw' => ?_) (fun K hK => ?_); rotate_left 1; go_simp; refine hK _ _ ?_; clear hK K; rotate_left 1; (have hB' := Blk.kp hBX hw' ng; have c' := Blk.cell hB'; go_simp))
    (repeat (first | (refine wfp fun K hK => ?_; go_simp; refine hK _ _ ?_; clear hK K) | (refine wff fun K hK => ?_; go_simp; refine hK _ _ ?_; clear hK K)))
    refine First.wpF_must (fun K hK => ?_)
    go_wp2_with (go_at_call 79; (with_reducible refine (hrl _ hEX).mono ?_); rintro e w5 ⟨u5, rfl, hu5, hb5⟩; obtain ⟨uA5, un5, uc5, rfl⟩ := hu5.shape)
    (refine hK _ _ (fun _ => Kp.of_below hb5) ?_; clear hK K)
    have hs5 := hb5.size
    have hR5 := hRX.below hb5
    have hge := ownR_ge hR5
    have hgeX := ownR_ge hRX
    have hbs5 : Bsl w5 (fun k => k < w.heap.size ∨ (Value.slice vA L1.length vc).ownBlock = some k) (.slice uA5 un5 uc5) (recLogP r.joined r.log) := (Bsl.row hu5 (fun k hk => hk) hrb).sub (fun k _ hk => hk.elim (fun h => by omega) (fun e => by have := (hgeX k e).2; omega))
    (repeat (first | (refine wfp fun K hK => ?_; go_simp; refine hK _ _ ?_; clear hK K) | (refine wff fun K hK => ?_; go_simp; refine hK _ _ ?_; clear hK K)))
    refine First.wpF_must (fun K hK => ?_)
    go_wp2
    (refine hK _ _ (fun _ => Kp.of_below (Below.alloc (Below.refl _ _) (Nat.le_refl _) _)) ?_; clear hK K)
    (repeat (first | (refine wfp fun K hK => ?_; go_simp; refine hK _ _ ?_; clear hK K) | (refine wff fun K hK => ?_; go_simp; refine hK _ _ ?_; clear hK K)))
    refine First.wpF_must (fun K hK => ?_)
    go_wp2_with (at_builtin; refine app_rec rfl (.tmp 33) (.tmp 43) rfl (fun k => k < w.heap.size) w.heap.size (.slice vA L1.length vc) L1 (recLogP r.joined r.log, .slice uA5 un5 uc5) _ rfl rfl hR5 hbs5 _ rfl rfl (by have := hL1.out; omega) (by omega) (fun v' w6 hR6 hc6 hk6 => ?_))
    (refine hK _ _ (fun _ => hk6.weaken (fun k hk => (hge k hk).1)) ?_; clear hK K)
    (repeat (first | (refine wfp fun K hK => ?_; go_simp; refine hK _ _ ?_; clear hK K) | (refine wff fun K hK => ?_; go_simp; refine hK _ _ ?_; clear hK K)))
    refine First.wpF_must (fun K hK => ?_)
    go_wp2
    (refine hK _ _ (fun _ => Kp.refl _ _) ?_; clear hK K)
    refine First.wpF_nil ?_
    obtain ⟨vA6, vc6, hv6⟩ := hR6.sl
    go_wp2
    go_ret
    subst hv6
    rw [hSP'.out, hR2'.out]
    obtain ⟨A', c', e', hRc⟩ := hR6.recs (T := fun k => k < w.heap.size) (fun k hk ht => by omega)
    simp only [Value.slice.injEq] at e'
    obtain ⟨rfl, -, rfl⟩ := e'
    exact ⟨_, _, rfl, hRc, ((hbW.trans ((World.below_ext W X).mono hsW)).trans (hb5.mono (by omega))).trans (hc6.low (fun k hk => (hge k hk).1) (by omega))⟩
  ·rw [if_neg hl] at hR2
   have h1 : ¬0 < r.log.length := fun h => hl (.inl h)
   have h2 : ¬0 < r.joined := fun h => hl (.inr h)
   have d2 : decide ((0 : Int) < r.log.length) = false := decide_eq_false (by omega)
   have d2' : decide (0 < r.log.length) = false := decide_eq_false h1
   have d3 : decide ((0 : Int) < r.joined) = false := decide_eq_false h2
   clear h1 h2
   have hR2' := hide hR2
   clear hl hR2
   obtain ⟨vA, vc, hvs⟩ := hRW.sl
   go_wp2
   go_ret
   subst hvs
   rw [hSP'.out, hR2'.out, List.append_nil]
   obtain ⟨A', c', e', hRc⟩ := hRW.recs (T := fun k => k < w.heap.size) (fun k hk ht => by omega)
   simp only [Value.slice.injEq] at e'
   obtain ⟨rfl, -, rfl⟩ := e'
   exact ⟨_, _, rfl, hRc, hbW⟩
 ·have d1 : decide ((0 : Int) < r.v.e) = false := by simpa using hv
  rw [if_neg hv] at hSP
  have hSP' := hide hSP
  clear hv hSP
  go_enter Tryz.func63, Tryz.ntmps63
  go_upto_region 6 with fail
  obtain ⟨v1, hv1⟩ : ∃ v1 : Value, v1 = .slice none 0 0 := ⟨_, rfl⟩
  have hbW : Below w.heap.size w w := Below.refl _ _
  have hRW : OwnR w (fun k => k < w.heap.size) w.heap.size v1 [] := by rw [hv1]; exact OwnR.nil _ _ _
  rw [← hv1]
  clear hv1
  obtain ⟨L1, hLe⟩ : ∃ L1 : List (List Nat), L1 = [] := ⟨_, rfl⟩
  rw [← hLe] at hSP' hRW
  have hL1 : Hid (L1.length ≤ 1) := hide (by rw [hLe]; simp)
  clear hLe
  refine abstr (fun W => Below w.heap.size w W ∧ OwnR W (fun k => k < w.heap.size) w.heap.size v1 L1) ⟨hbW, hRW⟩ (fun W hW => ?_)
  clear hbW hRW
  obtain ⟨hbW, hRW⟩ := hW
  have hXW := hX.below hbW
  have cW := hXW.blk.cell
  have lW := hXW.blk.lt
  have hgl := hX.blk.lt
  have hsW := hbW.size
  by_cases hl : 0 < r.log.length ∨ 0 < r.joined
  ·rw [if_pos hl] at hR2
   have hR2' := hide hR2
   clear hR2
   obtain ⟨vA, vc, hvs⟩ := hRW.sl
   subst hvs
   by_cases hl0 : 0 < r.log.length
   ·have d2 : decide ((0 : Int) < r.log.length) = true := decide_eq_true (by omega)
    have d2' : decide (0 < r.log.length) = true := decide_eq_true hl0
    clear hl hl0
    go_upto_region 7 with fail
    refine wp_region_kp (fun k => w.heap.size ≤ k) [4, 8] [0, 1, 2, 3, 5, 6, 7] [(true, false, 0), (true, false, 1), (true, false, 2), (true, false, 3), (true, true, 4), (true, false, 5), (true, false, 6), (true, false, 7), (true, true, 8), (false, false, 9), (false, false, 10), (false, false, 11), (false, false, 12)] (by kernel_rfl) (by kernel_rfl) (fun X => ?_); simp only [List.map_cons, List.map_nil, List.getD_cons_zero, List.getD_cons_succ]
    have hXX := hXW.below (World.below_ext W X)
    have hBX := hXX.blk
    have ng : ¬(w.heap.size ≤ g) := by omega
    have hEX : Ents (W.ext X) (fun _ => False) Al r.log.length r.log := hXX.ents
    have hRX := hRW.below (World.below_ext W X)
    have hsX := (World.below_ext W X).size
    (repeat (first | (refine wfp fun K hK => ?_; go_simp; refine hK _ _ ?_; clear hK K) | (refine wff fun K hK => ?_; go_simp; refine hK _ _ ?_; clear hK K)))
    (refine first_readG rfl (v := .int .i64 r.joined) (fun w' hw' => ?_) (fun K hK => ?_); rotate_left 1; go_simp; refine hK _ _ ?_; clear hK K; rotate_left 1; (have hB' := Blk.kp hBX hw' ng; have c' := Blk.cell hB'; go_simp))
    (repeat (first | (refine wfp fun K hK => ?_; go_simp; refine hK _ _ ?_; clear hK K) | (refine wff fun K hK => ?_; go_simp; refine hK _ _ ?_; clear hK K)))
    (refine first_readG rfl (v := .slice Al r.log.length cl) (fun w' hw' => ?_) (fun K hK => ?_); rotate_left 1; go_simp; refine hK _ _ ?_; clear hK K; rotate_left 1; (have hB' := Blk.kp hBX hw' ng; have c' := Blk.cell hB'; go_simp))
    (repeat (first | (refine wfp fun K hK => ?_; go_simp; refine hK _ _ ?_; clear hK K) | (refine wff fun K hK => ?_; go_simp; refine hK _ _ ?_; clear hK K)))
    refine First.wpF_must (fun K hK => ?_)
    go_wp2_with (go_at_call 79; (with_reducible refine (hrl _ hEX).mono ?_); rintro e w5 ⟨u5, rfl, hu5, hb5⟩; obtain ⟨uA5, un5, uc5, rfl⟩ := hu5.shape)
    (refine hK _ _ (fun _ => Kp.of_below hb5) ?_; clear hK K)
    have hs5 := hb5.size
    have hR5 := hRX.below hb5
    have hge := ownR_ge hR5
    have hgeX := ownR_ge hRX
    have hbs5 : Bsl w5 (fun k => k < w.heap.size ∨ (Value.slice vA L1.length vc).ownBlock = some k) (.slice uA5 un5 uc5) (recLogP r.joined r.log) := (Bsl.row hu5 (fun k hk => hk) hrb).sub (fun k _ hk => hk.elim (fun h => by omega) (fun e => by have := (hgeX k e).2; omega))
    (repeat (first | (refine wfp fun K hK => ?_; go_simp; refine hK _ _ ?_; clear hK K) | (refine wff fun K hK => ?_; go_simp; refine hK _ _ ?_; clear hK K)))
    refine First.wpF_must (fun K hK => ?_)
    go_wp2
    (refine hK _ _ (fun _ => Kp.of_below (Below.alloc (Below.refl _ _) (Nat.le_refl _) _)) ?_; clear hK K)
    (repeat (first | (refine wfp fun K hK => ?_; go_simp; refine hK _ _ ?_; clear hK K) | (refine wff fun K hK => ?_; go_simp; refine hK _ _ ?_; clear hK K)))
    refine First.wpF_must (fun K hK => ?_)
    go_wp2_with (at_builtin; refine app_rec rfl (.tmp 33) (.tmp 43) rfl (fun k => k < w.heap.size) w.heap.size (.slice vA L1.length vc) L1 (recLogP r.joined r.log, .slice uA5 un5 uc5) _ rfl rfl hR5 hbs5 _ rfl rfl (by have := hL1.out; omega) (by omega) (fun v' w6 hR6 hc6 hk6 => ?_))
    (refine hK _ _ (fun _ => hk6.weaken (fun k hk => (hge k hk).1)) ?_; clear hK K)
    (repeat (first | (refine wfp fun K hK => ?_; go_simp; refine hK _ _ ?_; clear hK K) | (refine wff fun K hK => ?_; go_simp; refine hK _ _ ?_; clear hK K)))
    refine First.wpF_must (fun K hK => ?_)
    go_wp2
    (refine hK _ _ (fun _ => Kp.refl _ _) ?_; clear hK K)
    refine First.wpF_nil ?_
    obtain ⟨vA6, vc6, hv6⟩ := hR6.sl
    go_wp2
    go_ret
    subst hv6
    rw [hSP'.out, hR2'.out]
    obtain ⟨A', c', e', hRc⟩ := hR6.recs (T := fun k => k < w.heap.size) (fun k hk ht => by omega)
    simp only [Value.slice.injEq] at e'
    obtain ⟨rfl, -, rfl⟩ := e'
    exact ⟨_, _, rfl, hRc, ((hbW.trans ((World.below_ext W X).mono hsW)).trans (hb5.mono (by omega))).trans (hc6.low (fun k hk => (hge k hk).1) (by omega))⟩
   ·have d2 : decide ((0 : Int) < r.log.length) = false := decide_eq_false (by omega)
    have d2' : decide (0 < r.log.length) = false := decide_eq_false hl0
    have d3 : decide ((0 : Int) < r.joined) = true := decide_eq_true (hl.resolve_left hl0)
    clear hl hl0
    go_upto_region 7 with fail
    refine wp_region_kp (fun k => w.heap.size ≤ k) [4, 8] [0, 1, 2, 3, 5, 6, 7] [(true, false, 0), (true, false, 1), (true, false, 2), (true, false, 3), (true, true, 4), (true, false, 5), (true, false, 6), (true, false, 7), (true, true, 8), (false, false, 9), (false, false, 10), (false, false, 11), (false, false, 12)] (by kernel_rfl) (by kernel_rfl) (fun X => ?_); simp only [List.map_cons, List.map_nil, List.getD_cons_zero, List.getD_cons_succ]
    have hXX := hXW.below (World.below_ext W X)
    have hBX := hXX.blk
    have ng : ¬(w.heap.size ≤ g) := by omega
    have hEX : Ents (W.ext X) (fun _ => False) Al r.log.length r.log := hXX.ents
    have hRX := hRW.below (World.below_ext W X)
    have hsX := (World.below_ext W X).size
    (repeat (first | (refine wfp fun K hK => ?_; go_simp; refine hK _ _ ?_; clear hK K) | (refine wff fun K hK => ?_; go_simp; refine hK _ _ ?_; clear hK K)))
    (refine first_readG rfl (v := .int .i64 r.joined) (fun w' hw' => ?_) (fun K hK => ?_); rotate_left 1; go_simp; refine hK _ _ ?_; clear hK K; rotate_left 1; (have hB' := Blk.kp hBX hw' ng; have c' := Blk.cell hB'; go_simp))
    (repeat (first | (refine wfp fun K hK => ?_; go_simp; refine hK _ _ ?_; clear hK K) | (refine wff fun K hK => ?_; go_simp; refine hK _ _ ?_; clear hK K)))
    (refine first_readG rfl (v := .slice Al r.log.length cl) (fun w' hw' => ?_) (fun K hK => ?_); rotate_left 1; go_simp; refine hK _ _ ?_; clear hK K; rotate_left 1; (have hB' := Blk.kp hBX hw' ng; have c' := Blk.cell hB'; go_simp))
    (repeat (first | (refine wfp fun K hK => ?_; go_simp; refine hK _ _ ?_; clear hK K) | (refine wff fun K hK => ?_; go_simp; refine hK _ _ ?_; clear hK K)))
    refine First.wpF_must (fun K hK => ?_)
    go_wp2_with (go_at_call 79; (with_reducible refine (hrl _ hEX).mono ?_); rintro e w5 ⟨u5, rfl, hu5, hb5⟩; obtain ⟨uA5, un5, uc5, rfl⟩ := hu5.shape)
    (refine hK _ _ (fun _ => Kp.of_below hb5) ?_; clear hK K)
    have hs5 := hb5.size
    have hR5 := hRX.below hb5
    have hge := ownR_ge hR5
    have hgeX := ownR_ge hRX
    have hbs5 : Bsl w5 (fun k => k < w.heap.size ∨ (Value.slice vA L1.length vc).ownBlock = some k) (.slice uA5 un5 uc5) (recLogP r.joined r.log) := (Bsl.row hu5 (fun k hk => hk) hrb).sub (fun k _ hk => hk.elim (fun h => by omega) (fun e => by have := (hgeX k e).2; omega))
    (repeat (first | (refine wfp fun K hK => ?_; go_simp; refine hK _ _ ?_; clear hK K) | (refine wff fun K hK => ?_; go_simp; refine hK _ _ ?_; clear hK K)))
    refine First.wpF_must (fun K hK => ?_)
    go_wp2
    (refine hK _ _ (fun _ => Kp.of_below (Below.alloc (Below.refl _ _) (Nat.le_refl _) _)) ?_; clear hK K)
    (repeat (first | (refine wfp fun K hK => ?_; go_simp; refine hK _ _ ?_; clear hK K) | (refine wff fun K hK => ?_; go_simp; refine hK _ _ ?_; clear hK K)))
    refine First.wpF_must (fun K hK => ?_)
    go_wp2_with (at_builtin; refine app_rec rfl (.tmp 33) (.tmp 43) rfl (fun k => k < w.heap.size) w.heap.size (.slice vA L1.length vc) L1 (recLogP r.joined r.log, .slice uA5 un5 uc5) _ rfl rfl hR5 hbs5 _ rfl rfl (by have := hL1.out; omega) (by omega) (fun v' w6 hR6 hc6 hk6 => ?_))
    (refine hK _ _ (fun _ => hk6.weaken (fun k hk => (hge k hk).1)) ?_; clear hK K)
    (repeat (first | (refine wfp fun K hK => ?_; go_simp; refine hK _ _ ?_; clear hK K) | (refine wff fun K hK => ?_; go_simp; refine hK _ _ ?_; clear hK K)))
    refine First.wpF_must (fun K hK => ?_)
    go_wp2
    (refine hK _ _ (fun _ => Kp.refl _ _) ?_; clear hK K)
    refine First.wpF_nil ?_
    obtain ⟨vA6, vc6, hv6⟩ := hR6.sl
    go_wp2
    go_ret
    subst hv6
    rw [hSP'.out, hR2'.out]
    obtain ⟨A', c', e', hRc⟩ := hR6.recs (T := fun k => k < w.heap.size) (fun k hk ht => by omega)
    simp only [Value.slice.injEq] at e'
    obtain ⟨rfl, -, rfl⟩ := e'
    exact ⟨_, _, rfl, hRc, ((hbW.trans ((World.below_ext W X).mono hsW)).trans (hb5.mono (by omega))).trans (hc6.low (fun k hk => (hge k hk).1) (by omega))⟩
  ·rw [if_neg hl] at hR2
   have h1 : ¬0 < r.log.length := fun h => hl (.inl h)
   have h2 : ¬0 < r.joined := fun h => hl (.inr h)
   have d2 : decide ((0 : Int) < r.log.length) = false := decide_eq_false (by omega)
   have d2' : decide (0 < r.log.length) = false := decide_eq_false h1
   have d3 : decide ((0 : Int) < r.joined) = false := decide_eq_false h2
   clear h1 h2
   have hR2' := hide hR2
   clear hl hR2
   obtain ⟨vA, vc, hvs⟩ := hRW.sl
   go_wp2
   go_ret
   subst hvs
   rw [hSP'.out, hR2'.out, List.append_nil]
   obtain ⟨A', c', e', hRc⟩ := hRW.recs (T := fun k => k < w.heap.size) (fun k hk ht => by omega)
   simp only [Value.slice.injEq] at e'
   obtain ⟨rfl, -, rfl⟩ := e'
   exact ⟨_, _, rfl, hRc, hbW⟩
end Go.Proofs.YtjhcgnmibnjocaaGreat
