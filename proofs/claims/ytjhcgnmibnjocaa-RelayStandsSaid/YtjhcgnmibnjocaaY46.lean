import Derived.Test.YtjhcgnmibnjocaaY45
/-! Are two logs, two messages, the same? -/
namespace Go.Proofs.Ytjhcgnmibnjocaa
open Go.RowKit Go.Maps
set_option linter.unusedVariables false
set_option linter.unusedSimpArgs false
theorem take_succ_eq {α : Type} {l l' : List α} {j : Nat} {x y : α} (h : l.take j = l'.take j) (h1 : l[j]? = some x) (h2 : l'[j]? = some y) (e : x = y) : l.take (j + 1) = l'.take (j + 1) := by
  rw [List.take_add_one, List.take_add_one, h1, h2, h, e]
set_option maxRecDepth 100000 in
set_option maxHeartbeats 4000000 in
theorem dsamelog_any {T T' : Nat → Prop} (A A' : Option Addr) (n n' c c' : Nat) (l l' : List Ent) (w : World) (h : Ents w T A n l) (h' : Ents w T' A' n' l') (hn : n ≤ 1000000) :
    Calls Try.prog 73 #[.slice A n c, .slice A' n' c'] w fun e w' => e = .returned (.bool (decide (l = l'))) ∧ Below w.heap.size w w' := by
  have hln := h.len
  have hln' := h'.len
  by_cases hnn : n = n'
  · subst hnn
    have d0 : ((n : Int) != (n : Int)) = false := by simp
    go_enter Try.func73, Try.ntmps73
    go_wp2
    go_loopw [5] (fun vi wr => ∃ j : Nat, j ≤ n ∧ vi = .int .i64 (j : Int) ∧ l.take j = l'.take j ∧ Below w.heap.size w wr) (fun vi _ => ((n : Int) - intOf vi).toNat)
    case atStart => exact ⟨0, by omega, rfl, rfl, Below.refl _ _⟩
    case round =>
      obtain ⟨j, hj, rfl, heq, hb⟩ := hrel
      obtain ⟨wo, rfl⟩ : ∃ wo : World, wo = wr := ⟨_, rfl⟩
      have hso := hb.size
      have hEq := hide heq
      clear heq
      by_cases hlt : j < n
      · have hlj : (j : Int) < n := by omega
        have hE := h.kp (Kp.of_below hb)
        have hE' := h'.kp (Kp.of_below hb)
        obtain ⟨b, o, A2, c2, x, rfl, hbl, hg, hxo, m1, m2, hB⟩ := hE.at_ hlt
        obtain ⟨b', o', A2', c2', x', rfl, hbl', hg', hxo', m1', m2', hB'⟩ := hE'.at_ hlt
        have hcv := fun X : Ext => (hB.kp (Kp.of_below (World.below_ext wo X))).conv
        have hcv' := fun X : Ext => (hB'.kp (Kp.of_below (World.below_ext wo X))).conv
        have hG := hide (And.intro hg hg')
        clear hg hg' hE hE' hB hB'
        by_cases hxx : x = x'
        · have e1 : (x.e != x'.e) = false := by rw [hxx]; simp
          have e2 : ((strOf x.t).toList == (strOf x'.t).toList) = true := by rw [hxx]; simp
          have hx := hide hxx
          clear hxx
          go_wp2
          refine wp_region_ext_lit (by kernel_rfl) (by kernel_rfl) ?_
          (repeat (first | ((with_reducible refine wpQuiet_step (fun K hK => ?_)); go_simp; first | ((with_reducible refine hK _ ?_); clear hK K) | (apply Exists.intro; (with_reducible refine ⟨fun _ => ?_, hK _ ?_⟩); skip; clear hK K)) | ((with_reducible refine quiet_skipN ?_ (fun K hK => ?_)); (rfl); go_simp; (with_reducible refine hK _ ?_); clear hK K)))
          (with_reducible refine wpQuiet_nil ?_); intro _ hw'; obtain ⟨X, hw''⟩ := hw'; subst hw''
          go_wp2
          go_roundw
          case rel => exact ⟨j + 1, by omega, by go_num, take_succ_eq hEq.out hG.out.1 hG.out.2 hx.out, Below.ext hb hso X⟩
          case measure => simp [intOf]; omega
        · have hf : decide (l = l') = false := decide_eq_false fun e => by
            have h1 := hG.out.1
            rw [e, hG.out.2] at h1
            exact hxx (Option.some.inj h1).symm
          by_cases he : x.e = x'.e
          · have ht : x.t ≠ x'.t := fun e => hxx (by obtain ⟨xe, xt⟩ := x; obtain ⟨ye, yt⟩ := x'; simp only at he e; rw [he, e])
            have e1 : (x.e != x'.e) = false := by simpa using he
            have e2 : ((strOf x.t).toList == (strOf x'.t).toList) = false := by
              rw [beq_eq_false_iff_ne]
              exact fun e => ht (strOf_inj hxo.by_ hxo'.by_ e)
            clear he ht hxx
            go_wp2
            refine wp_region_ext_lit (by kernel_rfl) (by kernel_rfl) ?_
            (repeat (first | ((with_reducible refine wpQuiet_step (fun K hK => ?_)); go_simp; first | ((with_reducible refine hK _ ?_); clear hK K) | (apply Exists.intro; (with_reducible refine ⟨fun _ => ?_, hK _ ?_⟩); skip; clear hK K)) | ((with_reducible refine quiet_skipN ?_ (fun K hK => ?_)); (rfl); go_simp; (with_reducible refine hK _ ?_); clear hK K)))
            (with_reducible refine wpQuiet_nil ?_); intro _ hw'; obtain ⟨X, hw''⟩ := hw'; subst hw''
            go_wp2
            go_ret
            exact ⟨by rw [hf] <;> rfl, Below.ext hb hso X⟩
          · have e1 : (x.e != x'.e) = true := by simpa using he
            clear he hxx
            go_wp2
            refine wp_region_ext_lit (by kernel_rfl) (by kernel_rfl) ?_
            (repeat (first | ((with_reducible refine wpQuiet_step (fun K hK => ?_)); go_simp; first | ((with_reducible refine hK _ ?_); clear hK K) | (apply Exists.intro; (with_reducible refine ⟨fun _ => ?_, hK _ ?_⟩); skip; clear hK K)) | ((with_reducible refine quiet_skipN ?_ (fun K hK => ?_)); (rfl); go_simp; (with_reducible refine hK _ ?_); clear hK K)))
            (with_reducible refine wpQuiet_nil ?_); intro _ hw'; obtain ⟨X, hw''⟩ := hw'; subst hw''
            go_wp2
            go_ret
            exact ⟨by rw [hf] <;> rfl, Below.ext hb hso X⟩
      · obtain rfl : j = n := by omega
        go_wp2
        go_ret
        have := hEq.out
        rw [List.take_of_length_le (by omega), List.take_of_length_le (by omega)] at this
        exact ⟨by rw [decide_eq_true this] <;> rfl, hb⟩
  · have d0 : ((n : Int) != (n' : Int)) = true := by simp; omega
    have hf : decide (l = l') = false := decide_eq_false fun e => hnn (by rw [← hln, ← hln', e])
    rw [hf]
    go_enter Try.func73, Try.ntmps73
    go_wp2
    go_ret
    exact ⟨rfl, Below.refl _ _⟩
set_option maxRecDepth 100000 in
set_option maxHeartbeats 4000000 in
theorem dsamemsg_any {T T' : Nat → Prop} (m : Mg) (vm vl vm' vl' : Value) (w : World) (h : MgW w T vm vl m) (h' : MgW w T' vm' vl' m) (hn : m.log.length ≤ 1000000) (hv : m.v.l.length ≤ 1000000) :
    Calls Try.prog 28 #[.agg #[.int .i64 m.k, .int .i64 m.e, .int .i64 m.v.e, .int .i64 m.v.p, vm, .int .i64 m.i, .int .i64 m.s, vl], .agg #[.int .i64 m.k, .int .i64 m.e, .int .i64 m.v.e, .int .i64 m.v.p, vm', .int .i64 m.i, .int .i64 m.s, vl']] w fun e w' => e = .returned (.bool true) ∧ Below w.heap.size w w' := by
  obtain ⟨A, c, B, d, rfl, rfl, hr, _, hE⟩ := h.sl
  obtain ⟨A', c', B', d', rfl, rfl, hr', _, hE'⟩ := h'.sl
  have hb0 : Below w.heap.size w ((w.alloc (.cells #[.int .i64 m.k, .int .i64 m.e, .int .i64 m.v.e, .int .i64 m.v.p, (.slice A m.v.l.length c), .int .i64 m.i, .int .i64 m.s, (.slice B m.log.length d)] 35)).alloc (.cells #[.int .i64 m.k, .int .i64 m.e, .int .i64 m.v.e, .int .i64 m.v.p, (.slice A' m.v.l.length c'), .int .i64 m.i, .int .i64 m.s, (.slice B' m.log.length d')] 35)) := (Below.alloc (Below.refl _ _) (Nat.le_refl _) _).alloc (by simp) _
  have hz1 := (Blk.new w 35 #[.int .i64 m.k, .int .i64 m.e, .int .i64 m.v.e, .int .i64 m.v.p, (.slice A m.v.l.length c), .int .i64 m.i, .int .i64 m.s, (.slice B m.log.length d)]).alloc (.cells #[.int .i64 m.k, .int .i64 m.e, .int .i64 m.v.e, .int .i64 m.v.p, (.slice A' m.v.l.length c'), .int .i64 m.i, .int .i64 m.s, (.slice B' m.log.length d')] 35)
  have hz2 := Blk.made w (.cells #[.int .i64 m.k, .int .i64 m.e, .int .i64 m.v.e, .int .i64 m.v.p, (.slice A m.v.l.length c), .int .i64 m.i, .int .i64 m.s, (.slice B m.log.length d)] 35) 35 #[.int .i64 m.k, .int .i64 m.e, .int .i64 m.v.e, .int .i64 m.v.p, (.slice A' m.v.l.length c'), .int .i64 m.i, .int .i64 m.s, (.slice B' m.log.length d')]
  have hS1 := same_any m.v.e m.v.p A A' m.v.l.length c c' m.v.l _ (Reads.kp hr (Kp.of_below (S := fun _ => False) hb0) (fun _ _ _ h => h)) (Reads.kp hr' (Kp.of_below (S := fun _ => False) hb0) (fun _ _ _ h => h)) (by omega)
  have hS2 := fun w2 (hb : Below w.heap.size w w2) => dsamelog_any B B' m.log.length m.log.length d d' m.log m.log w2 (hE.kp (Kp.of_below hb)) (hE'.kp (Kp.of_below hb)) hn
  simp only [decide_true] at hS2
  have q1 : (m.k == m.k) = true := by simp
  go_enter Try.func28, Try.ntmps28
  go_wp2_with (first | (go_at_call 72; (with_reducible refine hS1.mono ?_); rintro e w2 ⟨rfl, hb2⟩; have hb02 := hb0.trans (hb2.mono hb0.size); have hz1' := hz1.below hb2 hz1.lt; have hz2' := hz2.below hb2 hz2.lt; have c1 := hz1'.cell; have c2 := hz2'.cell; have l1 := hz1'.lt; have l2 := hz2'.lt) | (go_at_call 73; (with_reducible refine (hS2 _ hb02).mono ?_); rintro e w3 ⟨rfl, hb3⟩))
  go_ret
  exact ⟨rfl, hb02.trans (hb3.mono hb02.size)⟩
end Go.Proofs.Ytjhcgnmibnjocaa
