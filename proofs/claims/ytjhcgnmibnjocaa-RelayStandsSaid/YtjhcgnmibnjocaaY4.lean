import Derived.Test.YtjhcgnmibnjocaaY3
/-! A relay promises a view. -/
namespace Go.Proofs.Ytjhcgnmibnjocaa
open Go.RowKit Go.Maps
set_option linter.unusedVariables false
set_option linter.unusedSimpArgs false
theorem settle_ok {r : Rl} (h : r.ok) : (settleP r).ok := by
  unfold settleP
  split
  · cases hm : leastP r.acks r.v.l r.log.length with
    | none => exact h
    | some m =>
      have hle : m ≤ r.log.length := by
        have : ∀ (l : List Int) (k m : Nat), leastP r.acks l k = some m → m ≤ k := by
          intro l
          induction l with
          | nil => intro k m h; simp only [leastP, Option.some.injEq] at h; omega
          | cons x l ih =>
            intro k m h
            unfold leastP at h
            cases hx : r.acks.lookup x with
            | none => rw [hx] at h; cases h
            | some y => rw [hx] at h; have := ih _ _ h; omega
        exact this _ _ _ hm
      exact ⟨h.id, h.v, h.n, h.log, h.j, (by have := h.s; have := h.n; show max r.sure m ≤ 4096; omega), h.ak, h.an⟩
  · exact h
theorem acked_ok {n : Int} {k : Nat} {l : List (Int × Nat)} (h : ∀ x ∈ l, x.2 ≤ 4096 ∧ 0 ≤ x.1 ∧ x.1 < 8) (hk : k ≤ 4096) (hn : 0 ≤ n ∧ n < 8) : ∀ x ∈ ackedL n k l, x.2 ≤ 4096 ∧ 0 ≤ x.1 ∧ x.1 < 8 := fun x hx => by
  rcases List.mem_cons.1 hx with rfl | hx
  · exact ⟨hk, hn⟩
  · exact h x (List.mem_filter.1 hx).1
theorem promise_ok {r : Rl} (h : r.ok) {v : Vi} (hv : v.right = true) : (promiseP r v).ok := by
  unfold promiseP
  refine settle_ok ?_
  have hb := right_bd hv
  split
  · exact ⟨h.id, .inr hv, h.n, h.log, ⟨by show 0 ≤ v.e; omega, hb.2.1⟩, h.s, acked_ok (fun x hx => by cases hx) h.n h.id, acked_nodup List.nodup_nil⟩
  · exact ⟨h.id, .inr hv, h.n, h.log, h.j, h.s, (fun x hx => by cases hx), List.nodup_nil⟩
theorem nodup_len : ∀ (l m : List Int), l.Nodup → (∀ x ∈ l, x ∈ m) → l.length ≤ m.length
  | [], _, _, _ => Nat.zero_le _
  | x :: l, m, hd, h => by
    rw [List.nodup_cons] at hd
    have h1 := nodup_len l (m.erase x) hd.2 (fun y hy => (List.mem_erase_of_ne (fun e : y = x => hd.1 (by rw [← e]; exact hy))).2 (h y (List.mem_cons_of_mem _ hy)))
    rw [List.length_erase_of_mem (h x List.mem_cons_self)] at h1
    have := List.length_pos_of_mem (h x List.mem_cons_self)
    simp only [List.length_cons]
    omega
theorem ack_len {l : List (Int × Nat)} (h : ∀ x ∈ l, x.2 ≤ 4096 ∧ 0 ≤ x.1 ∧ x.1 < 8) (hd : (l.map (·.1)).Nodup) : l.length ≤ 8 := by
  have h1 := nodup_len (l.map (·.1)) ((List.range 8).map fun n : Nat => (n : Int)) hd (fun x hx => by
    obtain ⟨y, hy, rfl⟩ := List.mem_map.1 hx
    have := h y hy
    exact List.mem_map.2 ⟨y.1.toNat, List.mem_range.2 (by omega), by omega⟩)
  simpa using h1
theorem Calls.abstr {P : Program} {f : FuncId} {args : Array Value} {W : World} {Q : Ending → World → Prop} (p : World → Prop) (hp : p W) (h : ∀ W', p W' → Calls P f args W' Q) : Calls P f args W Q := h W hp
/-- A relay with other members and another map. -/
theorem RelX.renew {w W : World} {S T : Nat → Prop} {g : Nat} {r r1 : Rl} {Am : Option Addr} {cm : Nat} {vl : Value} {mb : Nat} (h : RelX w S T g r Am cm vl mb) (ho : Only w W g) {A1 : Option Addr} {c1 m1 : Nat} (hB : Blk W g 95 #[.int .i64 r1.id, .int .i64 r1.v.e, .int .i64 r1.v.p, .slice A1 r1.v.l.length c1, vl, .int .i64 r1.joined, .int .i64 (r1.sure : Int), .map (some m1), .bool r1.act])
    (rd : Reads W W.heap.size 1 A1 r1.v.l.length (ints r1.v.l)) (mt : 0 < r1.v.l.length → ∀ a, A1 = some a → w.heap.size ≤ a.block ∧ a.block ≠ m1) (mp : Mp W m1 r1.acks) (hm : w.heap.size ≤ m1) (e2 : r1.log = r.log) :
    RelX W (fun k => S k ∨ k = m1) (fun k => T k ∨ k = m1) g r1 A1 c1 vl m1 := by
  have hk : Kp T w W := Kp.of_only ho (h.sub _ h.g)
  have hg := h.blk.lt
  refine ⟨hB, rd, fun h0 a ha ht => ?_, ?_, fun k hv => .inl (h.vs k hv), mp, .inr rfl, by omega, h.vg, fun hv => ?_, .inl h.g, fun k hs => hs.elim (fun hs => .inl (h.sub k hs)) .inr, fun k ht => ?_⟩
  · obtain ⟨h1, h2⟩ := mt h0 a ha
    rcases ht with ht | ht
    · have := h.lt _ ht; omega
    · exact h2 ht
  · rw [e2]
    exact (h.own.sub (fun k hk ht => ht.elim id (fun e => by omega))).keep (hk.weaken fun k => .inl) (fun k hv hl => ho.block k hl fun e => h.vg (e ▸ hv))
  · have := h.lt _ (h.sub _ (h.vs _ hv)); omega
  · rcases ht with ht | rfl
    · exact Nat.lt_of_lt_of_le (h.lt _ ht) hk.size
    · exact mp.lt
/-- .. with other acks. -/
theorem RelX.acks {w W : World} {S T : Nat → Prop} {g : Nat} {r r1 : Rl} {Am : Option Addr} {cm : Nat} {vl : Value} {mb : Nat} (h : RelX w S T g r Am cm vl mb) (ho : Only w W mb) (mp : Mp W mb r1.acks)
    (e1 : r1 = { r with acks := r1.acks }) : RelX W S T g r1 Am cm vl mb := by
  have hk : Kp T w W := Kp.of_only ho (h.sub _ h.ms)
  rw [e1]
  exact ⟨Blk.only h.blk ho (fun e => h.mg e.symm), Reads.kp h.rd hk h.mt, h.mt, h.own.keep hk (fun k hv hl => ho.block k hl fun e => h.vm (e ▸ hv)), h.vs, mp, h.ms, h.mg, h.vg, h.vm, h.g, h.sub, fun k ht => Nat.lt_of_lt_of_le (h.lt k ht) ho.size⟩
set_option maxRecDepth 100000 in
set_option maxHeartbeats 4000000 in
theorem promise_any {S T : Nat → Prop} {g : Nat} {r : Rl} {Am : Option Addr} {cm : Nat} {vl : Value} {mb : Nat} (A : Option Addr) (c : Nat) (v : Vi) (w : World) (h : RelX w S T g r Am cm vl mb) (hok : r.ok) (hv : v.right = true) (hr : Reads w w.heap.size 1 A v.l.length (ints v.l)) :
    Calls Try.prog 42 #[.pointer (some ⟨g, 0, none⟩), .agg #[.int .i64 v.e, .int .i64 v.p, .slice A v.l.length c]] w fun e w' => e = .returned (.tuple #[]) ∧
      (∃ A1 c1 m1, RelX w' (fun k => S k ∨ k = m1) (fun k => T k ∨ k = m1) g (promiseP r v) A1 c1 vl m1 ∧ w.heap.size ≤ m1) ∧ Only w w' g := by
  have hmm := @run_makeMap Try.prog
  have hb := right_bd hv
  have hl8 := rising_len hb.2.2.1
  have hB0 := h.blk.alloc (.cells #[.int .i64 v.e, .int .i64 v.p, .slice A v.l.length c] 39)
  have hP0 := Blk.new w 39 #[.int .i64 v.e, .int .i64 v.p, .slice A v.l.length c]
  have hk := clone_any A v.l.length c v.l (w.alloc (.cells #[.int .i64 v.e, .int .i64 v.p, .slice A v.l.length c] 39)) ((hr.alloc (Nat.le_refl _) _).more (by simp)) (by omega)
  have l0 := h.blk.lt
  have hp : w.heap.size ≠ g := by omega
  obtain ⟨r1, hr1⟩ : ∃ r1 : Rl, r1 = { r with v := v, act := false, acks := [] } := ⟨_, rfl⟩
  have HP : Hid (promiseP r v = settleP (if r1.leads then { r with v := v, act := false, joined := v.e, acks := ackedL r.id r.log.length [] } else r1)) := show _ = _ by rw [hr1]; rfl
  have hok1 : r1.ok := by rw [hr1]; exact ⟨hok.id, .inr hv, hok.n, hok.log, hok.j, hok.s, (fun x hx => by cases hx), List.nodup_nil⟩
  obtain ⟨ms, _, hown, _⟩ := h.own.ex
  obtain ⟨Al, cl, hvl, hcl⟩ := own_sl hown
  clear hown
  subst hvl
  rcases hl' : r1.leads
  rotate_left 1
  · skip
    go_enter Try.func42, Try.ntmps42
    go_wp2_with (first | (go_at_call 40; (with_reducible refine hk.mono ?_); rintro e w1 ⟨⟨u, rfl, ho⟩, hb1⟩; obtain ⟨A1, c1, rfl, hc1⟩ := own_sl ho; have hB1 := hB0.below hb1 (by simp; omega); have hP1 := hP0.below hb1 (by simp); have cB1 := hB1.cell; have fB1 := hB1.frozen; have lB1 := hB1.lt; have cP1 := hP1.cell; have fP1 := hP1.frozen; have lP1 := hP1.lt; have hs1 := hb1.size; (simp only [World.size_alloc] at hs1); have hOW : Only w w1 g := (Only.alloc (Only.refl w g) _).trans (Only.of_below hb1)) | (go_at_call 44; refine Calls.abstr (fun W => RelX W (fun k => S k ∨ k = w1.heap.size) (fun k => T k ∨ k = w1.heap.size) g r1 A1 c1 (.slice Al r.log.length cl) w1.heap.size ∧ Only w W g ∧ Blk W w.heap.size 39 #[.int .i64 v.e, .int .i64 v.p, .slice A1 v.l.length c1]) ?h1 (fun w2 hw2 => ?_); rotate_left 1; obtain ⟨hX2, ho2, hP2⟩ := hw2; (with_reducible refine (leads_any w2 hX2).mono ?_); rintro e w3 ⟨rfl, hb3⟩; rw [hl']; have hX3 := hX2.below hb3; have hP3 := hP2.below hb3 hP2.lt; have cX3 := hX3.blk.cell; have fX3 := hX3.blk.frozen; have lX3 := hX3.blk.lt; have cP3 := hP3.cell; have lP3 := hP3.lt))
    case h1 => (have hB2 := hB1.far (p := ⟨w.heap.size, 2, none⟩) (Ne.symm hp) (.slice A1 v.l.length c1); exact ⟨h.renew (by (repeat' (first | with_reducible exact hOW | with_reducible exact Only.refl _ _ | with_reducible refine Only.set_ ?_ ?_ _ | with_reducible refine Only.alloc ?_ _ | with_reducible refine Only.ext ?_ _ | exact .inl rfl | (right; first | omega | (simp [World.size_ext]; done) | (simp [World.size_ext]; omega))))) (by rw [hr1]; (repeat' (first | with_reducible exact hB2 | with_reducible refine Blk.ext ?_ _ | with_reducible refine Blk.alloc ?_ _ | with_reducible apply Blk.set_to | with_reducible refine Blk.far ?_ ?_ _ | rfl | (simp [World.size_ext]; done) | (simp [World.size_ext]; omega)))) (by rw [hr1]; exact Reads.of_own (own_alloc (own_set (own_set (own_set (own_set (own_set (own_set ho (by simp) _) (by simp; omega) _) (by simp; omega) _) (by simp; omega) _) (by simp; omega) _) (by simp; omega) _) _)) (by intro _ a ha; have h1 := own_addr ho a ha; (simp only [World.size_alloc] at h1); omega) (by have := Mp.made ((((((w1.setCell ⟨w.heap.size, 2, none⟩ (.slice A1 v.l.length c1)).setCell ⟨g, 1, none⟩ (.int .i64 v.e)).setCell ⟨g, 2, none⟩ (.int .i64 v.p)).setCell ⟨g, 3, none⟩ (.slice A1 v.l.length c1)).setCell ⟨g, 8, none⟩ (.bool false)).setCell ⟨g, 7, none⟩ (.map (some w1.heap.size))); rw [hr1]; simpa using this) (by omega) (by rw [hr1]), (by (repeat' (first | with_reducible exact hOW | with_reducible exact Only.refl _ _ | with_reducible refine Only.set_ ?_ ?_ _ | with_reducible refine Only.alloc ?_ _ | with_reducible refine Only.ext ?_ _ | exact .inl rfl | (right; first | omega | (simp [World.size_ext]; done) | (simp [World.size_ext]; omega))))), (by (repeat' (first | with_reducible exact hP1 | with_reducible refine Blk.ext ?_ _ | with_reducible refine Blk.alloc ?_ _ | with_reducible apply Blk.set_to | with_reducible refine Blk.far ?_ ?_ _ | rfl | (simp [World.size_ext]; done) | (simp [World.size_ext]; omega))))⟩)
    refine abstr (fun W => RelX W (fun k => S k ∨ k = w1.heap.size) (fun k => T k ∨ k = w1.heap.size) g { r1 with joined := v.e } A1 c1 (.slice Al r.log.length cl) w1.heap.size ∧ Only w W g) ⟨?_, ?_⟩ (fun w4 hw4 => ?_)
    rotate_left 2
    · obtain ⟨hX4, ho4⟩ := hw4
      clear hX2 ho2 hP2 hX3 hP3 cX3 fX3 lX3 cP3 lP3 hB1 hP1 cB1 fB1 lB1 cP1 fP1 lP1 hB0 hP0
      have cX4 := hX4.blk.cell
      have lX4 := hX4.blk.lt
      have e0 : r1.acks = [] := by rw [hr1]
      have e1 : r1.log.length = r.log.length := by rw [hr1]
      have e2 : r1.id = r.id := by rw [hr1]
      refine First.wp_region_first_ext [3, 7, 11] [0, 1, 2, 4, 5, 6, 8, 9, 10, 12] [(true, false, 0), (true, false, 1), (true, false, 2), (true, true, 3), (true, false, 4), (true, false, 5), (true, false, 6), (true, true, 7), (true, false, 8), (true, false, 9), (true, false, 10), (true, true, 11), (true, false, 12), (false, false, 13)] (by kernel_rfl) (by kernel_rfl) (fun X => ?_); simp only [List.map_cons, List.map_nil, List.getD_cons_zero, List.getD_cons_succ]
      have hmp : Mp (w4.ext X) w1.heap.size [] := by
        have := hX4.mp.kp (Kp.of_below (S := fun _ => False) (World.below_ext w4 X)) (fun h => h)
        rwa [show ({ r1 with joined := v.e } : Rl).acks = [] from e0] at this
      (repeat (first | (refine First.wpF_pure (fun K hK => ?_); go_simp; first | (refine hK _ _ ?_; clear hK K) | (apply Exists.intro; refine ⟨fun _ => ?_, hK _ _ ?_⟩; fail)) | (refine First.wpF_free (fun K hK => ?_); go_simp; first | (refine hK _ _ ?_; clear hK K))))
      refine First.wpF_must (fun K hK => ?_)
      go_wp2_with (at_mapUpdate; refine wpList_put rfl _ _ _ rfl w1.heap.size [] rfl hmp r.id r.log.length rfl rfl (by have := hok.id; unfold I64; omega) (by have := hok.n; omega) (by simp) List.nodup_nil (fun w5 hm5 ho5 => ?_))
      (refine hK _ _ (fun hnd => by first | exact Bool.noConfusion hnd | assumption | with_reducible exact grown_alloc _ _ | with_reducible exact First.Grown.refl _ | with_reducible exact First.Grown.cat _ _ _ | with_reducible exact First.Grown.ext _ _) ?_; clear hK K)
      refine First.wpF_nil ?_
      have hX5 : RelX w5 (fun k => S k ∨ k = w1.heap.size) (fun k => T k ∨ k = w1.heap.size) g { r1 with joined := v.e, acks := ackedL r.id r.log.length [] } A1 c1 (.slice Al r.log.length cl) w1.heap.size :=
        (hX4.below (World.below_ext w4 X)).acks ho5 hm5 rfl
      have hok5 : ({ r1 with joined := v.e, acks := ackedL r.id r.log.length [] } : Rl).ok := ⟨hok1.id, hok1.v, hok1.n, hok1.log, ⟨by show 0 ≤ v.e; omega, hb.2.1⟩, hok1.s, acked_ok (fun x hx => by cases hx) hok.n hok.id, acked_nodup List.nodup_nil⟩
      have hk5 : Only w w5 g := ⟨ho5.os.trans ho4.os, ho5.tape.trans ho4.tape, ho5.output.trans ho4.output, Nat.le_trans ho4.size (by have := ho5.size; simp only [World.size_ext] at this; omega), fun k hk hg => ((ho5.block k (by have := ho4.size; simp only [World.size_ext]; omega) (by omega)).trans (World.heap_ext (by have := ho4.size; omega))).trans (ho4.block k hk hg)⟩
      have hE : ({ r1 with joined := v.e, acks := ackedL r.id r.log.length [] } : Rl) = { r with v := v, act := false, joined := v.e, acks := ackedL r.id r.log.length [] } := by rw [hr1]
      have hcs := settle_any w5 hX5 hok5
      rw [hE] at hcs
      clear hX5 hX4 cX4 hmp hm5
      go_wp2_with (go_at_call 46; (with_reducible refine hcs.mono ?_); rintro e w6 ⟨rfl, hX6, ho6⟩)
      refine bodyPost_end (v := .tuple #[]) (by simp [results, Try.results42, go_sem] <;> rfl) rfl ⟨rfl, ?_⟩
      rw [HP.out, if_pos hl']
      exact ⟨⟨A1, c1, _, hX6, by omega⟩, hk5.trans ho6⟩
    · exact hX3.cells (by (repeat' (first | with_reducible exact hX3.blk | with_reducible exact Only.refl _ _ | with_reducible refine Only.set_ ?_ ?_ _ | with_reducible refine Only.alloc ?_ _ | with_reducible refine Only.ext ?_ _ | exact .inl rfl | (right; first | omega | (simp [World.size_ext]; done) | (simp [World.size_ext]; omega))))) (by (repeat' (first | with_reducible exact hX3.blk | with_reducible refine Blk.ext ?_ _ | with_reducible refine Blk.alloc ?_ _ | with_reducible apply Blk.set_to | with_reducible refine Blk.far ?_ ?_ _ | rfl | (simp [World.size_ext]; done) | (simp [World.size_ext]; omega)))) rfl rfl rfl
    · exact (ho2.trans (Only.of_below hb3)).set_ (.inl rfl) _
  · skip
    go_enter Try.func42, Try.ntmps42
    go_wp2_with (first | (go_at_call 40; (with_reducible refine hk.mono ?_); rintro e w1 ⟨⟨u, rfl, ho⟩, hb1⟩; obtain ⟨A1, c1, rfl, hc1⟩ := own_sl ho; have hB1 := hB0.below hb1 (by simp; omega); have hP1 := hP0.below hb1 (by simp); have cB1 := hB1.cell; have fB1 := hB1.frozen; have lB1 := hB1.lt; have cP1 := hP1.cell; have fP1 := hP1.frozen; have lP1 := hP1.lt; have hs1 := hb1.size; (simp only [World.size_alloc] at hs1); have hOW : Only w w1 g := (Only.alloc (Only.refl w g) _).trans (Only.of_below hb1)) | (go_at_call 44; refine Calls.abstr (fun W => RelX W (fun k => S k ∨ k = w1.heap.size) (fun k => T k ∨ k = w1.heap.size) g r1 A1 c1 (.slice Al r.log.length cl) w1.heap.size ∧ Only w W g ∧ Blk W w.heap.size 39 #[.int .i64 v.e, .int .i64 v.p, .slice A1 v.l.length c1]) ?h1 (fun w2 hw2 => ?_); rotate_left 1; obtain ⟨hX2, ho2, hP2⟩ := hw2; (with_reducible refine (leads_any w2 hX2).mono ?_); rintro e w3 ⟨rfl, hb3⟩; rw [hl']; have hX3 := hX2.below hb3; have hP3 := hP2.below hb3 hP2.lt; have cX3 := hX3.blk.cell; have fX3 := hX3.blk.frozen; have lX3 := hX3.blk.lt; have cP3 := hP3.cell; have lP3 := hP3.lt) | (go_at_call 46; (with_reducible refine (settle_any w3 hX3 hok1).mono ?_); rintro e w6 ⟨rfl, hX6, ho6⟩))
    case h1 => (have hB2 := hB1.far (p := ⟨w.heap.size, 2, none⟩) (Ne.symm hp) (.slice A1 v.l.length c1); exact ⟨h.renew (by (repeat' (first | with_reducible exact hOW | with_reducible exact Only.refl _ _ | with_reducible refine Only.set_ ?_ ?_ _ | with_reducible refine Only.alloc ?_ _ | with_reducible refine Only.ext ?_ _ | exact .inl rfl | (right; first | omega | (simp [World.size_ext]; done) | (simp [World.size_ext]; omega))))) (by rw [hr1]; (repeat' (first | with_reducible exact hB2 | with_reducible refine Blk.ext ?_ _ | with_reducible refine Blk.alloc ?_ _ | with_reducible apply Blk.set_to | with_reducible refine Blk.far ?_ ?_ _ | rfl | (simp [World.size_ext]; done) | (simp [World.size_ext]; omega)))) (by rw [hr1]; exact Reads.of_own (own_alloc (own_set (own_set (own_set (own_set (own_set (own_set ho (by simp) _) (by simp; omega) _) (by simp; omega) _) (by simp; omega) _) (by simp; omega) _) (by simp; omega) _) _)) (by intro _ a ha; have h1 := own_addr ho a ha; (simp only [World.size_alloc] at h1); omega) (by have := Mp.made ((((((w1.setCell ⟨w.heap.size, 2, none⟩ (.slice A1 v.l.length c1)).setCell ⟨g, 1, none⟩ (.int .i64 v.e)).setCell ⟨g, 2, none⟩ (.int .i64 v.p)).setCell ⟨g, 3, none⟩ (.slice A1 v.l.length c1)).setCell ⟨g, 8, none⟩ (.bool false)).setCell ⟨g, 7, none⟩ (.map (some w1.heap.size))); rw [hr1]; simpa using this) (by omega) (by rw [hr1]), (by (repeat' (first | with_reducible exact hOW | with_reducible exact Only.refl _ _ | with_reducible refine Only.set_ ?_ ?_ _ | with_reducible refine Only.alloc ?_ _ | with_reducible refine Only.ext ?_ _ | exact .inl rfl | (right; first | omega | (simp [World.size_ext]; done) | (simp [World.size_ext]; omega))))), (by (repeat' (first | with_reducible exact hP1 | with_reducible refine Blk.ext ?_ _ | with_reducible refine Blk.alloc ?_ _ | with_reducible apply Blk.set_to | with_reducible refine Blk.far ?_ ?_ _ | rfl | (simp [World.size_ext]; done) | (simp [World.size_ext]; omega))))⟩)
    refine bodyPost_end (v := .tuple #[]) (by simp [results, Try.results42, go_sem] <;> rfl) rfl ⟨rfl, ?_⟩
    rw [HP.out, if_neg (by rw [hl']; decide)]
    exact ⟨⟨A1, c1, _, hX6, by omega⟩, (ho2.trans (Only.of_below hb3)).trans ho6⟩
end Go.Proofs.Ytjhcgnmibnjocaa
