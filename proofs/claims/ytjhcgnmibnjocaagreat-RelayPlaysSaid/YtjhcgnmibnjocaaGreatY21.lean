import Derived.Test.YtjhcgnmibnjocaaGreatY20
import Derived.Deep.CutBlock
import Derived.Deep.DeepCutAuto
/-! A relay takes a whole log. -/
namespace Go.Proofs.YtjhcgnmibnjocaaGreat
open Go.RowKit Go.Maps
set_option linter.unusedVariables false
set_option linter.unusedSimpArgs false
theorem Kp.chain {S S1 : Nat → Prop} {w w1 w2 : World} (h : Kp S w w1) (k : Kp S1 w1 w2) (hs : ∀ k, S1 k → S k ∨ w.heap.size ≤ k) : Kp S w w2 :=
 ⟨k.os.trans h.os, k.tape.trans h.tape, k.output.trans h.output, Nat.le_trans h.size k.size, fun i hi hn => (k.block i (Nat.lt_of_lt_of_le hi h.size) (fun e => (hs i e).elim hn (fun h => by omega))).trans (h.block i hi hn)⟩
theorem RelX.later {w w' : World} {S T T' : Nat → Prop} {g : Nat} {r : Rl} {Am : Option Addr} {cm : Nat} {vl : Value} {mb : Nat} (h : RelX w S T g r Am cm vl mb) (hb : Below w.heap.size w w') (h1 : ∀ k, T' k → T k ∨ w.heap.size ≤ k) (h2 : ∀ k, S k → T' k) (h3 : ∀ k, T' k → k < w'.heap.size) : RelX w' S T' g r Am cm vl mb := by
 have h0 := h.below hb
 refine ⟨h0.blk, h0.rd, fun hl a ha ht => ?_, ?_, h.vs, h0.mp, h.ms, h.mg, h.vg, h.vm, h.g, h2, h3⟩
 ·obtain ⟨a', e', hl', _⟩ := h.rd.2 hl
  rw [ha] at e'; cases e'
  rcases h1 _ ht with h' | h'
  ·exact h.mt hl a ha h'
  ·omega
 ·exact (h.own.sub (T' := T') (fun k hk ht => (h1 k ht).elim id (fun h => by omega))).keep (Kp.of_below hb) (fun k hv hl => hb.block k hl)
theorem RelX.fresh {W W3 : World} {S T : Nat → Prop} {g : Nat} {r : Rl} {Am : Option Addr} {cm : Nat} {vl v' : Value} {mb : Nat} (h : RelX W S T g r Am cm vl mb) (hb : Below W.heap.size W W3) (l' : List Ent) (j : Int) (ho : OwnE W3 (Old W.heap.size v') W.heap.size v' l') :
  RelX ((W3.setCell ⟨g, 5, none⟩ (.int .i64 j)).setCell ⟨g, 4, none⟩ v') (fun k => S k ∨ v'.ownBlock = some k) (fun k => T k ∨ v'.ownBlock = some k) g { r with joined := j, log := l' } Am cm v' mb ∧ Kp S W ((W3.setCell ⟨g, 5, none⟩ (.int .i64 j)).setCell ⟨g, 4, none⟩ v') ∧ (∀ k, v'.ownBlock = some k → W.heap.size ≤ k) := by
 have hg := h.blk.lt
 have hnew : ∀ k, v'.ownBlock = some k → W.heap.size ≤ k ∧ k < W3.heap.size := fun k hk => by
  obtain ⟨ms, _, ho', _⟩ := ho
  rcases ho'.2 with ⟨e, _⟩ | ⟨g', cap, cur, e, hb', hh, _⟩
  ·rw [e] at hk; cases hk
  ·rw [e] at hk; cases hk; exact ⟨hb', Blk.lt hh⟩
 have h3 := h.below hb
 have hml := h.mp.lt
 have hvg : v'.ownBlock ≠ some g := fun e => by have := (hnew _ e).1; omega
 have hvm : v'.ownBlock ≠ some mb := fun e => by have := (hnew _ e).1; omega
 have hset : ∀ k, k ≠ g → ((W3.setCell ⟨g, 5, none⟩ (.int .i64 j)).setCell ⟨g, 4, none⟩ v').heap[k]? = W3.heap[k]? := fun k hk => (Below.heap_setCell _ _ _ k hk).trans (Below.heap_setCell _ _ _ k hk)
 have hk3 : Kp S W3 ((W3.setCell ⟨g, 5, none⟩ (.int .i64 j)).setCell ⟨g, 4, none⟩ v') := ⟨rfl, rfl, rfl, by simp, fun k _ hn => hset k fun e => hn (by rw [e]; exact h.g)⟩
 refine ⟨⟨?_, Reads.kp h3.rd (hk3.weaken h.sub) h.mt, fun h0 a ha ht => ?_, ?_, fun k hk => .inr hk, h3.mp.kp (S := fun k => k = g) ⟨rfl, rfl, rfl, by simp, fun k _ hn => hset k hn⟩ h.mg, .inl h.ms, h.mg, hvg, hvm, .inl h.g, fun k hk => hk.imp (h.sub k) id, fun k hk => ?_⟩, (Kp.of_below hb).trans hk3, fun k hk => (hnew k hk).1⟩
 ·exact Blk.set_to (Blk.set_ h3.blk 5 (.int .i64 j)) rfl
 ·have hal : a.block < W.heap.size := by
   obtain ⟨a', e', hl, _⟩ := h.rd.2 h0
   rw [ha] at e'; cases e'; exact hl
  rcases ht with ht | ht
  ·exact h.mt h0 a ha ht
  ·have := (hnew _ ht).1; omega
 ·obtain ⟨ms, e, ho', hm⟩ := ho
  have hkO : Kp (Old W.heap.size v') W3 ((W3.setCell ⟨g, 5, none⟩ (.int .i64 j)).setCell ⟨g, 4, none⟩ v') := ⟨rfl, rfl, rfl, by simp, fun k _ hn => hset k fun e => hn (.inl (by rw [e]; exact hg))⟩
  refine ⟨ms, e, ⟨ho'.1, ?_⟩, (hm.kp hkO).sub fun k _ hk => hk.elim (fun hk => .inl (h.lt k hk)) .inr⟩
  rcases ho'.2 with h' | ⟨g', cap, cur, e, hb', hh, rr⟩
  ·exact .inl h'
  ·exact .inr ⟨g', cap, cur, e, Nat.zero_le _, (hset g' (fun e' => hvg (by rw [e, ← e']; rfl))).trans hh, rr⟩
 ·simp only [World.size_setCell]
  rcases hk with hk | hk
  ·exact Nat.lt_of_lt_of_le (h.lt k hk) hb.size
  ·exact (hnew k hk).2
theorem offer1_log (r : Rl) (m : Mg) : (offer1 r m).log = r.log := by
 unfold offer1
 split
 ·unfold promiseP
  rw [(settle_v _).2.2.1]
  split <;> rfl
 ·rfl
theorem OwnR.recs' {w : World} {T : Nat → Prop} {base : Nat} {v : Value} {l : List (List Nat)} (h : OwnR w T base v l) (hT : ∀ k, v.ownBlock = some k → ¬T k) : ∃ A c, v = .slice A l.length c ∧ Recs w T A l.length l := by
 obtain ⟨ms, e, ho, hm⟩ := h
 obtain ⟨A, c, rfl, _⟩ := own_sl ho
 exact ⟨A, c, rfl, ⟨ms, e, Reads.of_own ho, fun m hmm => (hm m hmm).sub (fun k _ ht => .inl ht)⟩, rfl, fun h0 a ha => hT _ (by
  rw [ha]
  rcases ho.2 with ⟨_, h'⟩ | ⟨g', cap, cur, e', _⟩
  ·omega
  ·cases e'; cases ha; rfl)⟩
theorem OwnR.lt {w : World} {T : Nat → Prop} {base : Nat} {v : Value} {l : List (List Nat)} (h : OwnR w T base v l) : ∀ k, v.ownBlock = some k → base ≤ k ∧ k < w.heap.size := fun k hk => by
 obtain ⟨ms, e, ho, hm⟩ := h
 rcases ho.2 with ⟨e', _⟩ | ⟨g', cap, cur, e', hb', hh, rr⟩
 ·rw [e'] at hk; cases hk
 ·rw [e'] at hk; cases hk; exact ⟨hb', Blk.lt hh⟩
theorem OwnR.kp {w w' : World} {T R : Nat → Prop} {base : Nat} {v : Value} {l : List (List Nat)} (h : OwnR w T base v l) (hk : Kp R w w') (h1 : ∀ k, R k → T k) (h2 : ∀ k, v.ownBlock = some k → ¬R k) : OwnR w' T base v l := by
 obtain ⟨ms, e, ho, hm⟩ := h
 refine ⟨ms, e, ⟨ho.1, ?_⟩, hm.kp (hk.weaken fun k hr => .inl (h1 k hr))⟩
 rcases ho.2 with h' | ⟨g', cap, cur, e', hb', hh, rr⟩
 ·exact .inl h'
 ·exact .inr ⟨g', cap, cur, e', hb', (hk.block g' (Blk.lt hh) (h2 g' (by rw [e']; rfl))).trans hh, rr⟩
theorem OwnR.sub {w : World} {T T' : Nat → Prop} {base : Nat} {v : Value} {l : List (List Nat)} (h : OwnR w T base v l) (hs : ∀ k, k < w.heap.size → T' k → T k) : OwnR w T' base v l := by
 obtain ⟨ms, e, ho, hm⟩ := h
 exact ⟨ms, e, ho, hm.sub fun k hk ht => ht.imp (hs k hk) id⟩
theorem offer1_ok {r : Rl} (h : r.ok) {m : Mg} (hv : m.v.right = true) : (offer1 r m).ok := by
 unfold offer1
 split
 ·exact promise_ok h hv
 ·exact h
set_option maxRecDepth 100000 in
set_option maxHeartbeats 16000000 in
theorem offer_yes {S T : Nat → Prop} {g : Nat} {r : Rl} (f : Int) (m : Mg) (vm vl' : Value) (w : World) (h : RelW w S T g r) (hm : MgW w S vm vl' m) (h1 : m.v.right = true) (d2 : (m.v.e != m.e) = false) (d3 : (m.v.p != f) = false) (d4 : (f == r.id) = false) (h5 : hasB m.v.l r.id = true)
  (d6 : decide ((4096 : Int) < m.log.length) = false) (d7 : decide (m.e < r.v.e) = false) (h8 : ((m.e == r.v.e) = false ∧ decide (r.v.e < m.e) = true) ∨ ((m.e == r.v.e) = true ∧ (r.v.p != f) = false ∧ decide (r.v.e < m.e) = false)) :
  Calls Tryz.prog 48 #[.pointer (some ⟨g, 0, none⟩), .int .i64 f, .agg #[.int .i64 m.k, .int .i64 m.e, .int .i64 m.v.e, .int .i64 m.v.p, vm, .int .i64 m.i, .int .i64 m.s, vl']] w fun e w' => Aft w w' S T g (hearP (offer2 (offer1 r m) m) m.s) fun T' =>
   ∃ A1 n1 c1 A2 n2 c2, e = .returned (.tuple #[.slice A1 n1 c1, .slice A2 n2 c2]) ∧ Recs w' T' A1 n1 (offerR r m ++ offer2R (offer1 r m) m) ∧ Outs w' T' A2 n2 (hearO (offer2 (offer1 r m) m) f) := by
 have hW := h
 obtain ⟨r1, hr1⟩ : ∃ r1, r1 = offer1 r m := ⟨_, rfl⟩
 obtain ⟨R6, hR6e⟩ : ∃ R6, R6 = offerR r m := ⟨_, rfl⟩
 rw [← hr1, ← hR6e]
 replace hr1 := hide hr1
 replace hR6e := hide hR6e
 obtain ⟨hok, Am, cm, vl, mb, hX⟩ := h
 obtain ⟨Av, cv, Bv, dv, rfl, rfl, hrm, hnm, hEm⟩ := hm.sl
 obtain ⟨ms, _, hown, _⟩ := id hX.own
 obtain ⟨Al, cl, hvl, hcl⟩ := own_sl hown
 clear hown
 subst hvl
 have c0 := hX.blk.cell
 have l0 := hX.blk.lt
 have hl8 := rising_len (right_bd h1).2.2.1
 have hX0 := hX.below (Below.alloc (Below.alloc (Below.refl _ _) (Nat.le_refl _) (.cells #[.int .i64 m.k, .int .i64 m.e, .int .i64 m.v.e, .int .i64 m.v.p, (.slice Av m.v.l.length cv), .int .i64 m.i, .int .i64 m.s, (.slice Bv m.log.length dv)] 60)) (by simp) (.cells #[.int .i64 m.v.e, .int .i64 m.v.p, .slice Av m.v.l.length cv] 44))
 have hP := (Blk.new w 60 #[.int .i64 m.k, .int .i64 m.e, .int .i64 m.v.e, .int .i64 m.v.p, (.slice Av m.v.l.length cv), .int .i64 m.i, .int .i64 m.s, (.slice Bv m.log.length dv)]).alloc (.cells #[.int .i64 m.v.e, .int .i64 m.v.p, .slice Av m.v.l.length cv] 44)
 have hV := Blk.made w (.cells #[.int .i64 m.k, .int .i64 m.e, .int .i64 m.v.e, .int .i64 m.v.p, (.slice Av m.v.l.length cv), .int .i64 m.i, .int .i64 m.s, (.slice Bv m.log.length dv)] 60) 44 #[.int .i64 m.v.e, .int .i64 m.v.p, .slice Av m.v.l.length cv]
 have hr0 := fun X => (((hrm.alloc (Nat.le_refl _) (.cells #[.int .i64 m.k, .int .i64 m.e, .int .i64 m.v.e, .int .i64 m.v.p, (.slice Av m.v.l.length cv), .int .i64 m.i, .int .i64 m.s, (.slice Bv m.log.length dv)] 60)).alloc (by simp) (.cells #[.int .i64 m.v.e, .int .i64 m.v.p, .slice Av m.v.l.length cv] 44)).ext (by simp; omega) X).more (B' := (((w.alloc (.cells #[.int .i64 m.k, .int .i64 m.e, .int .i64 m.v.e, .int .i64 m.v.p, (.slice Av m.v.l.length cv), .int .i64 m.i, .int .i64 m.s, (.slice Bv m.log.length dv)] 60)).alloc (.cells #[.int .i64 m.v.e, .int .i64 m.v.p, .slice Av m.v.l.length cv] 44)).ext X).heap.size) (by simp [World.size_ext]; omega)
 have hRt := fun X => vright_any m.v.e m.v.p Av m.v.l.length cv m.v.l _ (hr0 X) (by omega)
 have hCt := fun X => Calls.toBelow (has_any Av m.v.l.length cv m.v.l r.id _ (hr0 X) (by omega))
 have h1v := hide h1
 rw [h5] at hCt
 unfold Vi.right at h1
 rw [h1] at hRt
 clear h1 h5
 go_enter Tryz.func48, Tryz.ntmps48
 go_upto_block 0 with fail
 go_cut [6] (fun s6 wx => ∃ (S1 : Nat → Prop) (Am1 : Option Addr) (cm1 mb1 : Nat) (A6 : Option Addr) (n6 c6 : Nat), s6 = .slice A6 n6 c6 ∧ RelX wx S1 (fun k => (T k ∨ S1 k) ∨ s6.ownBlock = some k) g r1 Am1 cm1 (.slice Al r.log.length cl) mb1 ∧ Kp S w wx ∧ (∀ k, S1 k → S k ∨ w.heap.size ≤ k) ∧ (∀ k, S k → S1 k) ∧ OwnR wx (fun k => T k ∨ S1 k) w.heap.size s6 R6 ∧ (∀ k, s6.ownBlock = some k → ¬(T k ∨ S1 k)) ∧ (¬S1 w.heap.size ∧ s6.ownBlock ≠ some w.heap.size) ∧ Blk wx w.heap.size 60 #[.int .i64 m.k, .int .i64 m.e, .int .i64 m.v.e, .int .i64 m.v.p, (.slice Av m.v.l.length cv), .int .i64 m.i, .int .i64 m.s, (.slice Bv m.log.length dv)])
 case first =>
  rcases h8 with ⟨d8, d10⟩ | ⟨d8, d9, d10⟩
  ·skip
   go_wp2_with fail
   refine wp_region_ext_lit (by kernel_rfl) (by kernel_rfl) ?_
   (repeat (first | ((with_reducible refine wpQuiet_step (fun K hK => ?_)); go_simp; first | ((with_reducible refine hK _ ?_); clear hK K) | (apply Exists.intro; (with_reducible refine ⟨fun _ => ?_, hK _ ?_⟩); (first | (go_at_call 26; exact Calls.ext_of (hRt _)) | (go_at_call 50; exact Calls.ext_of (hCt _))); clear hK K)) | ((with_reducible refine quiet_skipN ?_ (fun K hK => ?_)); (rfl); go_simp; (with_reducible refine hK _ ?_); clear hK K)))
   (with_reducible refine wpQuiet_nil ?_); intro _ hw'; obtain ⟨Y, hw''⟩ := hw'; subst hw''
   go_wp2_with fail
   refine wp_region_ext_lit (by kernel_rfl) (by kernel_rfl) ?_
   (repeat (first | ((with_reducible refine wpQuiet_step (fun K hK => ?_)); go_simp; first | ((with_reducible refine hK _ ?_); clear hK K) | (apply Exists.intro; (with_reducible refine ⟨fun _ => ?_, hK _ ?_⟩); (first | (go_at_call 26; exact Calls.ext_of (hRt _)) | (go_at_call 50; exact Calls.ext_of (hCt _))); clear hK K)) | ((with_reducible refine quiet_skipN ?_ (fun K hK => ?_)); (rfl); go_simp; (with_reducible refine hK _ ?_); clear hK K)))
   (with_reducible refine wpQuiet_nil ?_); intro _ hw'; obtain ⟨Z, hw''⟩ := hw'; subst hw''
   go_wp2_with fail
   refine wp_region_ext_lit (by kernel_rfl) (by kernel_rfl) ?_
   (repeat (first | ((with_reducible refine wpQuiet_step (fun K hK => ?_)); go_simp; first | ((with_reducible refine hK _ ?_); clear hK K) | (apply Exists.intro; (with_reducible refine ⟨fun _ => ?_, hK _ ?_⟩); (first | (go_at_call 26; exact Calls.ext_of (hRt _)) | (go_at_call 50; exact Calls.ext_of (hCt _))); clear hK K)) | ((with_reducible refine quiet_skipN ?_ (fun K hK => ?_)); (rfl); go_simp; (with_reducible refine hK _ ?_); clear hK K)))
   (with_reducible refine wpQuiet_nil ?_); intro _ hw'; obtain ⟨U, hw''⟩ := hw'; subst hw''
   refine abstr (fun W => RelX W S T g r Am cm (.slice Al r.log.length cl) mb ∧ Below w.heap.size w W ∧ Blk W w.heap.size 60 #[.int .i64 m.k, .int .i64 m.e, .int .i64 m.v.e, .int .i64 m.v.p, (.slice Av m.v.l.length cv), .int .i64 m.i, .int .i64 m.s, (.slice Bv m.log.length dv)] ∧ Blk W (w.heap.size + 1) 44 #[.int .i64 m.v.e, .int .i64 m.v.p, .slice Av m.v.l.length cv]) ⟨((hX0.below (World.below_ext _ Y)).below (World.below_ext _ Z)).below (World.below_ext _ U), by (repeat' (first | with_reducible (first | exact Below.refl _ _ | refine Below.ext ?_ ?_ _ | refine Below.alloc ?_ ?_ _ | refine Below.setCell ?_ ?_ _ | refine Below.drew ?_ | assumption) | (simp [World.size_ext]; done) | (simp [World.size_ext]; omega))), ((hP.ext Y).ext Z).ext U, ((hV.ext Y).ext Z).ext U⟩ (fun w1 hw1 => ?_)
   obtain ⟨hX1, hb1, hP1, hV1⟩ := hw1
   have hgl := hX.blk.lt
   have lT := hX.lt
   have hsS := hX.sub
   have hgS := hX.g
   have e1 := hide <| show r1 = promiseP r m.v by rw [hr1.out]; unfold offer1; rw [if_pos (by simpa using d10)]
   have e2 := hide <| show R6 = [recPromiseP m.v] by rw [hR6e.out]; unfold offerR; rw [if_pos (by simpa using d10)]
   clear c0 l0 hX0 hP hV hr0 hRt hCt hX
   have c1 := hX1.blk.cell
   have l1 := hX1.blk.lt
   have cV1 := hV1.cell
   have lV1 := hV1.lt
   have hr1 := (hrm.below hb1).more hb1.size
   have hAg : 0 < m.v.l.length → ∀ a, Av = some a → a.block ≠ g := fun h0 a ha e => hnm h0 a ha (by rw [e]; exact hgS)
   have hs1 := hb1.size
   go_wp2_with (first | (go_at_call 27; (with_reducible refine (promise_any Av cv m.v w1 hX1 hok h1v.out hr1).mono ?_); rintro e w2 ⟨rfl, ⟨A2, c2, m2, hX2, hm2⟩, ho2⟩; have hP2 := Blk.only hP1 ho2 (by omega); have hV2 := Blk.only hV1 ho2 (by omega); have cV2 := hV2.cell; have lV2 := hV2.lt) | (go_at_call 28; (with_reducible refine (recPromise_any Av cv m.v w2 (Reads.only hr1 ho2 hAg) h1v.out).mono ?_); rintro e w3 ⟨u3, rfl, hu3, hb3⟩; obtain ⟨uA, un, uc, rfl⟩ := hu3.shape; have hs3 := hb3.size; have hbs : Bsl w3 (fun k => (T k ∨ (S k ∨ k = m2)) ∨ (Value.slice none 0 0).ownBlock = some k) (.slice uA un uc) (recPromiseP m.v) := (Bsl.row hu3 (T := fun k => k < w2.heap.size) (fun k hk => hk) (recPromise_by h1v.out)).sub (fun k _ hk => hk.elim (fun hk => hk.elim (fun hk => hX2.lt k (.inl hk)) (fun hk => hk.elim (fun hk => hX2.lt k (.inl (hsS k hk))) (fun hk => hX2.lt k (.inr hk)))) (fun e => by cases e))) | (at_builtin; refine app_rec rfl (.tmp 92) (.tmp 95) rfl (fun k => T k ∨ (S k ∨ k = m2)) w.heap.size (.slice none 0 0) [] (recPromiseP m.v, .slice uA un uc) _ rfl rfl (OwnR.nil _ _ _) hbs _ rfl rfl (by simp) (by have := ho2.size; omega) (fun v' w4 hR4 hc4 hk4' => ?_)))
   have hb4 : Below w3.heap.size w3 w4 := ⟨hc4.os, hc4.tape, hc4.output, hc4.size, fun k hk => hc4.block k hk (by simp [Value.ownBlock])⟩
   obtain ⟨A4, n4, c4, rfl⟩ : ∃ A n c, v' = .slice A n c := by
    obtain ⟨ms', _, ho', _⟩ := hR4
    obtain ⟨A', c', e', _⟩ := own_sl ho'
    exact ⟨A', _, c', e'⟩
   go_wp2_with fail
   go_meet
   case rel =>
    have hs2 := ho2.size
    refine ⟨fun k => S k ∨ k = m2, A2, c2, m2, A4, n4, c4, rfl, ?_, ?_, fun k hk => hk.elim .inl (fun e => .inr (by omega)), fun k hk => .inl hk, by rw [e2.out]; exact hR4, fun k hk ht => ?_, ⟨fun h => h.elim (fun h => by have := lT _ (hsS _ h); omega) (fun e => by omega), fun hk => by
     rcases hc4.lies with e | ⟨b, e, hb⟩
     ·rw [e] at hk; cases hk
     ·rw [e] at hk; have := Option.some.inj hk; omega⟩, (hP2.below hb3 hP2.lt).below hb4 (hP2.below hb3 hP2.lt).lt⟩
    ·rw [e1.out]
     have hown4 : ∀ k, (Value.slice A4 n4 c4).ownBlock = some k → w3.heap.size ≤ k ∧ k < w4.heap.size := fun k hk => ⟨by
      rcases hc4.lies with e | ⟨b, e, hb⟩
      ·rw [e] at hk; cases hk
      ·rw [e] at hk; cases hk; exact hb, (hR4.lt k hk).2⟩
     have hs4 := hb4.size
     exact (hX2.later (hb3.trans (hb4.mono hs3)) (T' := fun k => (T k ∨ (S k ∨ k = m2)) ∨ (Value.slice A4 n4 c4).ownBlock = some k) (fun k hk => hk.elim (fun hk => hk.elim (fun h => .inl (.inl h)) (fun hk => hk.elim (fun h => .inl (.inl (hsS k h))) (fun h => .inl (.inr h)))) (fun h => .inr (by have := (hown4 k h).1; omega))) (fun k hk => .inl (.inr hk)) (fun k hk => hk.elim (fun hk => by
      have : k < w2.heap.size := hk.elim (fun h => hX2.lt k (.inl h)) (fun hk => hk.elim (fun h => hX2.lt k (.inl (hsS k h))) (fun h => hX2.lt k (.inr h)))
      omega) (fun h => (hown4 k h).2)))
    ·exact (((Kp.of_below hb1).trans (Kp.of_only ho2 hgS)).trans (Kp.of_below hb3)).trans (Kp.of_below hb4)
    ·rcases hc4.lies with e | ⟨b, e, hb⟩
     ·rw [e] at hk; cases hk
     ·rw [e] at hk
      have hkb := Option.some.inj hk
      have : k < w2.heap.size := by
       rcases ht with ht | ht | ht
       ·exact hX2.lt k (.inl ht)
       ·exact hX2.lt k (.inl (hsS k ht))
       ·exact hX2.lt k (.inr ht)
      omega
  ·skip
   go_wp2_with fail
   refine wp_region_ext_lit (by kernel_rfl) (by kernel_rfl) ?_
   (repeat (first | ((with_reducible refine wpQuiet_step (fun K hK => ?_)); go_simp; first | ((with_reducible refine hK _ ?_); clear hK K) | (apply Exists.intro; (with_reducible refine ⟨fun _ => ?_, hK _ ?_⟩); (first | (go_at_call 26; exact Calls.ext_of (hRt _)) | (go_at_call 50; exact Calls.ext_of (hCt _))); clear hK K)) | ((with_reducible refine quiet_skipN ?_ (fun K hK => ?_)); (rfl); go_simp; (with_reducible refine hK _ ?_); clear hK K)))
   (with_reducible refine wpQuiet_nil ?_); intro _ hw'; obtain ⟨Y, hw''⟩ := hw'; subst hw''
   go_wp2_with fail
   refine wp_region_ext_lit (by kernel_rfl) (by kernel_rfl) ?_
   (repeat (first | ((with_reducible refine wpQuiet_step (fun K hK => ?_)); go_simp; first | ((with_reducible refine hK _ ?_); clear hK K) | (apply Exists.intro; (with_reducible refine ⟨fun _ => ?_, hK _ ?_⟩); (first | (go_at_call 26; exact Calls.ext_of (hRt _)) | (go_at_call 50; exact Calls.ext_of (hCt _))); clear hK K)) | ((with_reducible refine quiet_skipN ?_ (fun K hK => ?_)); (rfl); go_simp; (with_reducible refine hK _ ?_); clear hK K)))
   (with_reducible refine wpQuiet_nil ?_); intro _ hw'; obtain ⟨Z, hw''⟩ := hw'; subst hw''
   go_wp2_with fail
   refine wp_region_ext_lit (by kernel_rfl) (by kernel_rfl) ?_
   (repeat (first | ((with_reducible refine wpQuiet_step (fun K hK => ?_)); go_simp; first | ((with_reducible refine hK _ ?_); clear hK K) | (apply Exists.intro; (with_reducible refine ⟨fun _ => ?_, hK _ ?_⟩); (first | (go_at_call 26; exact Calls.ext_of (hRt _)) | (go_at_call 50; exact Calls.ext_of (hCt _))); clear hK K)) | ((with_reducible refine quiet_skipN ?_ (fun K hK => ?_)); (rfl); go_simp; (with_reducible refine hK _ ?_); clear hK K)))
   (with_reducible refine wpQuiet_nil ?_); intro _ hw'; obtain ⟨U, hw''⟩ := hw'; subst hw''
   go_wp2_with fail
   go_meet
   case rel =>
    have e1 : r1 = r := by rw [hr1.out]; unfold offer1; rw [if_neg (by simpa using d10)]
    have e2 : R6 = [] := by rw [hR6e.out]; unfold offerR; rw [if_neg (by simpa using d10)]
    refine ⟨S, Am, cm, mb, none, 0, 0, rfl, ?_, Kp.of_below (by (repeat' (first | with_reducible (first | exact Below.refl _ _ | refine Below.ext ?_ ?_ _ | refine Below.alloc ?_ ?_ _ | refine Below.setCell ?_ ?_ _ | refine Below.drew ?_ | assumption) | (simp [World.size_ext]; done) | (simp [World.size_ext]; omega)))), fun k hk => .inl hk, fun k hk => hk, by rw [e2]; exact OwnR.nil _ _ _, fun k hk => (by cases hk), ⟨(fun h => by have := hX.lt _ (hX.sub _ h); omega), (fun h => by cases h)⟩, ((hP.ext Y).ext Z).ext U⟩
    rw [e1]
    exact (((hX0.below (World.below_ext _ Y)).below (World.below_ext _ Z)).below (World.below_ext _ U)).widen (fun k hk => hk.elim (fun hk => hk.elim id (hX.sub k)) (fun hk => by cases hk)) (fun k hk => .inl (.inr hk))
 case rest =>
  obtain ⟨S1, Am1, cm1, mb1, A6, n6, c6, rfl, hX1, hk1, hS1, hSS, hR6, hn6, ⟨hpS, hPs⟩, hP1⟩ := hcut
  have hok1 : r1.ok := by rw [hr1.out]; exact offer1_ok hok h1v.out
  have hlg : r1.log.length = r.log.length := by rw [hr1.out, offer1_log]
  have hn4 : m.log.length ≤ 4096 := by have := of_decide_eq_false d6; omega
  have hE1 : Ents wc S1 Bv m.log.length m.log := (hEm.sub (T' := S1) (fun k hk hs => (hS1 k hs).elim id (fun h => by omega))).kp (hk1.weaken hSS)
  have lw := hX.blk.lt
  have hR6l : R6.length ≤ 1000000 := by rw [hR6e.out]; unfold offerR; split <;> simp
  have lww := hk1.size
  have hS1T : ∀ k, S1 k → T k ∨ S1 k := fun k hk => .inr hk
  clear hX0 hP hV hr0 hRt hCt c0 l0 hrm hnm hm d2 d3 d4 d7 h8 hEm h1v
  have c1 := hX1.blk.cell
  have l1 := hX1.blk.lt
  have cP1 := hP1.cell
  have lP1 := hP1.lt
  cases ht : takes r1 m with
  | false =>
   have t1 : (r1.joined != r1.v.e) = false := by
    unfold takes at ht; simp at ht; simpa using ht.1
   have t2 : decide ((r.log.length : Int) ≤ m.log.length) = false := by
    unfold takes at ht; simp at ht; simp; omega
   have t3 : decide (r.log.length ≤ m.log.length) = false := by have := of_decide_eq_false t2; exact decide_eq_false (by omega)
   have t4 : ¬(r.log.length ≤ m.log.length) := of_decide_eq_false t3
   have e1 := hide <| show offer2 r1 m = r1 by unfold offer2; rw [ht]; rfl
   have e2 := hide <| show offer2R r1 m = [] by unfold offer2R; rw [ht]; rfl
   clear ht
   go_wp2_with fail
   refine wp_region_ext_lit (by kernel_rfl) (by kernel_rfl) ?_
   (repeat (first | ((with_reducible refine wpQuiet_step (fun K hK => ?_)); go_simp; first | ((with_reducible refine hK _ ?_); clear hK K) | (apply Exists.intro; (with_reducible refine ⟨fun _ => ?_, hK _ ?_⟩); skip; clear hK K)) | ((with_reducible refine quiet_skipN ?_ (fun K hK => ?_)); (rfl); go_simp; (with_reducible refine hK _ ?_); clear hK K)))
   (with_reducible refine wpQuiet_nil ?_); intro _ hw'; obtain ⟨Y, hw''⟩ := hw'; subst hw''
   have hX2 := hX1.below (World.below_ext wc Y)
   clear c1 l1
   go_wp2_with (go_at_call 80; (with_reducible refine (hear_any f m.s _ hX2 hok1).mono ?_); rintro e w10 ⟨b10, rfl, hO10, hX10, ho10⟩)
   refine bodyPost_ret (v := .tuple #[.slice A6 n6 c6, .slice (some ⟨b10, 0, none⟩) 1 1]) (by simp [results, Tryz.results48, go_sem] <;> rfl) rfl ?_
   rw [e1.out, e2.out, List.append_nil]
   have hR7 := (hR6.below (World.below_ext wc Y)).kp (Kp.of_only (S := fun k => k = g) ho10 rfl) (fun k hk => by rw [hk]; exact .inr hX1.g) (fun k hk e => hn6 k hk (by rw [e]; exact .inr hX1.g))
   obtain ⟨A', c', e', hRe⟩ := hR7.recs' hn6
   cases e'
   exact ⟨S1, ⟨hear_ok hok1 _, _, _, _, _, hX10.widen (fun k hk => .inl hk) (fun k hk => .inr hk)⟩, (hk1.trans (Kp.of_below (World.below_ext wc Y))).trans (Kp.of_only ho10 hX.g), hS1, _, _, _, _, 1, 1, rfl, hRe, hO10.sub (fun k _ hk => .inl hk)⟩
  | true =>
   have ht2 : ((r1.joined != r1.v.e) = true) ∨ ((r1.joined != r1.v.e) = false ∧ decide ((r.log.length : Int) ≤ m.log.length) = true) := by
    unfold takes at ht
    by_cases hj : r1.joined = r1.v.e
    ·right
     simp [hj] at ht ⊢
     omega
    ·left
     simpa using hj
   have e1 := hide <| show offer2 r1 m = { r1 with joined := r1.v.e, log := m.log } by unfold offer2; rw [ht]; rfl
   have e2 := hide <| show offer2R r1 m = [recLogP r1.v.e m.log] by unfold offer2R; rw [ht]; rfl
   clear ht
   have htw := fun W h => twins_any (T := S1) Bv m.log.length dv m.log W h hn4
   have hok2 : ({ r1 with joined := r1.v.e, log := m.log } : Rl).ok := by
    have := he64 hok1
    exact ⟨hok1.id, hok1.v, hn4, hE1.okAll, ⟨this.1, this.2⟩, hok1.s, hok1.ak, hok1.an⟩
   have hj64 : I64 r1.v.e := by have := he64 hok1; unfold I64; omega
   have ht3 : ((r1.joined != r1.v.e) = true) ∨ ((r1.joined != r1.v.e) = false ∧ decide ((r.log.length : Int) ≤ m.log.length) = true ∧ decide (r.log.length ≤ m.log.length) = true ∧ r.log.length ≤ m.log.length) := ht2.imp id (fun h => ⟨h.1, h.2, by have := of_decide_eq_true h.2; exact decide_eq_true (by omega), by have := of_decide_eq_true h.2; omega⟩)
   clear ht2
   rcases ht3 with t1 | ⟨t1, t2, t3, t4⟩
   all_goals
    go_wp2_with fail
    refine wp_region_ext_lit (by kernel_rfl) (by kernel_rfl) ?_
    (repeat (first | ((with_reducible refine wpQuiet_step (fun K hK => ?_)); go_simp; first | ((with_reducible refine hK _ ?_); clear hK K) | (apply Exists.intro; (with_reducible refine ⟨fun _ => ?_, hK _ ?_⟩); skip; clear hK K)) | ((with_reducible refine quiet_skipN ?_ (fun K hK => ?_)); (rfl); go_simp; (with_reducible refine hK _ ?_); clear hK K)))
    (with_reducible refine wpQuiet_nil ?_); intro _ hw'; obtain ⟨Y, hw''⟩ := hw'; subst hw''
    refine abstr (fun W => RelX W S1 (fun k => (T k ∨ S1 k) ∨ (Value.slice A6 n6 c6).ownBlock = some k) g r1 Am1 cm1 (.slice Al r.log.length cl) mb1 ∧ Below wc.heap.size wc W ∧ Blk W w.heap.size 60 #[.int .i64 m.k, .int .i64 m.e, .int .i64 m.v.e, .int .i64 m.v.p, (.slice Av m.v.l.length cv), .int .i64 m.i, .int .i64 m.s, (.slice Bv m.log.length dv)]) ⟨hX1.below (World.below_ext wc Y), World.below_ext wc Y, hP1.ext Y⟩ (fun w1 hw1 => ?_)
    obtain ⟨hX1, hb1, hP1⟩ := hw1
    clear c1 l1 cP1 lP1
    have c1 := hX1.blk.cell
    have f1 := hX1.blk.frozen
    have l1 := hX1.blk.lt
    have cP1 := hP1.cell
    have lP1 := hP1.lt
    have hs1 := hb1.size
    go_wp2_with fail
    refine First.wp_region_first_ext [6, 8] [0, 1, 2, 3, 4, 5, 7, 10, 11, 13, 14] [(true, false, 0), (true, false, 1), (true, false, 2), (true, false, 3), (true, false, 4), (true, false, 5), (true, true, 6), (true, false, 7), (true, true, 8), (false, true, 9), (true, false, 10), (true, false, 11), (false, false, 12), (true, false, 13), (true, false, 14), (false, false, 15)] (by kernel_rfl) (by kernel_rfl) (fun V => ?_); simp only [List.map_cons, List.map_nil, List.getD_cons_zero, List.getD_cons_succ]
    have hEV := (hE1.kp (Kp.of_below hb1)).kp (Kp.of_below (World.below_ext w1 V))
    have hXV := hX1.below (World.below_ext w1 V)
    (repeat (first | (refine wfp fun K hK => ?_; go_simp; refine hK _ _ ?_; clear hK K) | (refine wff fun K hK => ?_; go_simp; refine hK _ _ ?_; clear hK K)))
    refine First.wpF_must (fun K hK => ?_)
    go_wp2_with (go_at_call 36; (with_reducible refine (htw _ hEV).mono ?_); rintro e w2 ⟨A3, c3, rfl, hO3, hb3⟩)
    have hgr3 : First.Grown _ w2 := World.ext_of_below hb3
    (refine hK _ _ (fun hnd => by first | exact Bool.noConfusion hnd | assumption | with_reducible (first | exact grown_alloc _ _ | exact First.Grown.refl _ | exact First.Grown.cat _ _ _ | exact First.Grown.ext _ _)) ?_; clear hK K)
    have hX3 := hXV.below hb3
    have c5 := hX3.blk.cell
    have f5 := hX3.blk.frozen
    have l5 := hX3.blk.lt
    have hF := hXV.fresh hb3 m.log r1.v.e hO3
    (repeat (first | (refine wfp fun K hK => ?_; go_simp; refine hK _ _ ?_; clear hK K) | (refine wff fun K hK => ?_; go_simp; refine hK _ _ ?_; clear hK K)))
    refine First.wpF_must (fun K hK => ?_)
    go_wp2
    (refine hK _ _ (fun hnd => by first | exact Bool.noConfusion hnd | assumption | with_reducible (first | exact grown_alloc _ _ | exact First.Grown.refl _ | exact First.Grown.cat _ _ _ | exact First.Grown.ext _ _)) ?_; clear hK K)
    (repeat (first | (refine wfp fun K hK => ?_; go_simp; refine hK _ _ ?_; clear hK K) | (refine wff fun K hK => ?_; go_simp; refine hK _ _ ?_; clear hK K)))
    refine First.wpF_must (fun K hK => ?_)
    go_wp2
    (refine hK _ _ (fun hnd => by first | exact Bool.noConfusion hnd | assumption | with_reducible (first | exact grown_alloc _ _ | exact First.Grown.refl _ | exact First.Grown.cat _ _ _ | exact First.Grown.ext _ _)) ?_; clear hK K)
    refine First.wpF_nil ?_
    have hsz1 : w.heap.size ≤ (w1.ext V).heap.size := by have := (World.below_ext w1 V).size; omega
    have hR4 := (((hR6.below hb1).below (World.below_ext w1 V)).sub (T' := fun k => (T k ∨ S1 k) ∨ (Value.slice A3 m.log.length c3).ownBlock = some k) (fun k hk ht => ht.elim id (fun h => by have := hF.2.2 k h; omega))).kp hF.2.1 (fun k hk => .inl (.inr hk)) (fun k hk e => hn6 k hk (.inr e))
    have hP4 := Blk.kp ((hP1.ext V)) hF.2.1 (fun e => by
     have h1 := hS1 _ e
     rcases h1 with h1 | h1
     ·have := hX.lt _ (hX.sub _ h1); omega
     ·exact hpS e)
    refine abstr (fun W => RelX W (fun k => S1 k ∨ (Value.slice A3 m.log.length c3).ownBlock = some k) (fun k => ((T k ∨ S1 k) ∨ (Value.slice A6 n6 c6).ownBlock = some k) ∨ (Value.slice A3 m.log.length c3).ownBlock = some k) g { r1 with joined := r1.v.e, log := m.log } Am1 cm1 (.slice A3 m.log.length c3) mb1 ∧ Kp S w W ∧ OwnR W (fun k => (T k ∨ S1 k) ∨ (Value.slice A3 m.log.length c3).ownBlock = some k) w.heap.size (.slice A6 n6 c6) R6 ∧ Blk W w.heap.size 60 #[.int .i64 m.k, .int .i64 m.e, .int .i64 m.v.e, .int .i64 m.v.p, (.slice Av m.v.l.length cv), .int .i64 m.i, .int .i64 m.s, (.slice Bv m.log.length dv)]) ⟨hF.1, ?_, hR4, hP4⟩ (fun w4 hw4 => ?_)
    rotate_left 1
    ·skip
     obtain ⟨hX4, hk4, hR4', hP4'⟩ := hw4
     have hT2 : ∀ k, ((T k ∨ S1 k) ∨ (Value.slice A3 m.log.length c3).ownBlock = some k) → k < w4.heap.size := fun k hk => hX4.lt k (hk.elim (fun h => .inl (.inl h)) .inr)
     have hlies : ∀ k, (S1 k ∨ (Value.slice A3 m.log.length c3).ownBlock = some k) → S k ∨ w.heap.size ≤ k := fun k hk => hk.elim (hS1 k) (fun h => .inr (by have := hF.2.2 k h; omega))
     have hn6' : ∀ k, (Value.slice A6 n6 c6).ownBlock = some k → ¬((T k ∨ S1 k) ∨ (Value.slice A3 m.log.length c3).ownBlock = some k) := fun k hk ht => ht.elim (hn6 k hk) (fun h => by
      have h1 := hF.2.2 k h
      have h2 := (hR6.lt k hk).2
      have := (World.below_ext w1 V).size
      omega)
     have hsS4 := hX4.sub
     clear hF hR4 hP4 hX3 hXV hEV hb3 hgr3 hO3 hX1 hP1 hb1 c1 f1 l1 cP1 lP1 c5 f5 l5 hR6 htw hE1
     have c4 := hX4.blk.cell
     have l4 := hX4.blk.lt
     have cP4 := hP4'.cell
     have lP4 := hP4'.lt
     go_wp2_with fail
     refine wp_region_below w.heap.size [4, 8] [0, 1, 2, 3, 5, 6, 7] [(true, false, 0), (true, false, 1), (true, false, 2), (true, false, 3), (true, true, 4), (true, false, 5), (true, false, 6), (true, false, 7), (true, true, 8), (false, false, 9), (false, false, 10), (false, false, 11), (false, false, 12)] (by kernel_rfl) (by kernel_rfl) (fun U => ?_); simp only [List.map_cons, List.map_nil, List.getD_cons_zero, List.getD_cons_succ]
     have hXU := hX4.below (World.below_ext w4 U)
     have hBg := hX4.blk.ext U
     have hRU := hR4'.below (World.below_ext w4 U)
     have hszU : w.heap.size ≤ (w4.ext U).heap.size := by have := hk4.size; have := (World.below_ext w4 U).size; omega
     (repeat (first | (refine wfp fun K hK => ?_; go_simp; refine hK _ _ ?_; clear hK K) | (refine wff fun K hK => ?_; go_simp; refine hK _ _ ?_; clear hK K)))
     (refine first_read rfl (v := .int .i64 r1.v.e) (fun w' hw' => ?_) (fun K hK => ?_); rotate_left 1; go_simp; refine hK _ _ ?_; clear hK K; rotate_left 1; (have hB' := Blk.below hBg hw' lw; have c' := Blk.cell hB'; go_simp))
     (repeat (first | (refine wfp fun K hK => ?_; go_simp; refine hK _ _ ?_; clear hK K) | (refine wff fun K hK => ?_; go_simp; refine hK _ _ ?_; clear hK K)))
     (refine first_read rfl (v := .slice A3 m.log.length c3) (fun w' hw' => ?_) (fun K hK => ?_); rotate_left 1; go_simp; refine hK _ _ ?_; clear hK K; rotate_left 1; (have hB' := Blk.below hBg hw' lw; have c' := Blk.cell hB'; go_simp))
     (repeat (first | (refine wfp fun K hK => ?_; go_simp; refine hK _ _ ?_; clear hK K) | (refine wff fun K hK => ?_; go_simp; refine hK _ _ ?_; clear hK K)))
     have hEU := (show OwnE (w4.ext U) _ 0 (.slice A3 m.log.length c3) m.log from hXU.own).ents (T' := fun _ => False) rfl (fun k hk => hk.elim) (fun k hk => hk.elim)
     refine First.wpF_must (fun K hK => ?_)
     go_wp2_with (go_at_call 79; (with_reducible refine (recLog_any r1.v.e A3 m.log.length c3 m.log _ hEU hn4 hj64).mono ?_); rintro e w5 ⟨u5, rfl, hu5, hb5⟩; obtain ⟨uA, un, uc, rfl⟩ := hu5.shape)
     (refine hK _ _ (fun hnd => by first | exact Bool.noConfusion hnd | exact hb5.mono hszU) ?_; clear hK K)
     have hs5 := hb5.size
     have hbs : Bsl w5 (fun k => ((T k ∨ S1 k) ∨ (Value.slice A3 m.log.length c3).ownBlock = some k) ∨ (Value.slice A6 n6 c6).ownBlock = some k) (.slice uA un uc) (recLogP r1.v.e m.log) :=
      (Bsl.row hu5 (T := fun k => k < (w4.ext U).heap.size) (fun k hk => hk) (recLog_by hj64 hok2.log hn4)).sub fun k _ hk => hk.elim (fun hk => by have := hT2 k hk; have := (World.below_ext w4 U).size; show k < _; omega) (fun hk => (hRU.lt k hk).2)
     have hR5 := hRU.below hb5
     (repeat (first | (refine wfp fun K hK => ?_; go_simp; refine hK _ _ ?_; clear hK K) | (refine wff fun K hK => ?_; go_simp; refine hK _ _ ?_; clear hK K)))
     refine First.wpF_must (fun K hK => ?_)
     go_wp2
     (refine hK _ _ (fun hnd => by first | exact Bool.noConfusion hnd | exact Below.alloc (Below.refl _ _) (by omega) _) ?_; clear hK K)
     refine First.wpF_must (fun K hK => ?_)
     go_wp2_with (at_builtin; refine app_rec rfl (.tmp 132) (.tmp 142) rfl (fun k => (T k ∨ S1 k) ∨ (Value.slice A3 m.log.length c3).ownBlock = some k) w.heap.size (.slice A6 n6 c6) R6 (recLogP r1.v.e m.log, .slice uA un uc) _ rfl rfl hR5 hbs _ rfl rfl hR6l (by omega) (fun v' w7 hR7 hc7 hk7' => ?_))
     have hb7 : Below w.heap.size (w5.alloc (.cells #[.slice uA un uc] 36)) w7 := ⟨hk7'.os, hk7'.tape, hk7'.output, hk7'.size, fun k hk => hk7'.block k (by simp; omega) (fun e => by have := (hR5.lt k e).1; omega)⟩
     (refine hK _ _ (fun hnd => by first | exact Bool.noConfusion hnd | exact hb7) ?_; clear hK K)
     obtain ⟨A7, n7, c7, rfl⟩ : ∃ A n c, v' = .slice A n c := by
      obtain ⟨ms', _, ho', _⟩ := hR7
      obtain ⟨A', c', e', _⟩ := own_sl ho'
      exact ⟨A', _, c', e'⟩
     have hX7 : RelX w7 _ _ g { r1 with joined := r1.v.e, log := m.log } Am1 cm1 (.slice A3 m.log.length c3) mb1 := (hXU.below hb5).far (R := fun k => (Value.slice A6 n6 c6).ownBlock = some k) ⟨hc7.os, hc7.tape, hc7.output, hc7.size, fun k hk hn => hc7.block k hk hn⟩ (fun k hk => .inl (.inr hk)) (fun k hk hr => hn6' k hr (hk.elim (fun h => .inl (.inr h)) .inr))
     have hP7 : Blk w7 w.heap.size 60 #[.int .i64 m.k, .int .i64 m.e, .int .i64 m.v.e, .int .i64 m.v.p, (.slice Av m.v.l.length cv), .int .i64 m.i, .int .i64 m.s, (.slice Bv m.log.length dv)] := (hc7.block _ ((hP4'.ext U).below hb5 (hP4'.ext U).lt).lt hPs).trans ((hP4'.ext U).below hb5 (hP4'.ext U).lt)
     have cP7 := hP7.cell
     have lP7 := hP7.lt
     have hk7 : Kp S w w7 := ((hk4.trans (Kp.of_below (World.below_ext w4 U))).trans (Kp.of_below hb5)).chain (S1 := fun k => (Value.slice A6 n6 c6).ownBlock = some k) ⟨hc7.os, hc7.tape, hc7.output, hc7.size, fun k hk hn => hc7.block k hk hn⟩ (fun k hk => .inr (hRU.lt k hk).1)
     have hn7 : ∀ k, (Value.slice A7 n7 c7).ownBlock = some k → ¬((T k ∨ S1 k) ∨ (Value.slice A3 m.log.length c3).ownBlock = some k) := fun k hk ht => by
      rcases hc7.lies with e | ⟨b, e, hb⟩
      ·rw [e] at hk; exact hn6' k hk ht
      ·rw [e] at hk
       have hkb := Option.some.inj hk
       have := hT2 k ht
       have := (World.below_ext w4 U).size
       omega
     clear c4 l4 cP4 lP4
     (repeat (first | (refine wfp fun K hK => ?_; go_simp; refine hK _ _ ?_; clear hK K) | (refine wff fun K hK => ?_; go_simp; refine hK _ _ ?_; clear hK K)))
     refine First.wpF_must (fun K hK => ?_)
     go_wp2
     (refine hK _ _ (fun hnd => by first | exact Bool.noConfusion hnd | assumption | with_reducible (first | exact grown_alloc _ _ | exact First.Grown.refl _ | exact First.Grown.cat _ _ _ | exact First.Grown.ext _ _)) ?_; clear hK K)
     refine First.wpF_nil ?_
     go_wp2_with (go_at_call 80; (with_reducible refine (hear_any f m.s w7 hX7 hok2).mono ?_); rintro e w10 ⟨b10, rfl, hO10, hX10, ho10⟩)
     refine bodyPost_ret (v := .tuple #[.slice A7 n7 c7, .slice (some ⟨b10, 0, none⟩) 1 1]) (by simp [results, Tryz.results48, go_sem] <;> rfl) rfl ?_
     rw [e1.out, e2.out]
     have hR8 := hR7.kp (Kp.of_only (S := fun k => k = g) ho10 rfl) (fun k hk => by rw [hk]; exact .inl (.inr (hSS _ hX.g))) (fun k hk e => hn7 k hk (by rw [e]; exact .inl (.inr (hSS _ hX.g))))
     obtain ⟨A', c', e', hRe⟩ := hR8.recs' hn7
     cases e'
     refine ⟨fun k => S1 k ∨ (Value.slice A3 m.log.length c3).ownBlock = some k, ⟨hear_ok hok2 _, _, _, _, _, hX10.widen (fun k hk => hk.elim (fun h => .inl (.inl (.inl h))) (fun hk => hk.elim (fun h => .inl (.inl (.inr h))) .inr)) (fun k hk => .inr hk)⟩, hk7.trans (Kp.of_only ho10 hX.g), hlies, _, _, _, _, 1, 1, rfl, hRe.sub ?_, hO10.sub ?_⟩
     ·exact fun k _ (hk : T k ∨ (S1 k ∨ (Value.slice A3 m.log.length c3).ownBlock = some k)) => hk.elim (fun h => .inl (.inl h)) (fun hk => hk.elim (fun h => .inl (.inr h)) .inr)
     ·exact fun k _ (hk : T k ∨ (S1 k ∨ (Value.slice A3 m.log.length c3).ownBlock = some k)) => hk.elim (fun h => .inl (.inl (.inl h))) (fun hk => hk.elim (fun h => .inl (.inl (.inr h))) .inr)
    ·exact (((hk1.trans (Kp.of_below hb1)).trans (Kp.of_below (World.below_ext w1 V))).chain hF.2.1 hS1)
end Go.Proofs.YtjhcgnmibnjocaaGreat
