import Derived.Test.YtjhcgnmibnjocaaGreatY16
/-! A relay takes a shipped entry: one that is entered. -/
namespace Go.Proofs.YtjhcgnmibnjocaaGreat
open Go.RowKit Go.Maps
set_option linter.unusedVariables false
set_option linter.unusedSimpArgs false
theorem infoBs : (Tryz.prog.info? 36).map (fun i => (i.zero, i.size, i.bytes)) = some (some (.slice none 0 0), 1, 24) := by kernel_rfl
def Bss (w : World) (T : Nat → Prop) (ms : List (List Nat × Value)) : Prop := ∀ m ∈ ms, Bsl w T m.2 m.1
theorem Bss.kp {w w' : World} {T : Nat → Prop} {ms : List (List Nat × Value)} (h : Bss w T ms) (hk : Kp T w w') : Bss w' T ms := fun m hm => (h m hm).kp hk
theorem Bss.sub {w : World} {T T' : Nat → Prop} {ms : List (List Nat × Value)} (h : Bss w T ms) (hs : ∀ k, k < w.heap.size → T' k → T k) : Bss w T' ms := fun m hm => (h m hm).sub hs
structure OwnR (w : World) (T : Nat → Prop) (base : Nat) (v : Value) (l : List (List Nat)) : Prop where
 ex : ∃ ms : List (List Nat × Value), ms.map Prod.fst = l ∧ w.ownsRow base 36 1 v l.length (ms.map Prod.snd) ∧ Bss w (fun k => T k ∨ v.ownBlock = some k) ms
theorem OwnR.nil (w : World) (T : Nat → Prop) (base : Nat) : OwnR w T base (.slice none 0 0) [] := ⟨[], rfl, World.ownsRow_nil _ _ _ _, fun _ h => by cases h⟩
theorem OwnR.below {w w' : World} {T : Nat → Prop} {base : Nat} {v : Value} {l : List (List Nat)} (h : OwnR w T base v l) (hb : Below w.heap.size w w') : OwnR w' T base v l := by
 obtain ⟨ms, e, ho, hm⟩ := h
 exact ⟨ms, e, own_keep ho fun k _ hk => hb.block k hk, hm.kp (Kp.of_below hb)⟩
theorem OwnR.recs {w : World} {T : Nat → Prop} {base : Nat} {v : Value} {l : List (List Nat)} (h : OwnR w T base v l) (hT : ∀ k, base ≤ k → ¬T k) : ∃ A c, v = .slice A l.length c ∧ Recs w T A l.length l := by
 obtain ⟨ms, e, ho, hm⟩ := h
 obtain ⟨A, c, rfl, _⟩ := own_sl ho
 exact ⟨A, c, rfl, ⟨ms, e, Reads.of_own ho, fun m hmm => (hm m hmm).sub (fun k _ ht => .inl ht)⟩, rfl, fun h0 a ha => hT _ (own_addr ho a ha).1⟩
theorem app_rec {W : World} {ops : Array Oper} {rest : List Oper} {o : Oper} {a : Act} {Q : Exit → Act → World → Prop} (hgd : o.guard = none) (s x : Operand)
  (ho : o.op = .call { callee := .builtin .append, args := #[s, x], argTypes := #[35, 35] }) (T : Nat → Prop) (base : Nat) (v : Value) (l : List (List Nat)) (u : List Nat × Value) (cs : Array Value) (hcs : cs = #[u.2]) (hs : a.eval s = v) (hown : OwnR W T base v l)
  (hu : Bsl W (fun k => T k ∨ v.ownBlock = some k) u.2 u.1) (B : Nat) (hB : B = W.heap.size) (hx : a.eval x = .slice (some ⟨B, 0, none⟩) 1 1) (hl : l.length ≤ 1000000) (hbase : base ≤ W.heap.size)
  (h : ∀ v' w', OwnR w' T base v' (l ++ [u.1]) → Chg W w' v v' → Kp (fun k => v.ownBlock = some k) (W.alloc (.cells cs 36)) w' → wpList Tryz.prog ops Q rest (a.put o.dst v') w') :
  wpList Tryz.prog ops Q (o :: rest) a (W.alloc (.cells cs 36)) := by
 subst hcs hB
 obtain ⟨i0, hi, hz0, hz1, hz2⟩ := info_parts infoBs
 obtain ⟨ms, he, hown, hm⟩ := hown
 obtain ⟨Av, nv, cv, ev⟩ := hu.sl
 refine wpList_append_own_at (W.alloc (.cells #[u.2] 36)) hgd s x 35 ho base 36 i0 _ 1 24 Tryz.underlying35 hi hz0 hz1 hz2 rfl (by decide) v l.length (ms.map Prod.snd) hs (own_alloc hown _) ⟨W.heap.size, 0, none⟩ 1 1 [u.2] hx rfl (cells_new _ _ _) ?_ (by unfold maxLen; omega) (by omega) (by simp; omega) fun v' w' h1 h2 h3 h4 => h v' w' ?_ ?_ ⟨h2.os, h2.tape, h2.output, h2.size, fun k hk hn => h2.block k hk (Ne.symm hn)⟩
 ·intro y hy
  simp only [ev, List.mem_cons, List.not_mem_nil, or_false] at hy
  rcases hy with rfl
  rfl
 ·refine ⟨ms ++ [u], by rw [List.map_append, he]; rfl, ?_, ?_⟩
  ·rw [List.length_append, List.map_append]
   simpa using h1
  ·have hk : Kp (fun k => (T k ∨ v.ownBlock = some k) ∨ W.heap.size ≤ k) W w' := ⟨h2.os, h2.tape, h2.output, by have := h2.size; simp at this; omega, fun k hk hn => (h2.block k (by simp; omega) (fun e => hn (.inl (.inr e.symm)))).trans (Below.heap_alloc W _ k hk)⟩
   have hall : Bss W (fun k => T k ∨ v.ownBlock = some k) (ms ++ [u]) := fun m hmm => by
    rcases List.mem_append.1 hmm with hmm | hmm
    ·exact hm m hmm
    ·simp only [List.mem_singleton] at hmm
     subst hmm
     exact hu
   refine ((hall.sub (T' := fun k => (T k ∨ v.ownBlock = some k) ∨ W.heap.size ≤ k) (fun k hk ht => ht.elim id (fun h => by omega))).kp hk).sub fun k _ ht => ?_
   rcases ht with ht | ht
   ·exact .inl (.inl ht)
   ·rcases h4 with e | e
    ·exact .inl (.inr (e ▸ ht))
    ·rw [e] at ht
     cases ht
     exact .inr (by simp)
 ·refine ⟨h2.os, h2.tape, h2.output, ?_, fun k hk hv => ?_, ?_⟩
  ·have := h2.size
   simp at this
   omega
  ·exact (h2.block k (by simp; omega) (Ne.symm hv)).trans (Below.heap_alloc W _ k hk)
  ·rcases h4 with e | e
   ·exact .inl e
   ·exact .inr ⟨_, e, by simp⟩
theorem MgW.sl {w : World} {T : Nat → Prop} {vm vl : Value} {m : Mg} (h : MgW w T vm vl m) : ∃ A c B d, vm = .slice A m.v.l.length c ∧ vl = .slice B m.log.length d ∧ Reads w w.heap.size 1 A m.v.l.length (ints m.v.l) ∧ (0 < m.v.l.length → ∀ a, A = some a → ¬T a.block) ∧ Ents w T B m.log.length m.log := by
 obtain ⟨⟨A, c, e, hr, hn⟩, B, d, e', hE⟩ := h
 exact ⟨A, c, B, d, e, e', hr, hn, hE⟩
theorem shipP_no {r : Rl} {f : Int} {m : Mg} (h : shipOk r f m = false) : shipP r f m = ⟨[], [], r⟩ := by unfold shipP; rw [h]; rfl
theorem Aft.mk' {w w' : World} {S T : Nat → Prop} {g : Nat} {r' : Rl} {K : (Nat → Prop) → Prop} {Am : Option Addr} {cm : Nat} {vl : Value} {mb : Nat} (hok : r'.ok) (hX : RelX w' S T g r' Am cm vl mb) (hk : Kp S w w') (hK : K (fun k => T k ∨ S k)) : Aft w w' S T g r' K :=
 ⟨S, ⟨hok, Am, cm, vl, mb, hX.widen (fun k hk => hk.elim id (hX.sub k)) (fun k hk => .inr hk)⟩, hk, fun k hk => .inl hk, hK⟩
set_option maxRecDepth 100000 in
set_option maxHeartbeats 8000000 in
theorem ship_in {S T : Nat → Prop} {g : Nat} {r : Rl} (f : Int) (m : Mg) (vm vl' : Value) (x : Ent) (w : World) (h : RelW w S T g r) (hm : MgW w S vm vl' m) (d1 : (m.e != r.v.e) = false) (d2 : (r.joined != m.e) = false) (d3 : (r.v.p != f) = false) (d4 : (f == r.id) = false)
  (hx : m.log = [x]) (d6 : m.i = (r.log.length : Int) + 1) (d7 : r.log.length < 4096) :
  Calls Tryz.prog 49 #[.pointer (some ⟨g, 0, none⟩), .int .i64 f, .agg #[.int .i64 m.k, .int .i64 m.e, .int .i64 m.v.e, .int .i64 m.v.p, vm, .int .i64 m.i, .int .i64 m.s, vl']] w fun e w' => Aft w w' S T g (hearP { r with log := r.log ++ [x] } m.s) fun T' =>
   ∃ A1 n1 c1 A2 n2 c2, e = .returned (.tuple #[.slice A1 n1 c1, .slice A2 n2 c2]) ∧ Recs w' T' A1 n1 [recEntryP (r.log.length + 1) x] ∧ Outs w' T' A2 n2 (hearO { r with log := r.log ++ [x] } f) := by
 have hW := h
 obtain ⟨hok, Am, cm, vl, mb, hX⟩ := h
 obtain ⟨Av, cv, Bv, dv, rfl, rfl, hrm, hnm, hEm⟩ := hm.sl
 rw [hx] at hEm
 have hlm : m.log.length = 1 := by rw [hx]; rfl
 rw [hlm] at *
 replace hx := hide hx
 replace hlm := hide hlm
 obtain ⟨ms, _, hown, _⟩ := id hX.own
 obtain ⟨Al, cl, hvl, hcl⟩ := own_sl hown
 clear hown
 subst hvl
 have hmi : m.i = ((r.log.length + 1 : Nat) : Int) := d6
 have hwr : IntKind.i64.wrap ((r.log.length : Int) + 1) = (r.log.length : Int) + 1 := IntWalk.i64_in _ (by omega)
 have d6' : (m.i == (r.log.length : Int) + 1) = true := by simpa using d6
 have d7' : decide (m.i ≤ 4096) = true := by simp; omega
 replace d6 := hide d6
 replace hmi := hide hmi
 have hb0 : Below w.heap.size w (w.alloc (.cells #[.int .i64 m.k, .int .i64 m.e, .int .i64 m.v.e, .int .i64 m.v.p, (.slice Av m.v.l.length cv), .int .i64 m.i, .int .i64 m.s, (.slice Bv 1 dv)] 60)) := Below.alloc (Below.refl _ _) (Nat.le_refl _) _
 have hX0 := hX.below hb0
 have hP := Blk.new w 60 #[.int .i64 m.k, .int .i64 m.e, .int .i64 m.v.e, .int .i64 m.v.p, (.slice Av m.v.l.length cv), .int .i64 m.i, .int .i64 m.s, (.slice Bv 1 dv)]
 have c0 := hX.blk.cell
 have l0 := hX.blk.lt
 go_enter Tryz.func49, Tryz.ntmps49
 go_wp2
 refine wp_region_ext_lit (by kernel_rfl) (by kernel_rfl) ?_
 (repeat (first | ((with_reducible refine wpQuiet_step (fun K hK => ?_)); go_simp; first | ((with_reducible refine hK _ ?_); clear hK K) | (apply Exists.intro; (with_reducible refine ⟨fun _ => ?_, hK _ ?_⟩); skip; clear hK K)) | ((with_reducible refine quiet_skipN ?_ (fun K hK => ?_)); (rfl); go_simp; (with_reducible refine hK _ ?_); clear hK K)))
 (with_reducible refine wpQuiet_nil ?_); intro _ hw'; obtain ⟨Y, hw''⟩ := hw'; subst hw''
 go_wp2
 refine wp_region_ext_lit (by kernel_rfl) (by kernel_rfl) ?_
 (repeat (first | ((with_reducible refine wpQuiet_step (fun K hK => ?_)); go_simp; first | ((with_reducible refine hK _ ?_); clear hK K) | (apply Exists.intro; (with_reducible refine ⟨fun _ => ?_, hK _ ?_⟩); skip; clear hK K)) | ((with_reducible refine quiet_skipN ?_ (fun K hK => ?_)); (rfl); go_simp; (with_reducible refine hK _ ?_); clear hK K)))
 (with_reducible refine wpQuiet_nil ?_); intro _ hw'; obtain ⟨Z, hw''⟩ := hw'; subst hw''
 refine abstr (fun W => RelX W S T g r Am cm (.slice Al r.log.length cl) mb ∧ Below w.heap.size w W ∧ Blk W w.heap.size 60 #[.int .i64 m.k, .int .i64 m.e, .int .i64 m.v.e, .int .i64 m.v.p, (.slice Av m.v.l.length cv), .int .i64 m.i, .int .i64 m.s, (.slice Bv 1 dv)]) ⟨?_, by (repeat' (first | with_reducible (first | exact Below.refl _ _ | refine Below.ext ?_ ?_ _ | refine Below.alloc ?_ ?_ _ | refine Below.setCell ?_ ?_ _ | refine Below.drew ?_ | assumption) | (simp [World.size_ext]; done) | (simp [World.size_ext]; omega))), ?_⟩ (fun w1 hw1 => ?_)
 rotate_left 2
 ·obtain ⟨hX1, hb1, hP1⟩ := hw1
  clear c0 l0 hX0 hP hb0
  have c1 := hX1.blk.cell
  have l1 := hX1.blk.lt
  have cP1 := hP1.cell
  have lP1 := hP1.lt
  have hE1 := hEm.kp (Kp.of_below hb1)
  obtain ⟨bx, ox, A2, c2, x', rfl, hbx, hgx, hxo, m1, m2, hBx⟩ := hE1.at_ (j := 0) (show 0 < 1 by omega)
  simp only [List.getElem?_cons_zero, Option.some.injEq] at hgx
  subst hgx
  simp only [Nat.zero_mul, Nat.add_zero] at m1 m2
  have hsS := hX1.sub
  have lT := hX1.lt
  have hgl := hX1.blk.lt
  have htw := fun W h => twins_any (T := S) (some ⟨bx, ox, none⟩) 1 dv [x] W h (by omega)
  go_wp2
  refine First.wp_region_first_ext [4, 6, 9] [0, 1, 2, 3, 5, 8, 12, 13] [(true, false, 0), (true, false, 1), (true, false, 2), (true, false, 3), (true, true, 4), (true, false, 5), (true, true, 6), (false, true, 7), (true, false, 8), (true, true, 9), (false, true, 10), (false, false, 11), (true, false, 12), (true, false, 13), (false, false, 14)] (by kernel_rfl) (by kernel_rfl) (fun V => ?_); simp only [List.map_cons, List.map_nil, List.getD_cons_zero, List.getD_cons_succ]
  have hXV := hX1.below (World.below_ext w1 V)
  have hEV := hE1.kp (Kp.of_below (World.below_ext w1 V))
  (repeat (first | (refine wfp fun K hK => ?_; go_simp; refine hK _ _ ?_; clear hK K) | (refine wff fun K hK => ?_; go_simp; refine hK _ _ ?_; clear hK K)))
  refine First.wpF_must (fun K hK => ?_)
  go_wp2_with (go_at_call 36; (with_reducible refine (htw _ hEV).mono ?_); rintro e w2 ⟨A3, c3, rfl, hO3, hb3⟩)
  have hgr3 : First.Grown _ w2 := World.ext_of_below hb3
  (refine hK _ _ (fun hnd => by first | exact Bool.noConfusion hnd | assumption | with_reducible (first | exact grown_alloc _ _ | exact First.Grown.refl _ | exact First.Grown.cat _ _ _ | exact First.Grown.ext _ _)) ?_; clear hK K)
  obtain ⟨ms3, hms3, ho3, hE3⟩ := hO3
  obtain ⟨m3, rfl⟩ : ∃ m3, ms3 = [m3] := by
   cases ms3 with
   | nil => cases hms3
   | cons a l =>
    cases l with
    | nil => exact ⟨a, rfl⟩
    | cons b l => cases hms3
  simp only [List.map_cons, List.map_nil, List.cons.injEq, and_true] at hms3
  obtain ⟨b3, rfl⟩ := own_some ho3 (show 0 < 1 by omega)
  have hB3 := (hE3 m3 (by simp)).1
  obtain ⟨q1, qf, ql⟩ := own_cellE ho3 (emV_get (ms := [m3]) (i := 0) (m := m3) rfl).1
  obtain ⟨q2, _, _⟩ := own_cellE ho3 (emV_get (ms := [m3]) (i := 0) (m := m3) rfl).2
  have hb3n := (own_addr ho3 _ rfl).1
  rw [hms3] at q1 hB3
  obtain ⟨a4, n4, c4, hv4⟩ := hB3.sl
  rw [hv4] at q2 hB3
  simp only [Nat.zero_mul, Nat.zero_add] at q1 q2
  have hX3 := hXV.below hb3
  have hs3 := hb3.size
  have c5 := hX3.blk.cell
  have l5 := hX3.blk.lt
  (repeat (first | (refine wfp fun K hK => ?_; go_simp; refine hK _ _ ?_; clear hK K) | (refine wff fun K hK => ?_; go_simp; refine hK _ _ ?_; clear hK K)))
  refine First.wpF_must (fun K hK => ?_)
  go_wp2
  (refine hK _ _ (fun hnd => by first | exact Bool.noConfusion hnd | assumption | with_reducible (first | exact grown_alloc _ _ | exact First.Grown.refl _ | exact First.Grown.cat _ _ _ | exact First.Grown.ext _ _)) ?_; clear hK K)
  have hBT : Bsl w2 T (.slice a4 n4 c4) x.t := hB3.sub fun k _ hk => .inl (by have := lT k hk; simp only [World.size_ext]; omega)
  refine First.wpF_must (fun K hK => ?_)
  go_wp2_with (at_builtin; refine app_ent rfl (.tmp 66) (.tmp 72) rfl T 0 (.slice Al r.log.length cl) r.log ⟨x, .slice a4 n4 c4⟩ _ rfl rfl hX3.own ⟨hBT, hxo⟩ (fun k hk => hsS k (hX3.vs k hk)) _ rfl rfl (by omega) (Nat.zero_le _) (fun v' w4 ho4 hc4 _ => ?_))
  (refine hK _ _ (fun hnd => by first | exact Bool.noConfusion hnd | assumption | with_reducible (first | exact grown_alloc _ _ | exact First.Grown.refl _ | exact First.Grown.cat _ _ _ | exact First.Grown.ext _ _)) ?_; clear hK K)
  obtain ⟨Bl, bl, rfl⟩ : ∃ Bl bl, v' = .slice Bl (r.log.length + 1) bl := by
   obtain ⟨ns, _, ho', _⟩ := ho4
   obtain ⟨A', c', e', _⟩ := own_sl ho'
   exact ⟨A', c', by rw [e', List.length_append]; rfl⟩
  have hB4 : Blk w4 g 77 #[.int .i64 r.id, .int .i64 r.v.e, .int .i64 r.v.p, .slice Am r.v.l.length cm, (.slice Al r.log.length cl), .int .i64 r.joined, .int .i64 (r.sure : Int), .map (some mb), .bool r.act] := (hc4.block g hX3.blk.lt hX3.vg).trans hX3.blk
  have c6 := hB4.cell
  have f6 := hB4.frozen
  have l6 := hB4.lt
  have hL4 := hX3.log hc4 _ ho4
  (repeat (first | (refine wfp fun K hK => ?_; go_simp; refine hK _ _ ?_; clear hK K) | (refine wff fun K hK => ?_; go_simp; refine hK _ _ ?_; clear hK K)))
  refine First.wpF_must (fun K hK => ?_)
  go_wp2
  (refine hK _ _ (fun hnd => by first | exact Bool.noConfusion hnd | assumption | with_reducible (first | exact grown_alloc _ _ | exact First.Grown.refl _ | exact First.Grown.cat _ _ _ | exact First.Grown.ext _ _)) ?_; clear hK K)
  refine First.wpF_nil ?_
  have hP3 := (hP1.ext V).below hb3 (hP1.ext V).lt
  have hP5 : Blk (w4.setCell ⟨g, 4, none⟩ (.slice Bl (r.log.length + 1) bl)) w.heap.size 60 #[.int .i64 m.k, .int .i64 m.e, .int .i64 m.v.e, .int .i64 m.v.p, (.slice Av m.v.l.length cv), .int .i64 m.i, .int .i64 m.s, (.slice (some ⟨bx, ox, none⟩) 1 dv)] := Blk.far (w := w4) ((hc4.block _ hP3.lt (fun e => by have := hX.lt _ (hsS _ (hX3.vs _ e)); omega)).trans hP3) (by show w.heap.size ≠ g; have := hX.blk.lt; omega) _
  have hE5 := ((hEV.kp (Kp.of_below hb3)).kp hL4.2.1)
  refine abstr (fun W => RelX W (fun k => S k ∨ (Value.slice Bl (r.log.length + 1) bl).ownBlock = some k) (fun k => T k ∨ (Value.slice Bl (r.log.length + 1) bl).ownBlock = some k) g { r with log := r.log ++ [x] } Am cm (.slice Bl (r.log.length + 1) bl) mb ∧ Kp S w W ∧ Blk W w.heap.size 60 #[.int .i64 m.k, .int .i64 m.e, .int .i64 m.v.e, .int .i64 m.v.p, (.slice Av m.v.l.length cv), .int .i64 m.i, .int .i64 m.s, (.slice (some ⟨bx, ox, none⟩) 1 dv)] ∧ Ents W S (some ⟨bx, ox, none⟩) 1 [x]) ⟨hL4.1, (((Kp.of_below hb1).trans (Kp.of_below (World.below_ext w1 V))).trans (Kp.of_below hb3)).trans hL4.2.1, hP5, hE5⟩ (fun w7 hw7 => ?_)
  obtain ⟨hX7, hk7, hP7, hE7⟩ := hw7
  have hlies : ∀ k, (Value.slice Bl (r.log.length + 1) bl).ownBlock = some k → S k ∨ w.heap.size ≤ k := fun k hk => (hL4.2.2 k hk).imp id (fun h => by have := (World.below_ext w1 V).size; have := hb1.size; omega)
  clear hL4 hB4 c6 f6 l6 ho4 hc4 hX3 hXV hEV hE1 hX1 c1 l1 cP1 lP1 hP1 hP3 hP5 hE5 hBT hB3 c5 l5 q1 q2 hE3 ho3 m1 m2 hBx hb3 hgr3 htw hbx
  have c7 := hX7.blk.cell
  have l7 := hX7.blk.lt
  have cP7 := hP7.cell
  have lP7 := hP7.lt
  obtain ⟨bx', ox', A2', c2', x'', he', hbx', hgx', hxo', m1, m2, hBx⟩ := hE7.at_ (j := 0) (show 0 < 1 by omega)
  simp only [Option.some.injEq, Addr.mk.injEq, and_true] at he'
  obtain ⟨rfl, rfl⟩ := he'
  simp only [List.getElem?_cons_zero, Option.some.injEq] at hgx'
  subst hgx'
  simp only [Nat.zero_mul, Nat.add_zero] at m1 m2
  have hRE := fun W h => recEntry_any (T := S) (r.log.length + 1) x (.slice A2' x.t.length c2') W h hxo' (by omega)
  rw [show ((r.log.length + 1 : Nat) : Int) = m.i from hmi.out.symm] at hRE
  go_wp2
  refine First.wp_region_first_ext [2, 4, 6] [0, 1, 3, 5] [(true, false, 0), (true, false, 1), (true, true, 2), (true, false, 3), (true, true, 4), (true, false, 5), (true, true, 6), (false, true, 7), (false, true, 8), (false, true, 9), (false, false, 10)] (by kernel_rfl) (by kernel_rfl) (fun U => ?_); simp only [List.map_cons, List.map_nil, List.getD_cons_zero, List.getD_cons_succ]
  have hXU := hX7.below (World.below_ext w7 U)
  have hBU := hBx.kp (Kp.of_below (World.below_ext w7 U))
  (repeat (first | (refine wfp fun K hK => ?_; go_simp; refine hK _ _ ?_; clear hK K) | (refine wff fun K hK => ?_; go_simp; refine hK _ _ ?_; clear hK K)))
  refine First.wpF_must (fun K hK => ?_)
  go_wp2_with (go_at_call 37; (with_reducible refine (hRE _ hBU).mono ?_); rintro e w8 ⟨u8, rfl, hu8, hb8⟩; obtain ⟨uA, un, uc, rfl⟩ := hu8.shape)
  have hgr8 : First.Grown _ w8 := World.ext_of_below hb8
  (refine hK _ _ (fun hnd => by first | exact Bool.noConfusion hnd | assumption | with_reducible (first | exact grown_alloc _ _ | exact First.Grown.refl _ | exact First.Grown.cat _ _ _ | exact First.Grown.ext _ _)) ?_; clear hK K)
  (repeat (first | (refine wfp fun K hK => ?_; go_simp; refine hK _ _ ?_; clear hK K) | (refine wff fun K hK => ?_; go_simp; refine hK _ _ ?_; clear hK K)))
  refine First.wpF_must (fun K hK => ?_)
  go_wp2
  (refine hK _ _ (fun hnd => by first | exact Bool.noConfusion hnd | assumption | with_reducible (first | exact grown_alloc _ _ | exact First.Grown.refl _ | exact First.Grown.cat _ _ _ | exact First.Grown.ext _ _)) ?_; clear hK K)
  have hT9 : ∀ k, (T k ∨ (S k ∨ (Value.slice Bl (r.log.length + 1) bl).ownBlock = some k)) → k < w7.heap.size := fun k hk => by
   rcases hk with hk | hk | hk
   ·exact hX7.lt k (.inl hk)
   ·exact hX7.lt k (.inl (hsS k hk))
   ·exact hX7.lt k (.inr hk)
  have hs8 := hb8.size
  simp only [World.size_ext] at hs8
  have hbs : Bsl w8 (fun k => (T k ∨ (S k ∨ (Value.slice Bl (r.log.length + 1) bl).ownBlock = some k)) ∨ (Value.slice none 0 0).ownBlock = some k) (.slice uA un uc) (recEntryP (r.log.length + 1) x) :=
   (Bsl.row hu8 (T := fun k => k < w7.heap.size) (fun k hk => by simp only [World.size_ext]; omega) (recEntry_by (by omega) hxo')).sub fun k _ hk => hk.elim (hT9 k) (fun e => by cases e)
  refine First.wpF_must (fun K hK => ?_)
  go_wp2_with (at_builtin; refine app_rec rfl (.tmp 76) (.tmp 84) rfl (fun k => T k ∨ (S k ∨ (Value.slice Bl (r.log.length + 1) bl).ownBlock = some k)) w8.heap.size (.slice none 0 0) [] (recEntryP (r.log.length + 1) x, .slice uA un uc) _ rfl rfl (OwnR.nil _ _ _) hbs _ rfl rfl (by simp) (Nat.le_refl _) (fun v' w9 hR9 hc9 hk9' => ?_))
  have hgr9 : First.Grown (w8.alloc (.cells #[.slice uA un uc] 36)) w9 := World.ext_of_below ⟨hk9'.os, hk9'.tape, hk9'.output, hk9'.size, fun k hk => hk9'.block k hk (by simp [Value.ownBlock])⟩
  (refine hK _ _ (fun hnd => by first | exact Bool.noConfusion hnd | assumption | with_reducible (first | exact grown_alloc _ _ | exact First.Grown.refl _ | exact First.Grown.cat _ _ _ | exact First.Grown.ext _ _)) ?_; clear hK K)
  obtain ⟨Ar, cr, rfl, hRe9⟩ := hR9.recs (fun k hk ht => by have := hT9 k ht; omega)
  have hb9 : Below w8.heap.size w8 w9 := ⟨hc9.os, hc9.tape, hc9.output, hc9.size, fun k hk => hc9.block k hk (by simp [Value.ownBlock])⟩
  have hX9 := (hXU.below hb8).below hb9
  have hP9 := ((hP7.ext U).below hb8 (hP7.ext U).lt).below hb9 ((hP7.ext U).below hb8 (hP7.ext U).lt).lt
  have hk9 := ((hk7.trans (Kp.of_below (World.below_ext w7 U))).trans (Kp.of_below hb8)).trans (Kp.of_below hb9)
  have cP9 := hP9.cell
  have lP9 := hP9.lt
  have hok9 : ({ r with log := r.log ++ [x] } : Rl).ok := ⟨hok.id, hok.v, by simp; omega, fun y hy => (List.mem_append.1 hy).elim (hok.log y) (fun h => by simp only [List.mem_singleton] at h; rw [h]; exact hxo'), hok.j, hok.s, hok.ak, hok.an⟩
  clear hX7 c7 l7 cP7 lP7 hXU hBU m1 m2 hBx
  (repeat (first | (refine wfp fun K hK => ?_; go_simp; refine hK _ _ ?_; clear hK K) | (refine wff fun K hK => ?_; go_simp; refine hK _ _ ?_; clear hK K)))
  refine First.wpF_must (fun K hK => ?_)
  go_wp2
  (refine hK _ _ (fun hnd => by first | exact Bool.noConfusion hnd | assumption | with_reducible (first | exact grown_alloc _ _ | exact First.Grown.refl _ | exact First.Grown.cat _ _ _ | exact First.Grown.ext _ _)) ?_; clear hK K)
  refine First.wpF_nil ?_
  go_wp2_with (go_at_call 80; (with_reducible refine (hear_any f m.s w9 hX9 hok9).mono ?_); rintro e w10 ⟨b10, rfl, hO10, hX10, ho10⟩)
  refine bodyPost_ret (v := .tuple #[.slice Ar _ cr, .slice (some ⟨b10, 0, none⟩) 1 1]) (by simp [results, Tryz.results49, go_sem] <;> rfl) rfl ?_
  refine ⟨fun k => S k ∨ (Value.slice Bl (r.log.length + 1) bl).ownBlock = some k, ⟨hear_ok hok9 _, Am, cm, _, mb, hX10.widen (fun k hk => hk.elim .inl (fun hk => hk.elim (fun hk => .inl (hsS k hk)) .inr)) (fun k hk => .inr hk)⟩, hk9.trans (Kp.of_only ho10 hX.g), fun k hk => hk.elim .inl (hlies k), _, _, _, _, 1, 1, rfl, ?_, ?_⟩
  ·exact hRe9.kp (Kp.of_only ho10 (.inr (.inl hX.g)))
  ·exact hO10.sub fun k _ (hk : T k ∨ (S k ∨ (Value.slice Bl (r.log.length + 1) bl).ownBlock = some k)) => hk.elim .inl (fun hk => hk.elim (fun hk => .inl (hsS k hk)) .inr)
 ·exact (hX0.below (World.below_ext _ Y)).below (World.below_ext _ Z)
 ·exact (hP.ext Y).ext Z
end Go.Proofs.YtjhcgnmibnjocaaGreat
