import Derived.Test.YtjhcgnmibnjocaaGreatY63
import Derived.Deep.AppendSrc
/-! What is set out: the program's as the document's. -/
namespace Go.Proofs.YtjhcgnmibnjocaaGreat
open Go.RowKit Go.Maps
set_option linter.unusedVariables false
set_option linter.unusedSimpArgs false
theorem Outs.nth {w : World} {T : Nat → Prop} {A : Option Addr} {n : Nat} {l : List Ot} (h : Outs w T A n l) {j : Nat} (hlt : j < n) :
  ∃ b q m, A = some ⟨b, q, none⟩ ∧ b < w.heap.size ∧ l[j]? = some m.o ∧ MgW w T m.vm m.vl m.o.m ∧ (∀ k u, (Om.cells m)[k]? = some u → w.cell? ⟨b, q + j * 9 + k, none⟩ = some u) := by
 obtain ⟨⟨ms, hms, hr, hm⟩, hln, hnt⟩ := h
 obtain ⟨b, q, rfl, hbl, hcc⟩ := hr.plain (by omega) (by omega)
 have hml : ms.length = n := by rw [← hln, ← hms, List.length_map]
 have hjm : j < ms.length := by omega
 have hg : ms[j]? = some (ms[j]'hjm) := List.getElem?_eq_getElem hjm
 refine ⟨b, q, ms[j]'hjm, rfl, hbl, by rw [← hms, List.getElem?_map, hg]; rfl, hm _ (List.getElem_mem hjm), fun k u hu => ?_⟩
 rw [Nat.add_assoc]
 exact hcc _ _ (rowsV_get Om.cells_len ms j _ hg k u hu)
structure OwnOD (w : World) (T : Nat → Prop) (base : Nat) (v : Value) (l : List Ot) : Prop where
 ex : ∃ ms : List Om, ms.map Om.o = l ∧ w.ownsRow base 96 9 v l.length (omV ms) ∧ Oms w (fun k => T k ∨ v.ownBlock = some k) ms
theorem OwnOD.nil (w : World) (T : Nat → Prop) (base : Nat) : OwnOD w T base (.slice none 0 0) [] := ⟨[], rfl, World.ownsRow_nil _ _ _ _, fun _ h => by cases h⟩
theorem OwnOD.outs {w : World} {T : Nat → Prop} {base : Nat} {v : Value} {l : List Ot} (h : OwnOD w T base v l) (hT : ∀ k, base ≤ k → ¬T k) : ∃ A c, v = .slice A l.length c ∧ Outs w T A l.length l := by
 obtain ⟨ms, e, ho, hm⟩ := h
 obtain ⟨A, c, rfl, _⟩ := own_sl ho
 exact ⟨A, c, rfl, ⟨ms, e, Reads.of_own ho, hm.sub (fun k _ ht => .inl ht)⟩, rfl, fun h0 a ha => hT _ (own_addr ho a ha).1⟩
theorem infoOutD : (Tryz.prog.info? 96).map (fun i => (i.zero, i.size, i.bytes)) = some (some (.agg #[.int .i64 0, .int .i64 0, .int .i64 0, .int .i64 0, .int .i64 0, .slice none 0 0, .int .i64 0, .int .i64 0, .slice none 0 0]), 9, 104) := by kernel_rfl
theorem app_outD {W : World} {ops : Array Oper} {rest : List Oper} {o : Oper} {a : Act} {Q : Exit → Act → World → Prop} (hgd : o.guard = none) (s x : Operand)
  (ho : o.op = .call { callee := .builtin .append, args := #[s, x], argTypes := #[51, 51] }) (T : Nat → Prop) (base : Nat) (v : Value) (l : List Ot) (u : Om) (cs : Array Value) (hcs : cs = u.cells.toArray) (hs : a.eval s = v) (hown : OwnOD W T base v l)
  (hu : MgW W (fun k => T k ∨ v.ownBlock = some k) u.vm u.vl u.o.m) (B : Nat) (hB : B = W.heap.size) (hx : a.eval x = .slice (some ⟨B, 0, none⟩) 1 1) (hl : l.length ≤ 1000000) (hbase : base ≤ W.heap.size)
  (h : ∀ v' w', OwnOD w' T base v' (l ++ [u.o]) → Chg W w' v v' → W.heap.size + 1 ≤ w'.heap.size → wpList Tryz.prog ops Q rest (a.put o.dst v') w') :
  wpList Tryz.prog ops Q (o :: rest) a (W.alloc (.cells cs 96)) := by
 subst hcs hB
 obtain ⟨i0, hi, hz0, hz1, hz2⟩ := info_parts infoOutD
 obtain ⟨ms, he, hown, hm⟩ := hown
 obtain ⟨⟨Av, cv, ev, _⟩, Bv, dv, ev', _⟩ := id hu
 refine wpList_append_own_at (W.alloc (.cells u.cells.toArray 96)) hgd s x 51 ho base 96 i0 _ 9 104 Tryz.underlying51 hi hz0 hz1 hz2 rfl (by decide) v l.length (omV ms) hs (own_alloc hown _) ⟨W.heap.size, 0, none⟩ 1 1 u.cells hx rfl (cells_new _ _ _) ?_ (by unfold maxLen; omega) (by omega) (by simp; omega) fun v' w' h1 h2 h3 h4 => h v' w' ?_ ?_ (by have := h2.size; simpa using this)
 ·intro y hy
  simp only [Om.cells, ev, ev', List.mem_cons, List.not_mem_nil, or_false] at hy
  rcases hy with rfl | rfl | rfl | rfl | rfl | rfl | rfl | rfl | rfl <;> rfl
 ·refine ⟨ms ++ [u], by rw [List.map_append, he]; rfl, ?_, ?_⟩
  ·rw [List.length_append, omV_append]
   simpa [omV, rowsV] using h1
  ·have hk : Kp (fun k => (T k ∨ v.ownBlock = some k) ∨ W.heap.size ≤ k) W w' := ⟨h2.os, h2.tape, h2.output, by have := h2.size; simp at this; omega, fun k hk hn => (h2.block k (by simp; omega) (fun e => hn (.inl (.inr e.symm)))).trans (Below.heap_alloc W _ k hk)⟩
   have hall : Oms W (fun k => T k ∨ v.ownBlock = some k) (ms ++ [u]) := fun m hmm => by
    rcases List.mem_append.1 hmm with hmm | hmm
    ·exact hm m hmm
    ·simp only [List.mem_singleton] at hmm
     subst hmm
     exact hu
   refine ((hall.sub (T' := fun k => (T k ∨ v.ownBlock = some k) ∨ W.heap.size ≤ k) (fun k hk ht => ht.elim id (fun h => by omega))).kp hk).sub fun k _ ht => ?_
   rcases ht with ht | ht
   ·exact .inl (.inl ht)
   ·rcases h4 with e | e
    ·exact .inl (.inr (e ▸ ht))
    ·rw [e] at ht
     cases ht
     exact .inr (by simp)
 ·refine ⟨h2.os, h2.tape, h2.output, ?_, fun k hk hv => ?_, ?_⟩
  ·have := h2.size
   simp at this
   omega
  ·exact (h2.block k (by simp; omega) (Ne.symm hv)).trans (Below.heap_alloc W _ k hk)
  ·rcases h4 with e | e
   ·exact .inl e
   ·exact .inr ⟨_, e, by simp⟩
theorem OwnOD.sl {w : World} {T : Nat → Prop} {base : Nat} {v : Value} {l : List Ot} (h : OwnOD w T base v l) : ∃ A c, v = .slice A l.length c ∧ l.length ≤ c := by
 obtain ⟨ms, _, ho, _⟩ := h
 exact own_sl ho
theorem OwnOD.below {w w' : World} {T : Nat → Prop} {base : Nat} {v : Value} {l : List Ot} (h : OwnOD w T base v l) (hb : Below w.heap.size w w') : OwnOD w' T base v l := by
 obtain ⟨ms, e, ho, hm⟩ := h
 exact ⟨ms, e, own_keep ho fun k _ hk => hb.block k hk, hm.kp (Kp.of_below hb)⟩
theorem OwnOD.ge {w : World} {T : Nat → Prop} {base : Nat} {v : Value} {l : List Ot} (h : OwnOD w T base v l) : ∀ k, v.ownBlock = some k → base ≤ k ∧ k < w.heap.size := fun k hk => by
 obtain ⟨ms, _, ho, _⟩ := h
 obtain ⟨A, c, rfl, _⟩ := own_sl ho
 cases A with
 | none => cases hk
 | some ad => cases hk; exact own_addr ho _ rfl
set_option maxRecDepth 100000 in
set_option maxHeartbeats 4000000 in
theorem dsameouts_any {T T' : Nat → Prop} (A A' : Option Addr) (n c c' : Nat) (l : List Ot) (w : World) (h : Outs w T A n l) (h' : Outs w T' A' n l) (hn : n ≤ 1000000) (hs : ∀ x ∈ l, x.m.log.length ≤ 1000000 ∧ x.m.v.l.length ≤ 1000000) :
  Calls Tryz.prog 12 #[.slice A n c, .slice A' n c'] w fun e w' => e = .returned (.bool true) ∧ Below w.heap.size w w' := by
 have hln := h.len
 have d0 : ((n : Int) != (n : Int)) = false := by simp
 go_enter Tryz.func12, Tryz.ntmps12
 go_wp2
 go_loopw [5] (fun vi wr => ∃ j : Nat, j ≤ n ∧ vi = .int .i64 (j : Int) ∧ Below w.heap.size w wr) (fun vi _ => ((n : Int) - intOf vi).toNat)
 case atStart => exact ⟨0, by omega, rfl, Below.refl _ _⟩
 case round =>
  obtain ⟨j, hj, rfl, hb⟩ := hrel
  obtain ⟨wo, rfl⟩ : ∃ wo : World, wo = wr := ⟨_, rfl⟩
  have hso := hb.size
  by_cases hlt : j < n
  ·have hlj : (j : Int) < n := by omega
   obtain ⟨b, q, m, rfl, hbl, hg, hM, hcell⟩ := (h.kp (Kp.of_below hb)).nth hlt
   obtain ⟨b', q', m', rfl, hbl', hg', hM', hcell'⟩ := (h'.kp (Kp.of_below hb)).nth hlt
   have hmm : m'.o = m.o := (Option.some.inj (hg.symm.trans hg')).symm
   have hle := hs m.o (List.mem_of_getElem? hg)
   obtain ⟨⟨tt, M⟩, vm, vl⟩ := m
   obtain ⟨o', vm', vl'⟩ := m'
   simp only at hmm
   subst hmm
   have m0 := hcell 0 _ rfl
   have m1 := hcell 1 _ rfl
   have m2 := hcell 2 _ rfl
   have m3 := hcell 3 _ rfl
   have m4 := hcell 4 _ rfl
   have m5 := hcell 5 _ rfl
   have m6 := hcell 6 _ rfl
   have m7 := hcell 7 _ rfl
   have m8 := hcell 8 _ rfl
   have p0 := hcell' 0 _ rfl
   have p1 := hcell' 1 _ rfl
   have p2 := hcell' 2 _ rfl
   have p3 := hcell' 3 _ rfl
   have p4 := hcell' 4 _ rfl
   have p5 := hcell' 5 _ rfl
   have p6 := hcell' 6 _ rfl
   have p7 := hcell' 7 _ rfl
   have p8 := hcell' 8 _ rfl
   rw [Nat.add_zero] at m0 p0
   simp only at hM hM' hle m0 m1 m2 m3 m4 m5 m6 m7 m8 p0 p1 p2 p3 p4 p5 p6 p7 p8
   have hSm := fun W (hW : Below wo.heap.size wo W) => dsamemsg_any M vm vl vm' vl' W (hM.kp (Kp.of_below hW)) (hM'.kp (Kp.of_below hW)) hle.1 hle.2
   have dt : ((tt : Int) != tt) = false := by simp
   clear hcell hcell' hg hg' hs h h'
   obtain ⟨A1, c1, B1, d1, rfl, rfl, _, _, _⟩ := hM.sl
   obtain ⟨A2, c2, B2, d2, rfl, rfl, _, _, _⟩ := hM'.sl
   clear hM hM'
   go_wp2
   refine wp_region_kp (fun _ => False) [4, 9, 16, 21] [0, 1, 2, 3, 5, 6, 7, 8, 10, 11, 12, 13, 14, 15, 17, 18, 19, 20, 23, 24] [(true, false, 0), (true, false, 1), (true, false, 2), (true, false, 3), (true, true, 4), (true, false, 5), (true, false, 6), (true, false, 7), (true, false, 8), (true, true, 9), (true, false, 10), (true, false, 11), (true, false, 12), (true, false, 13), (true, false, 14), (true, false, 15), (true, true, 16), (true, false, 17), (true, false, 18), (true, false, 19), (true, false, 20), (true, true, 21), (false, true, 22), (true, false, 23), (true, false, 24)] (by kernel_rfl) (by kernel_rfl) (fun X => ?_); simp only [List.map_cons, List.map_nil, List.getD_cons_zero, List.getD_cons_succ]
   have hbx : Below wo.heap.size wo (wo.ext X) := World.below_ext wo X
   have hS := hSm (wo.ext X) hbx
   have hce : ∀ i, (wo.ext X).cell? ⟨b, i, none⟩ = wo.cell? ⟨b, i, none⟩ := fun i => hbx.cell (p := ⟨b, i, none⟩) hbl
   have hce' : ∀ i, (wo.ext X).cell? ⟨b', i, none⟩ = wo.cell? ⟨b', i, none⟩ := fun i => hbx.cell (p := ⟨b', i, none⟩) hbl'
   rw [← hce] at m0 m1 m2 m3 m4 m5 m6 m7 m8
   rw [← hce'] at p0 p1 p2 p3 p4 p5 p6 p7 p8
   clear hce hce'
   have hbV : b < (wo.ext X).heap.size := Nat.lt_of_lt_of_le hbl hbx.size
   have hbV' : b' < (wo.ext X).heap.size := Nat.lt_of_lt_of_le hbl' hbx.size
   have hbw := hb.trans (hbx.mono hso)
   generalize wo.ext X = V at *
   (repeat (first | (refine wfp fun K hK => ?_; go_simp; refine hK _ _ ?_; clear hK K) | (refine wff fun K hK => ?_; go_simp; refine hK _ _ ?_; clear hK K)))
   (refine first_readG rfl (v := .int .i64 tt) (fun w' hw' => ?_) (fun K hK => ?_); rotate_left 1; go_simp; refine hK _ _ ?_; clear hK K; rotate_left 1; (have z0 := (hw'.cell (p := ⟨b, q + j * 9, none⟩) hbV id).trans m0; go_simp))
   (repeat (first | (refine wfp fun K hK => ?_; go_simp; refine hK _ _ ?_; clear hK K) | (refine wff fun K hK => ?_; go_simp; refine hK _ _ ?_; clear hK K)))
   (refine first_readG rfl (v := .int .i64 tt) (fun w' hw' => ?_) (fun K hK => ?_); rotate_left 1; go_simp; refine hK _ _ ?_; clear hK K; rotate_left 1; (have z0 := (hw'.cell (p := ⟨b', q' + j * 9, none⟩) hbV' id).trans p0; go_simp))
   (repeat (first | (refine wfp fun K hK => ?_; go_simp; refine hK _ _ ?_; clear hK K) | (refine wff fun K hK => ?_; go_simp; refine hK _ _ ?_; clear hK K)))
   (refine first_readG rfl (v := .agg #[.int .i64 M.k, .int .i64 M.e, .int .i64 M.v.e, .int .i64 M.v.p, .slice A1 M.v.l.length c1, .int .i64 M.i, .int .i64 M.s, .slice B1 M.log.length d1]) (fun w' hw' => ?_) (fun K hK => ?_); rotate_left 1; go_simp; refine hK _ _ ?_; clear hK K; rotate_left 1; ((have z1 := (hw'.cell (p := ⟨b, q + j * 9 + 1, none⟩) hbV id).trans m1; have z2 := (hw'.cell (p := ⟨b, q + j * 9 + 2, none⟩) hbV id).trans m2; have z3 := (hw'.cell (p := ⟨b, q + j * 9 + 3, none⟩) hbV id).trans m3; have z4 := (hw'.cell (p := ⟨b, q + j * 9 + 4, none⟩) hbV id).trans m4; have z5 := (hw'.cell (p := ⟨b, q + j * 9 + 5, none⟩) hbV id).trans m5; have z6 := (hw'.cell (p := ⟨b, q + j * 9 + 6, none⟩) hbV id).trans m6; have z7 := (hw'.cell (p := ⟨b, q + j * 9 + 7, none⟩) hbV id).trans m7; have z8 := (hw'.cell (p := ⟨b, q + j * 9 + 8, none⟩) hbV id).trans m8); go_simp))
   (repeat (first | (refine wfp fun K hK => ?_; go_simp; refine hK _ _ ?_; clear hK K) | (refine wff fun K hK => ?_; go_simp; refine hK _ _ ?_; clear hK K)))
   (refine first_readG rfl (v := .agg #[.int .i64 M.k, .int .i64 M.e, .int .i64 M.v.e, .int .i64 M.v.p, .slice A2 M.v.l.length c2, .int .i64 M.i, .int .i64 M.s, .slice B2 M.log.length d2]) (fun w' hw' => ?_) (fun K hK => ?_); rotate_left 1; go_simp; refine hK _ _ ?_; clear hK K; rotate_left 1; ((have z1 := (hw'.cell (p := ⟨b', q' + j * 9 + 1, none⟩) hbV' id).trans p1; have z2 := (hw'.cell (p := ⟨b', q' + j * 9 + 2, none⟩) hbV' id).trans p2; have z3 := (hw'.cell (p := ⟨b', q' + j * 9 + 3, none⟩) hbV' id).trans p3; have z4 := (hw'.cell (p := ⟨b', q' + j * 9 + 4, none⟩) hbV' id).trans p4; have z5 := (hw'.cell (p := ⟨b', q' + j * 9 + 5, none⟩) hbV' id).trans p5; have z6 := (hw'.cell (p := ⟨b', q' + j * 9 + 6, none⟩) hbV' id).trans p6; have z7 := (hw'.cell (p := ⟨b', q' + j * 9 + 7, none⟩) hbV' id).trans p7; have z8 := (hw'.cell (p := ⟨b', q' + j * 9 + 8, none⟩) hbV' id).trans p8); go_simp))
   (repeat (first | (refine wfp fun K hK => ?_; go_simp; refine hK _ _ ?_; clear hK K) | (refine wff fun K hK => ?_; go_simp; refine hK _ _ ?_; clear hK K)))
   refine First.wpF_must (fun K hK => ?_)
   go_wp2_with (go_at_call 43; (with_reducible refine hS.mono ?_); rintro e w2 ⟨rfl, hb2⟩)
   (refine hK _ _ (fun hnd => by first | exact Bool.noConfusion hnd | exact Kp.of_below hb2) ?_; clear hK K)
   (repeat (first | (refine wfp fun K hK => ?_; go_simp; refine hK _ _ ?_; clear hK K) | (refine wff fun K hK => ?_; go_simp; refine hK _ _ ?_; clear hK K)))
   refine First.wpF_nil ?_
   go_wp2
   go_roundw
   case rel => exact ⟨j + 1, by omega, by go_num, hbw.trans (hb2.mono hbw.size)⟩
   case measure => simp [intOf]; omega
  ·obtain rfl : j = n := by omega
   go_wp2
   go_ret
   exact ⟨rfl, hb⟩
set_option maxRecDepth 100000 in
set_option maxHeartbeats 4000000 in
theorem outs_any {T : Nat → Prop} (A : Option Addr) (n c : Nat) (l : List Ot) (w : World) (h : Outs w T A n l) (hTl : ∀ k, T k → k < w.heap.size) (hn : n ≤ 1000000) (hs : ∀ x ∈ l, x.m.log.length ≤ 1000000) :
  Calls Tryz.prog 13 #[.slice A n c] w fun e w' => ∃ A1 c1, e = .returned (.slice A1 n c1) ∧ Outs w' T A1 n l ∧ Below w.heap.size w w' := by
 have hln := h.len
 go_enter Tryz.func13, Tryz.ntmps13
 go_wp2
 go_loopw [3, 8] (fun vo vi wr => ∃ j : Nat, j ≤ n ∧ vi = .int .i64 (j : Int) ∧ OwnOD wr T w.heap.size vo (l.take j) ∧ Below w.heap.size w wr) (fun _ vi _ => ((n : Int) - intOf vi).toNat)
 case atStart => exact ⟨0, by omega, rfl, OwnOD.nil _ _ _, Below.refl _ _⟩
 case round =>
  obtain ⟨j, hj, rfl, hO, hb⟩ := hrel
  obtain ⟨wo, rfl⟩ : ∃ wo : World, wo = wr := ⟨_, rfl⟩
  have hso := hb.size
  obtain ⟨vA, vc, hv, _⟩ := hO.sl
  rw [show (l.take j).length = j by rw [List.length_take]; omega] at hv
  subst hv
  by_cases hlt : j < n
  ·have hlj : (j : Int) < n := by omega
   have hE : Outs wo (fun k => T k ∨ w.heap.size ≤ k) A n l := (h.sub (T' := fun k => T k ∨ w.heap.size ≤ k) (fun k hk ht => ht.elim id (fun h => by omega))).kp (Kp.of_below hb)
   obtain ⟨b, q, m, rfl, hbl, hg, hM, hcell⟩ := hE.nth hlt
   have hle := hs m.o (List.mem_of_getElem? hg)
   have htk : l.take (j + 1) = l.take j ++ [m.o] := by rw [List.take_add_one, hg]; rfl
   have hge := hO.ge
   obtain ⟨⟨tt, M⟩, vm, vl⟩ := m
   have m0 := hcell 0 _ rfl
   have m1 := hcell 1 _ rfl
   have m2 := hcell 2 _ rfl
   have m3 := hcell 3 _ rfl
   have m4 := hcell 4 _ rfl
   have m5 := hcell 5 _ rfl
   have m6 := hcell 6 _ rfl
   have m7 := hcell 7 _ rfl
   have m8 := hcell 8 _ rfl
   rw [Nat.add_zero] at m0
   simp only at hM hle htk m0 m1 m2 m3 m4 m5 m6 m7 m8
   obtain ⟨A1, c1, B1, d1, rfl, rfl, _, _, _⟩ := hM.sl
   clear hcell hg hs h hE
   have HO := hide htk
   clear htk
   go_upto_region 5 with fail
   have hP := Blk.new wo 90 #[.int .i64 tt, .int .i64 M.k, .int .i64 M.e, .int .i64 M.v.e, .int .i64 M.v.p, .slice A1 M.v.l.length c1, .int .i64 M.i, .int .i64 M.s, .slice B1 M.log.length d1]
   have hbA : Below wo.heap.size wo (wo.alloc (.cells #[.int .i64 tt, .int .i64 M.k, .int .i64 M.e, .int .i64 M.v.e, .int .i64 M.v.p, .slice A1 M.v.l.length c1, .int .i64 M.i, .int .i64 M.s, .slice B1 M.log.length d1] 90)) := Below.alloc (Below.refl _ _) (Nat.le_refl _) _
   refine wp_region_kp (fun k => (Value.slice vA j vc).ownBlock = some k ∨ wo.heap.size + 1 ≤ k) [2, 4] [0, 1, 3, 6] [(true, false, 0), (true, false, 1), (true, true, 2), (true, false, 3), (true, true, 4), (false, true, 5), (true, false, 6), (false, true, 7), (false, true, 8), (false, false, 9)] (by kernel_rfl) (by kernel_rfl) (fun X => ?_); simp only [List.map_cons, List.map_nil, List.getD_cons_zero, List.getD_cons_succ]
   have hnP : ¬((Value.slice vA j vc).ownBlock = some wo.heap.size ∨ wo.heap.size + 1 ≤ wo.heap.size) := fun e => e.elim (fun e => by have := (hge _ e).2; omega) (fun e => by omega)
   have hbX := hbA.trans ((World.below_ext _ X).mono hbA.size)
   have hsX := hbX.size
   have hM2 := (hM.sub (T' := fun k => T k ∨ (Value.slice vA j vc).ownBlock = some k) (fun k hk ht => ht.imp id (fun e => (hge k e).1))).kp (Kp.of_below hbX)
   have hFr := from_any M _ _ _ hM2 (fun k hk => hk.elim (fun hk => by have := hTl k hk; omega) (fun hk => by have := (hge k hk).2; omega)) hle
   have hO2 := hO.below hbX
   (repeat (first | (refine wfp fun K hK => ?_; go_simp; refine hK _ _ ?_; clear hK K) | (refine wff fun K hK => ?_; go_simp; refine hK _ _ ?_; clear hK K)))
   (refine first_readG rfl (v := .int .i64 tt) (fun w' hw' => ?_) (fun K hK => ?_); rotate_left 1; go_simp; refine hK _ _ ?_; clear hK K; rotate_left 1; (have hB' := Blk.kp (Blk.ext hP _) hw' hnP; have c' := Blk.cell hB'; go_simp))
   (repeat (first | (refine wfp fun K hK => ?_; go_simp; refine hK _ _ ?_; clear hK K) | (refine wff fun K hK => ?_; go_simp; refine hK _ _ ?_; clear hK K)))
   (refine first_readG rfl (v := .agg #[.int .i64 M.k, .int .i64 M.e, .int .i64 M.v.e, .int .i64 M.v.p, .slice A1 M.v.l.length c1, .int .i64 M.i, .int .i64 M.s, .slice B1 M.log.length d1]) (fun w' hw' => ?_) (fun K hK => ?_); rotate_left 1; go_simp; refine hK _ _ ?_; clear hK K; rotate_left 1; (have hB' := Blk.kp (Blk.ext hP _) hw' hnP; have c' := Blk.cell hB'; go_simp))
   (repeat (first | (refine wfp fun K hK => ?_; go_simp; refine hK _ _ ?_; clear hK K) | (refine wff fun K hK => ?_; go_simp; refine hK _ _ ?_; clear hK K)))
   refine First.wpF_must (fun K hK => ?_)
   go_wp2_with (go_at_call 44; (with_reducible refine hFr.mono ?_); rintro e w2 ⟨vm2, vl2, rfl, hM3, hb2⟩; obtain ⟨A3, c3, B3, d3, rfl, rfl, _, _, _⟩ := hM3.sl)
   (refine hK _ _ (fun hnd => by first | exact Bool.noConfusion hnd | exact Kp.of_below hb2) ?_; clear hK K)
   (repeat (first | (refine wfp fun K hK => ?_; go_simp; refine hK _ _ ?_; clear hK K) | (refine wff fun K hK => ?_; go_simp; refine hK _ _ ?_; clear hK K)))
   have hO3 := hO2.below hb2
   have hb02 := hbX.trans (hb2.mono hsX)
   have hs2 := hb02.size
   refine First.wpF_must (fun K hK => ?_)
   go_wp2
   (refine hK _ _ (fun hnd => by first | exact Bool.noConfusion hnd | exact Kp.of_below (Below.alloc (Below.refl _ _) (Nat.le_refl _) _)) ?_; clear hK K)
   (repeat (first | (refine wfp fun K hK => ?_; go_simp; refine hK _ _ ?_; clear hK K) | (refine wff fun K hK => ?_; go_simp; refine hK _ _ ?_; clear hK K)))
   have hkpo : ∀ (w4 : World) (v' : Value), Chg w2 w4 (.slice vA j vc) v' → w2.heap.size + 1 ≤ w4.heap.size → Kp (fun k => (Value.slice vA j vc).ownBlock = some k ∨ wo.heap.size + 1 ≤ k) (w2.alloc (.cells #[.int .i64 tt, .int .i64 M.k, .int .i64 M.e, .int .i64 M.v.e, .int .i64 M.v.p, .slice A3 M.v.l.length c3, .int .i64 M.i, .int .i64 M.s, .slice B3 M.log.length d3] 96)) w4 := fun w4 v' hc hs =>
    ⟨hc.os, hc.tape, hc.output, by simpa using hs, fun k hk hn => by
     rcases Nat.lt_or_ge k w2.heap.size with h | h
     ·exact (hc.block k h (fun e => hn (.inl e))).trans (Below.heap_alloc _ _ k h).symm
     ·exact absurd (.inr (by have := hb2.size; simp only [World.size_ext, World.size_alloc] at this; omega)) hn⟩
   refine First.wpF_must (fun K hK => ?_)
   go_wp2_with (at_builtin; refine app_outD rfl (.tmp 12) (.tmp 19) rfl T w.heap.size (.slice vA j vc) (l.take j) ⟨⟨tt, M⟩, .slice A3 M.v.l.length c3, .slice B3 M.log.length d3⟩ _ rfl rfl hO3 hM3 _ rfl rfl (by rw [List.length_take]; omega) (by omega) (fun v' w4 ho4 hc4 hs4 => ?_); have hkp := hkpo w4 v' hc4 hs4)
   (refine hK _ _ (fun hnd => by first | exact Bool.noConfusion hnd | exact hkp) ?_; clear hK K)
   (repeat (first | (refine wfp fun K hK => ?_; go_simp; refine hK _ _ ?_; clear hK K) | (refine wff fun K hK => ?_; go_simp; refine hK _ _ ?_; clear hK K)))
   refine First.wpF_must (fun K hK => ?_)
   go_wp2
   (refine hK _ _ (fun hnd => by first | exact Bool.noConfusion hnd | exact Kp.refl _ _) ?_; clear hK K)
   refine First.wpF_nil ?_
   go_wp2
   go_roundw
   case rel => exact ⟨j + 1, by omega, by go_num, by rw [HO.out]; exact ho4, (hb.trans (hb02.mono hso)).trans (hc4.low (fun k hk => (hge k hk).1) (by omega))⟩
   case measure => simp [intOf]; omega
  ·obtain rfl : j = n := by omega
   rw [List.take_of_length_le (by omega)] at hO
   go_wp2
   go_ret
   obtain ⟨A1, c1, e1, hOu⟩ := hO.outs (fun k hk ht => by have := hTl k ht; omega)
   cases e1
   rw [hln] at hOu
   exact ⟨vA, vc, rfl, hOu, hb⟩
end Go.Proofs.YtjhcgnmibnjocaaGreat
