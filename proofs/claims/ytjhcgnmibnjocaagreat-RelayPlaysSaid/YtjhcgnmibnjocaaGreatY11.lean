import Derived.Test.YtjhcgnmibnjocaaGreatGD
/-! Messages that a relay hands out. -/
namespace Go.Proofs.YtjhcgnmibnjocaaGreat
open Go.RowKit Go.Maps
set_option linter.unusedVariables false
set_option linter.unusedSimpArgs false
structure Om where
 o : Ot
 vm : Value
 vl : Value
def Om.cells (m : Om) : List Value := [.int .i64 m.o.to, .int .i64 m.o.m.k, .int .i64 m.o.m.e, .int .i64 m.o.m.v.e, .int .i64 m.o.m.v.p, m.vm, .int .i64 m.o.m.i, .int .i64 m.o.m.s, m.vl]
theorem Om.cells_len (m : Om) : m.cells.length = 9 := rfl
def omV (ms : List Om) : List Value := rowsV Om.cells ms
theorem omV_append (ms ns : List Om) : omV (ms ++ ns) = omV ms ++ omV ns := by simp [omV, rowsV]
structure MgW (w : World) (T : Nat → Prop) (vm vl : Value) (m : Mg) : Prop where
 mem : ∃ A c, vm = .slice A m.v.l.length c ∧ Reads w w.heap.size 1 A m.v.l.length (ints m.v.l) ∧ (0 < m.v.l.length → ∀ a, A = some a → ¬T a.block)
 log : ∃ A c, vl = .slice A m.log.length c ∧ Ents w T A m.log.length m.log
theorem MgW.kp {w w' : World} {T : Nat → Prop} {vm vl : Value} {m : Mg} (h : MgW w T vm vl m) (hk : Kp T w w') : MgW w' T vm vl m := by
 obtain ⟨⟨A, c, e, hr, hn⟩, B, d, e', hE⟩ := h
 exact ⟨⟨A, c, e, Reads.kp hr hk hn, hn⟩, B, d, e', hE.kp hk⟩
theorem MgW.sub {w : World} {T T' : Nat → Prop} {vm vl : Value} {m : Mg} (h : MgW w T vm vl m) (hs : ∀ k, k < w.heap.size → T' k → T k) : MgW w T' vm vl m := by
 obtain ⟨⟨A, c, e, hr, hn⟩, B, d, e', hE⟩ := h
 refine ⟨⟨A, c, e, hr, fun h0 a ha ht => hn h0 a ha (hs _ ?_ ht)⟩, B, d, e', hE.sub hs⟩
 obtain ⟨a', e', hl', _⟩ := hr.2 h0
 rw [ha] at e'; cases e'; exact hl'
def Oms (w : World) (T : Nat → Prop) (ms : List Om) : Prop := ∀ m ∈ ms, MgW w T m.vm m.vl m.o.m
theorem Oms.kp {w w' : World} {T : Nat → Prop} {ms : List Om} (h : Oms w T ms) (hk : Kp T w w') : Oms w' T ms := fun m hm => (h m hm).kp hk
theorem Oms.sub {w : World} {T T' : Nat → Prop} {ms : List Om} (h : Oms w T ms) (hs : ∀ k, k < w.heap.size → T' k → T k) : Oms w T' ms := fun m hm => (h m hm).sub hs
structure Outs (w : World) (T : Nat → Prop) (A : Option Addr) (n : Nat) (l : List Ot) : Prop where
 ex : ∃ ms : List Om, ms.map Om.o = l ∧ Reads w w.heap.size 9 A n (omV ms) ∧ Oms w T ms
 len : l.length = n
 nt : 0 < n → ∀ a, A = some a → ¬T a.block
theorem Outs.nil (w : World) (T : Nat → Prop) : Outs w T none 0 [] := ⟨⟨[], rfl, Reads.none_, fun _ h => by cases h⟩, rfl, fun h => absurd h (by omega)⟩
theorem Outs.kp {w w' : World} {T : Nat → Prop} {A : Option Addr} {n : Nat} {l : List Ot} (h : Outs w T A n l) (hk : Kp T w w') : Outs w' T A n l := by
 obtain ⟨⟨ms, e, hr, hm⟩, hl, hn⟩ := h
 exact ⟨⟨ms, e, Reads.kp hr hk hn, hm.kp hk⟩, hl, hn⟩
theorem Outs.sub {w : World} {T T' : Nat → Prop} {A : Option Addr} {n : Nat} {l : List Ot} (h : Outs w T A n l) (hs : ∀ k, k < w.heap.size → T' k → T k) : Outs w T' A n l := by
 obtain ⟨⟨ms, e, hr, hm⟩, hl, hn⟩ := h
 refine ⟨⟨ms, e, hr, hm.sub hs⟩, hl, fun h0 a ha ht => hn h0 a ha (hs _ ?_ ht)⟩
 obtain ⟨a', e', hl', _⟩ := hr.2 h0
 rw [ha] at e'; cases e'; exact hl'
structure OwnO (w : World) (T : Nat → Prop) (base : Nat) (v : Value) (l : List Ot) : Prop where
 ex : ∃ ms : List Om, ms.map Om.o = l ∧ w.ownsRow base 90 9 v l.length (omV ms) ∧ Oms w (fun k => T k ∨ v.ownBlock = some k) ms
theorem OwnO.nil (w : World) (T : Nat → Prop) (base : Nat) : OwnO w T base (.slice none 0 0) [] := ⟨[], rfl, World.ownsRow_nil _ _ _ _, fun _ h => by cases h⟩
theorem OwnO.outs {w : World} {T : Nat → Prop} {base : Nat} {v : Value} {l : List Ot} (h : OwnO w T base v l) (hT : ∀ k, base ≤ k → ¬T k) : ∃ A c, v = .slice A l.length c ∧ Outs w T A l.length l := by
 obtain ⟨ms, e, ho, hm⟩ := h
 obtain ⟨A, c, rfl, _⟩ := own_sl ho
 exact ⟨A, c, rfl, ⟨ms, e, Reads.of_own ho, hm.sub (fun k _ ht => .inl ht)⟩, rfl, fun h0 a ha => hT _ (own_addr ho a ha).1⟩
theorem infoOut : (Tryz.prog.info? 90).map (fun i => (i.zero, i.size, i.bytes)) = some (some (.agg #[.int .i64 0, .int .i64 0, .int .i64 0, .int .i64 0, .int .i64 0, .slice none 0 0, .int .i64 0, .int .i64 0, .slice none 0 0]), 9, 104) := by kernel_rfl
theorem app_out {W : World} {ops : Array Oper} {rest : List Oper} {o : Oper} {a : Act} {Q : Exit → Act → World → Prop} (hgd : o.guard = none) (s x : Operand)
  (ho : o.op = .call { callee := .builtin .append, args := #[s, x], argTypes := #[48, 48] }) (T : Nat → Prop) (base : Nat) (v : Value) (l : List Ot) (u : Om) (cs : Array Value) (hcs : cs = u.cells.toArray) (hs : a.eval s = v) (hown : OwnO W T base v l)
  (hu : MgW W (fun k => T k ∨ v.ownBlock = some k) u.vm u.vl u.o.m) (B : Nat) (hB : B = W.heap.size) (hx : a.eval x = .slice (some ⟨B, 0, none⟩) 1 1) (hl : l.length ≤ 1000000) (hbase : base ≤ W.heap.size)
  (h : ∀ v' w', OwnO w' T base v' (l ++ [u.o]) → Chg W w' v v' → W.heap.size + 1 ≤ w'.heap.size → wpList Tryz.prog ops Q rest (a.put o.dst v') w') :
  wpList Tryz.prog ops Q (o :: rest) a (W.alloc (.cells cs 90)) := by
 subst hcs hB
 obtain ⟨i0, hi, hz0, hz1, hz2⟩ := info_parts infoOut
 obtain ⟨ms, he, hown, hm⟩ := hown
 obtain ⟨⟨Av, cv, ev, _⟩, Bv, dv, ev', _⟩ := id hu
 refine wpList_append_own_at (W.alloc (.cells u.cells.toArray 90)) hgd s x 48 ho base 90 i0 _ 9 104 Tryz.underlying48 hi hz0 hz1 hz2 rfl (by decide) v l.length (omV ms) hs (own_alloc hown _) ⟨W.heap.size, 0, none⟩ 1 1 u.cells hx rfl (cells_new _ _ _) ?_ (by unfold maxLen; omega) (by omega) (by simp; omega) fun v' w' h1 h2 h3 h4 => h v' w' ?_ ?_ (by have := h2.size; simpa using this)
 ·intro y hy
  simp only [Om.cells, ev, ev', List.mem_cons, List.not_mem_nil, or_false] at hy
  rcases hy with rfl | rfl | rfl | rfl | rfl | rfl | rfl | rfl | rfl <;> rfl
 ·refine ⟨ms ++ [u], by rw [List.map_append, he]; rfl, ?_, ?_⟩
  ·rw [List.length_append, omV_append]
   simpa [omV, rowsV] using h1
  ·have hk : Kp (fun k => (T k ∨ v.ownBlock = some k) ∨ W.heap.size ≤ k) W w' := ⟨h2.os, h2.tape, h2.output, by have := h2.size; simp at this; omega, fun k hk hn => (h2.block k (by simp; omega) (fun e => hn (.inl (.inr e.symm)))).trans (Below.heap_alloc W _ k hk)⟩
   have hall : Oms W (fun k => T k ∨ v.ownBlock = some k) (ms ++ [u]) := fun m hmm => by
    rcases List.mem_append.1 hmm with hmm | hmm
    ·exact hm m hmm
    ·simp only [List.mem_singleton] at hmm
     subst hmm
     exact hu
   refine ((hall.sub (T' := fun k => (T k ∨ v.ownBlock = some k) ∨ W.heap.size ≤ k) (fun k hk ht => ht.elim id (fun h => by omega))).kp hk).sub fun k _ ht => ?_
   rcases ht with ht | ht
   ·exact .inl (.inl ht)
   ·rcases h4 with e | e
    ·exact .inl (.inr (e ▸ ht))
    ·rw [e] at ht
     cases ht
     exact .inr (by simp)
 ·refine ⟨h2.os, h2.tape, h2.output, ?_, fun k hk hv => ?_, ?_⟩
  ·have := h2.size
   simp at this
   omega
  ·exact (h2.block k (by simp; omega) (Ne.symm hv)).trans (Below.heap_alloc W _ k hk)
  ·rcases h4 with e | e
   ·exact .inl e
   ·exact .inr ⟨_, e, by simp⟩
theorem app_ent {W : World} {ops : Array Oper} {rest : List Oper} {o : Oper} {a : Act} {Q : Exit → Act → World → Prop} (hgd : o.guard = none) (s x : Operand)
  (ho : o.op = .call { callee := .builtin .append, args := #[s, x], argTypes := #[58, 58] }) (T : Nat → Prop) (base : Nat) (v : Value) (l : List Ent) (u : Em) (cs : Array Value) (hcs : cs = u.cells.toArray) (hs : a.eval s = v) (hown : OwnE W T base v l)
  (hu : Bsl W T u.v u.x.t ∧ u.x.ok) (hT : ∀ k, v.ownBlock = some k → T k) (B : Nat) (hB : B = W.heap.size) (hx : a.eval x = .slice (some ⟨B, 0, none⟩) 1 1) (hl : l.length ≤ 1000000) (hbase : base ≤ W.heap.size)
  (h : ∀ v' w', OwnE w' (fun k => T k ∨ v'.ownBlock = some k) base v' (l ++ [u.x]) → Chg W w' v v' → W.heap.size + 1 ≤ w'.heap.size → wpList Tryz.prog ops Q rest (a.put o.dst v') w') :
  wpList Tryz.prog ops Q (o :: rest) a (W.alloc (.cells cs 65)) := by
 subst hcs hB
 obtain ⟨i0, hi, hz0, hz1, hz2⟩ := info_parts infoEnt
 obtain ⟨ms, he, hown, hm⟩ := hown
 obtain ⟨Av, nv, cv, ev⟩ := hu.1.sl
 refine wpList_append_own_at (W.alloc (.cells u.cells.toArray 65)) hgd s x 58 ho base 65 i0 _ 2 32 Tryz.underlying58 hi hz0 hz1 hz2 rfl (by decide) v l.length (emV ms) hs (own_alloc hown _) ⟨W.heap.size, 0, none⟩ 1 1 u.cells hx rfl (cells_new _ _ _) ?_ (by unfold maxLen; omega) (by omega) (by simp; omega) fun v' w' h1 h2 h3 h4 => h v' w' ?_ ?_ (by have := h2.size; simpa using this)
 ·intro y hy
  simp only [Em.cells, ev, List.mem_cons, List.not_mem_nil, or_false] at hy
  rcases hy with rfl | rfl <;> rfl
 ·refine ⟨ms ++ [u], by rw [List.map_append, he]; rfl, ?_, ?_⟩
  ·rw [List.length_append, emV_append]
   simpa [emV, rowsV] using h1
  ·have hk : Kp (fun k => T k ∨ W.heap.size ≤ k) W w' := ⟨h2.os, h2.tape, h2.output, by have := h2.size; simp at this; omega, fun k hk hn => (h2.block k (by simp; omega) (fun e => hn (.inl (hT k e.symm)))).trans (Below.heap_alloc W _ k hk)⟩
   have hall : Ems W T (ms ++ [u]) := fun m hmm => by
    rcases List.mem_append.1 hmm with hmm | hmm
    ·exact hm m hmm
    ·simp only [List.mem_singleton] at hmm
     subst hmm
     exact hu
   refine ((hall.sub (T' := fun k => T k ∨ W.heap.size ≤ k) (fun k hk ht => ht.elim id (fun h => by omega))).kp hk).sub fun k _ ht => ?_
   rcases ht with ht | ht
   ·exact .inl ht
   ·rcases h4 with e | e
    ·exact .inl (hT k (e ▸ ht))
    ·rw [e] at ht
     cases ht
     exact .inr (by simp)
 ·refine ⟨h2.os, h2.tape, h2.output, ?_, fun k hk hv => ?_, ?_⟩
  ·have := h2.size
   simp at this
   omega
  ·exact (h2.block k (by simp; omega) (Ne.symm hv)).trans (Below.heap_alloc W _ k hk)
  ·rcases h4 with e | e
   ·exact .inl e
   ·exact .inr ⟨_, e, by simp⟩
theorem OwnO.below {w w' : World} {T : Nat → Prop} {base : Nat} {v : Value} {l : List Ot} (h : OwnO w T base v l) (hb : Below w.heap.size w w') : OwnO w' T base v l := by
 obtain ⟨ms, e, ho, hm⟩ := h
 exact ⟨ms, e, own_keep ho fun k _ hk => hb.block k hk, hm.kp (Kp.of_below hb)⟩
theorem OwnE.ents {w : World} {T T' : Nat → Prop} {base n c : Nat} {A : Option Addr} {l : List Ent} (h : OwnE w T base (.slice A n c) l) (hn : l.length = n) (h1 : ∀ k, T' k → k < base) (h2 : ∀ k, T' k → T k) : Ents w T' A n l := by
 obtain ⟨ms, e, ho, hm⟩ := h
 rw [hn] at ho
 exact ⟨⟨ms, e, Reads.of_own ho, hm.sub fun k _ => h2 k⟩, hn, fun h0 a ha ht => by have := (own_addr ho a ha).1; have := h1 _ ht; omega⟩
theorem settle_v (r : Rl) : (settleP r).v = r.v ∧ (settleP r).id = r.id ∧ (settleP r).log = r.log ∧ (settleP r).acks = r.acks ∧ (settleP r).joined = r.joined := by
 unfold settleP
 split
 ·split <;> exact ⟨rfl, rfl, rfl, rfl, rfl⟩
 ·exact ⟨rfl, rfl, rfl, rfl, rfl⟩
theorem proposed_v (r : Rl) (t : List Nat) : (proposed r t).v = r.v ∧ (proposed r t).id = r.id ∧ (proposed r t).log = r.log ++ [⟨r.v.e, t⟩] := by
 unfold proposed
 have h := settle_v { r with log := r.log ++ [⟨r.v.e, t⟩], acks := ackedL r.id (r.log.length + 1) r.acks }
 exact ⟨h.1, h.2.1, h.2.2.1⟩
theorem leads_of {r r' : Rl} (h1 : r'.v = r.v) (h2 : r'.id = r.id) : r'.leads = r.leads := by unfold Rl.leads; rw [h1, h2]
theorem others_of {r r' : Rl} (h1 : r'.v = r.v) (h2 : r'.id = r.id) : othersP r' = othersP r := by unfold othersP; rw [h1, h2]
theorem entsB_by {l : List Ent} (h : ∀ x ∈ l, x.ok) : ∀ y ∈ entsB l, y < 256 := fun y hy => by
 unfold entsB at hy
 obtain ⟨x, hx, hy⟩ := List.mem_flatMap.1 hy
 have hxo := h x hx
 simp only [entB, List.mem_append] at hy
 rcases hy with hy | hy | hy
 ·exact numB_lt _ (zig_lt _ hxo.e) y hy
 ·exact numB_lt _ (by have := hxo.n; omega) y hy
 ·exact hxo.by_ y hy
theorem logB_by {l : List Ent} (h : ∀ x ∈ l, x.ok) (hl : l.length ≤ 4096) : ∀ y ∈ logB l, y < 256 := fun y hy => by
 simp only [logB, List.mem_append] at hy
 rcases hy with hy | hy
 ·exact numB_lt _ (by omega) y hy
 ·exact entsB_by h y hy
theorem recEntry_by {n : Nat} {x : Ent} (hn : n ≤ 4096) (hx : x.ok) : ∀ y ∈ recEntryP n x, y < 256 := fun y hy => by
 simp only [recEntryP, List.mem_append] at hy
 rcases hy with hy | hy | hy
 ·exact numB_lt _ (by omega) y hy
 ·exact numB_lt _ (zig_lt _ (by omega)) y hy
 ·exact logB_by (fun z hz => by simp only [List.mem_singleton] at hz; rw [hz]; exact hx) (by simp) y hy
theorem recLog_by {e : Int} {l : List Ent} (he : I64 e) (h : ∀ x ∈ l, x.ok) (hl : l.length ≤ 4096) : ∀ y ∈ recLogP e l, y < 256 := fun y hy => by
 simp only [recLogP, List.mem_append] at hy
 rcases hy with hy | hy | hy
 ·exact numB_lt _ (by omega) y hy
 ·exact numB_lt _ (zig_lt _ he) y hy
 ·exact logB_by h hl y hy
end Go.Proofs.YtjhcgnmibnjocaaGreat
