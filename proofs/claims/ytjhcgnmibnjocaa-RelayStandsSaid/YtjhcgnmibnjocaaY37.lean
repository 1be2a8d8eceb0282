import Derived.Test.YtjhcgnmibnjocaaY36
/-! A log off the document's reader. -/
namespace Go.Proofs.Ytjhcgnmibnjocaa
open Go.RowKit Go.Maps
set_option linter.unusedVariables false
set_option linter.unusedSimpArgs false
theorem infoEntD : (Try.prog.info? 97).map (fun i => (i.zero, i.size, i.bytes)) = some (some (.agg #[.int .i64 0, .slice none 0 0]), 2, 32) := by kernel_rfl
/-- Entries of the document, in a row that is owned. -/
structure OwnD (w : World) (T : Nat → Prop) (base : Nat) (v : Value) (l : List Ent) : Prop where
  ex : ∃ ms : List Em, ms.map Em.x = l ∧ w.ownsRow base 97 2 v l.length (emV ms) ∧ Ems w T ms
theorem OwnD.nil (w : World) (T : Nat → Prop) (base : Nat) : OwnD w T base (.slice none 0 0) [] := ⟨[], rfl, World.ownsRow_nil _ _ _ _, fun _ h => by cases h⟩
theorem OwnD.keep {w w' : World} {T : Nat → Prop} {base : Nat} {v : Value} {l : List Ent} (h : OwnD w T base v l) (hk : Kp T w w') (hv : ∀ k, v.ownBlock = some k → k < w.heap.size → w'.heap[k]? = w.heap[k]?) : OwnD w' T base v l := by
  obtain ⟨ms, e, ho, hm⟩ := h
  refine ⟨ms, e, ⟨ho.1, ?_⟩, hm.kp hk⟩
  rcases ho.2 with h' | ⟨g, cap, cur, hv', hb, hh, r⟩
  · exact .inl h'
  · exact .inr ⟨g, cap, cur, hv', hb, (hv g (by rw [hv']; rfl) (Blk.lt hh)).trans hh, r⟩
theorem OwnD.sub {w : World} {T T' : Nat → Prop} {base : Nat} {v : Value} {l : List Ent} (h : OwnD w T base v l) (hs : ∀ k, k < w.heap.size → T' k → T k) : OwnD w T' base v l := by
  obtain ⟨ms, e, ho, hm⟩ := h
  exact ⟨ms, e, ho, hm.sub hs⟩
theorem OwnD.below {w w' : World} {T : Nat → Prop} {base : Nat} {v : Value} {l : List Ent} (h : OwnD w T base v l) (hb : Below w.heap.size w w') : OwnD w' T base v l := h.keep (Kp.of_below hb) (fun k _ hl => hb.block k hl)
theorem ownD_ge {w : World} {T : Nat → Prop} {base : Nat} {v : Value} {l : List Ent} (h : OwnD w T base v l) : ∀ k, v.ownBlock = some k → base ≤ k ∧ k < w.heap.size := fun k hk => by
  obtain ⟨ms, _, ho, _⟩ := h
  obtain ⟨A, c, rfl, _⟩ := own_sl ho
  cases A with
  | none => cases hk
  | some ad => cases hk; exact own_addr ho _ rfl
theorem OwnD.only {w w' : World} {base g : Nat} {v : Value} {l : List Ent} (h : OwnD w (Old base v) base v l) (ho : Only w w' g) (hg : g < base) : OwnD w' (Old base v) base v l :=
  h.keep (Kp.of_only ho (.inl hg)) fun k hk hl => ho.block k hl (fun e => by have := (ownD_ge h k hk).1; omega)
theorem OwnD.ents {w : World} {T T' : Nat → Prop} {base n c : Nat} {A : Option Addr} {l : List Ent} (h : OwnD w T base (.slice A n c) l) (hn : l.length = n) (h1 : ∀ k, T' k → k < base) (h2 : ∀ k, T' k → T k) : Ents w T' A n l := by
  obtain ⟨ms, e, ho, hm⟩ := h
  rw [hn] at ho
  exact ⟨⟨ms, e, Reads.of_own ho, hm.sub fun k _ => h2 k⟩, hn, fun h0 a ha ht => by have := (own_addr ho a ha).1; have := h1 _ ht; omega⟩
theorem OwnD.sl {w : World} {T : Nat → Prop} {base : Nat} {v : Value} {l : List Ent} (h : OwnD w T base v l) : ∃ A c, v = .slice A l.length c := by
  obtain ⟨ms, _, ho, _⟩ := h
  obtain ⟨A, c, e, _⟩ := own_sl ho
  exact ⟨A, c, e⟩
theorem app_entD {W : World} {ops : Array Oper} {rest : List Oper} {o : Oper} {a : Act} {Q : Exit → Act → World → Prop} (hgd : o.guard = none) (s x : Operand)
    (ho : o.op = .call { callee := .builtin .append, args := #[s, x], argTypes := #[33, 33] }) (T : Nat → Prop) (base : Nat) (v : Value) (l : List Ent) (u : Em) (cs : Array Value) (hcs : cs = u.cells.toArray) (hs : a.eval s = v) (hown : OwnD W T base v l)
    (hu : Bsl W T u.v u.x.t ∧ u.x.ok) (hT : ∀ k, v.ownBlock = some k → T k) (B : Nat) (hB : B = W.heap.size) (hx : a.eval x = .slice (some ⟨B, 0, none⟩) 1 1) (hl : l.length ≤ 1000000) (hbase : base ≤ W.heap.size)
    (h : ∀ v' w', OwnD w' (fun k => T k ∨ v'.ownBlock = some k) base v' (l ++ [u.x]) → Chg W w' v v' → W.heap.size + 1 ≤ w'.heap.size → wpList Try.prog ops Q rest (a.put o.dst v') w') :
    wpList Try.prog ops Q (o :: rest) a (W.alloc (.cells cs 97)) := by
  subst hcs hB
  obtain ⟨i0, hi, hz0, hz1, hz2⟩ := info_parts infoEntD
  obtain ⟨ms, he, hown, hm⟩ := hown
  obtain ⟨Av, nv, cv, ev⟩ := hu.1.sl
  refine wpList_append_own_at (W.alloc (.cells u.cells.toArray 97)) hgd s x 33 ho base 97 i0 _ 2 32 Try.underlying33 hi hz0 hz1 hz2 rfl (by decide) v l.length (emV ms) hs (own_alloc hown _) ⟨W.heap.size, 0, none⟩ 1 1 u.cells hx rfl (cells_new _ _ _) ?_ (by unfold maxLen; omega) (by omega) (by simp; omega) fun v' w' h1 h2 h3 h4 => h v' w' ?_ ?_ (by have := h2.size; simpa using this)
  · intro y hy
    simp only [Em.cells, ev, List.mem_cons, List.not_mem_nil, or_false] at hy
    rcases hy with rfl | rfl <;> rfl
  · refine ⟨ms ++ [u], by rw [List.map_append, he]; rfl, ?_, ?_⟩
    · rw [List.length_append, emV_append]
      simpa [emV, rowsV] using h1
    · have hk : Kp (fun k => T k ∨ W.heap.size ≤ k) W w' := ⟨h2.os, h2.tape, h2.output, by have := h2.size; simp at this; omega, fun k hk hn => (h2.block k (by simp; omega) (fun e => hn (.inl (hT k e.symm)))).trans (Below.heap_alloc W _ k hk)⟩
      have hall : Ems W T (ms ++ [u]) := fun m hmm => by
        rcases List.mem_append.1 hmm with hmm | hmm
        · exact hm m hmm
        · simp only [List.mem_singleton] at hmm
          subst hmm
          exact hu
      refine ((hall.sub (T' := fun k => T k ∨ W.heap.size ≤ k) (fun k hk ht => ht.elim id (fun h => by omega))).kp hk).sub fun k _ ht => ?_
      rcases ht with ht | ht
      · exact .inl ht
      · rcases h4 with e | e
        · exact .inl (hT k (e ▸ ht))
        · rw [e] at ht
          cases ht
          exact .inr (by simp)
  · refine ⟨h2.os, h2.tape, h2.output, ?_, fun k hk hv => ?_, ?_⟩
    · have := h2.size
      simp at this
      omega
    · exact (h2.block k (by simp; omega) (Ne.symm hv)).trans (Below.heap_alloc W _ k hk)
    · rcases h4 with e | e
      · exact .inl e
      · exact .inr ⟨_, e, by simp⟩
theorem dcM (q : Nat) (A : Option Addr) (c : Nat) (l : List Nat) (r : Rest) (most : Int) (hm : 0 ≤ most ∧ most ≤ 4611686018427387904) (hby : ∀ x ∈ l, x < 256) (hlen : l.length ≤ 140737488355328) (w : World) (h : Mst w q A c l r) :
    Calls Try.prog 102 #[.pointer (some ⟨q, 0, none⟩), .int .i64 most] w fun e' w' => e' = .returned (.int .i64 ((countP most r).1 : Nat)) ∧ Mst w' q A c l (countP most r).2 ∧ Only w w' q := by
  obtain ⟨a, e, hm', rfl⟩ := h
  exact dcountM_any q A c l a e most w hm' hby hlen hm
theorem dtM (q : Nat) (A : Option Addr) (c : Nat) (l : List Nat) (r : Rest) (most : Int) (hm : 0 ≤ most ∧ most ≤ 4611686018427387904) (hby : ∀ x ∈ l, x < 256) (hlen : l.length ≤ 140737488355328) (hc : l.length ≤ c ∧ c ≤ maxLen ∧ (A = none → c = 0)) (w : World) (h : Mst w q A c l r) :
    Calls Try.prog 103 #[.pointer (some ⟨q, 0, none⟩), .int .i64 most] w fun e' w' => e' = .returned (.string (strOf (textP most r).1)) ∧ Mst w' q A c l (textP most r).2 ∧ Only w w' q := by
  obtain ⟨a, e, hm', rfl⟩ := h
  exact dtext_any q A c l a e most w hm' hby hlen hm hc
end Go.Proofs.Ytjhcgnmibnjocaa
