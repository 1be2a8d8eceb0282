import Derived.Test.YtjhcgnmibnjocaaY1
import Derived.Test.YtjhcgnmibnjocaaGC
import Derived.Maps.OwnSet
import Derived.Maps.OwnOps
/-! A relay in memory. -/
namespace Go.Proofs.Ytjhcgnmibnjocaa
open Go.RowKit Go.Maps
set_option linter.unusedVariables false
set_option linter.unusedSimpArgs false
/-- Bytes behind a slice, in blocks that are not written. -/
structure Bsl (w : World) (T : Nat → Prop) (v : Value) (t : List Nat) : Prop where
  ex : ∃ A c, v = .slice A t.length c ∧ Reads w w.heap.size 1 A t.length (u8s t) ∧ (A = none → c = 0) ∧ (0 < t.length → ∀ a, A = some a → ¬T a.block) ∧ t.length ≤ c ∧ c ≤ maxLen
  by_ : ∀ x ∈ t, x < 256
theorem Bsl.kp {w w' : World} {T : Nat → Prop} {v : Value} {t : List Nat} (h : Bsl w T v t) (hk : Kp T w w') : Bsl w' T v t := by
  obtain ⟨⟨A, c, e, hr, hn, hT, h1, h2⟩, hb⟩ := h
  exact ⟨⟨A, c, e, Reads.kp hr hk hT, hn, hT, h1, h2⟩, hb⟩
theorem Bsl.sub {w : World} {T T' : Nat → Prop} {v : Value} {t : List Nat} (h : Bsl w T v t) (hs : ∀ k, k < w.heap.size → T' k → T k) : Bsl w T' v t := by
  obtain ⟨⟨A, c, e, hr, hn, hT, h1, h2⟩, hb⟩ := h
  refine ⟨⟨A, c, e, hr, hn, fun h0 a ha ht => hT h0 a ha (hs _ ?_ ht), h1, h2⟩, hb⟩
  obtain ⟨a', e', hl, _⟩ := hr.2 h0
  rw [ha] at e'; cases e'; exact hl
theorem Bsl.nil (w : World) (T : Nat → Prop) : Bsl w T (.slice none 0 0) [] := ⟨⟨none, 0, rfl, Reads.none_, fun _ => rfl, fun h => absurd h (by simp), Nat.le_refl _, by unfold maxLen; omega⟩, fun _ h => by cases h⟩
theorem Bsl.row {w : World} {T : Nat → Prop} {base : Nat} {v : Value} {t : List Nat} (h : Row w base v t) (hT : ∀ k, T k → k < base) (hb : ∀ x ∈ t, x < 256) : Bsl w T v t := by
  obtain ⟨A, c, e, h1, h2, hn, hr⟩ := h.slice
  refine ⟨⟨A, c, e, hr, hn, fun h0 a ha ht => ?_, h1, h2⟩, hb⟩
  rcases h.2 with ⟨hv, h'⟩ | ⟨g, cap, cur, hv, hbg, _⟩
  · omega
  · rw [e] at hv
    cases hv
    cases ha
    have h3 : g < base := hT _ ht
    omega
/-- An entry in memory. -/
structure Em where
  x : Ent
  v : Value
def Em.cells (m : Em) : List Value := [.int .i64 m.x.e, m.v]
theorem Em.cells_len (m : Em) : m.cells.length = 2 := rfl
def emV (ms : List Em) : List Value := rowsV Em.cells ms
theorem emV_length (ms : List Em) : (emV ms).length = ms.length * 2 := rowsV_length (k := 2) Em.cells_len ms
theorem emV_append (ms ns : List Em) : emV (ms ++ ns) = emV ms ++ emV ns := by simp [emV, rowsV]
def Ems (w : World) (T : Nat → Prop) (ms : List Em) : Prop := ∀ m ∈ ms, Bsl w T m.v m.x.t ∧ m.x.ok
theorem Ems.kp {w w' : World} {T : Nat → Prop} {ms : List Em} (h : Ems w T ms) (hk : Kp T w w') : Ems w' T ms := fun m hm => ⟨(h m hm).1.kp hk, (h m hm).2⟩
theorem Ems.sub {w : World} {T T' : Nat → Prop} {ms : List Em} (h : Ems w T ms) (hs : ∀ k, k < w.heap.size → T' k → T k) : Ems w T' ms := fun m hm => ⟨(h m hm).1.sub hs, (h m hm).2⟩
/-- Entries that are read. -/
structure Ents (w : World) (T : Nat → Prop) (A : Option Addr) (n : Nat) (l : List Ent) : Prop where
  ex : ∃ ms : List Em, ms.map Em.x = l ∧ Reads w w.heap.size 2 A n (emV ms) ∧ Ems w T ms
  len : l.length = n
  nt : 0 < n → ∀ a, A = some a → ¬T a.block
theorem Ents.kp {w w' : World} {T : Nat → Prop} {A : Option Addr} {n : Nat} {l : List Ent} (h : Ents w T A n l) (hk : Kp T w w') : Ents w' T A n l := by
  obtain ⟨⟨ms, e, hr, hm⟩, hl, hn⟩ := h
  exact ⟨⟨ms, e, Reads.kp hr hk hn, hm.kp hk⟩, hl, hn⟩
theorem Ents.sub {w : World} {T T' : Nat → Prop} {A : Option Addr} {n : Nat} {l : List Ent} (h : Ents w T A n l) (hs : ∀ k, k < w.heap.size → T' k → T k) : Ents w T' A n l := by
  obtain ⟨⟨ms, e, hr, hm⟩, hl, hn⟩ := h
  refine ⟨⟨ms, e, hr, hm.sub hs⟩, hl, fun h0 a ha ht => hn h0 a ha (hs _ ?_ ht)⟩
  obtain ⟨a', e', hl', _⟩ := hr.2 h0
  rw [ha] at e'; cases e'; exact hl'
theorem Ents.nil (w : World) (T : Nat → Prop) : Ents w T none 0 [] := ⟨⟨[], rfl, Reads.none_, fun _ h => by cases h⟩, rfl, fun h => absurd h (by omega)⟩
/-- Entries whose row is owned. -/
structure OwnE (w : World) (T : Nat → Prop) (base : Nat) (v : Value) (l : List Ent) : Prop where
  ex : ∃ ms : List Em, ms.map Em.x = l ∧ w.ownsRow base 103 2 v l.length (emV ms) ∧ Ems w T ms
theorem OwnE.nil (w : World) (T : Nat → Prop) (base : Nat) : OwnE w T base (.slice none 0 0) [] := ⟨[], rfl, World.ownsRow_nil _ _ _ _, fun _ h => by cases h⟩
/-- A map of acks. -/
structure AckR (D : DataW Unit) (l : List (Int × Nat)) : Prop where
  has : ∀ n, Maps.has D (.int .i64 n) = (l.lookup n).isSome
  at_ : ∀ n, D.atKey (.int .i64 n) (.lit (.int .i64 0)) = .lit (.int .i64 ((l.lookup n).getD 0 : Nat))
  size : Maps.size D ≤ l.length
theorem lawK : Keyed Try.prog 3 := int_keyed Try.underlying3
theorem zeroI (w : World) : (zeroValue 3).run Try.prog w = .ok (.int .i64 0) w := by kernel_rfl
def Mp (w : World) (b : Nat) (l : List (Int × Nat)) : Prop := ∃ D : DataW Unit, w.ownsMap Try.prog 3 (plainElem Try.prog 3) b l.length D ∧ AckR D l
theorem Mp.kp {S : Nat → Prop} {w w' : World} {b : Nat} {l : List (Int × Nat)} (h : Mp w b l) (hk : Kp S w w') (hn : ¬S b) : Mp w' b l := by
  obtain ⟨D, ⟨es, clock, hb, F, hs, hD⟩, hr⟩ := h
  exact ⟨D, ⟨es, clock, (hk.block b (Array.getElem?_eq_some_iff.1 hb).1 hn).trans hb, F, hs, hD⟩, hr⟩
theorem Mp.lt {w : World} {b : Nat} {l : List (Int × Nat)} (h : Mp w b l) : b < w.heap.size := by
  obtain ⟨D, h, _⟩ := h
  exact h.lt
theorem Mp.made (w : World) : Mp (w.alloc (.map #[] 0)) w.heap.size [] :=
  ⟨.map [], World.ownsMap_made w _ _ _, fun n => rfl, fun n => rfl, Nat.le_refl _⟩
theorem lookup_acked (n m : Int) (k : Nat) (l : List (Int × Nat)) : (ackedL n k l).lookup m = if m = n then some k else l.lookup m := by
  unfold ackedL
  rw [List.lookup_cons]
  by_cases h : m = n
  · simp [h]
  · simp only [beq_eq_false_iff_ne.2 h, if_neg h]
    induction l with
    | nil => rfl
    | cons x l ih =>
      obtain ⟨a, b⟩ := x
      simp only [List.filter_cons]
      by_cases ha : a = n
      · simp only [ha, beq_self_eq_true, Bool.not_true]
        rw [List.lookup_cons]
        simpa [beq_eq_false_iff_ne.2 h] using ih
      · simp only [beq_eq_false_iff_ne.2 ha, Bool.not_false, if_true]
        rw [List.lookup_cons, List.lookup_cons, ih]
theorem key64 {n : Int} (h : I64 n) : keyOf Try.prog 3 (.int .i64 n) = some (.int .i64 n) := keyOf_int_mk Try.underlying3 (by unfold I64 at h; simp [Lit.wf, IntKind.min, IntKind.max, IntKind.signed, IntKind.bits]; omega)
theorem Mp.look {w : World} {b : Nat} {l : List (Int × Nat)} (h : Mp w b l) {n : Int} (hn : I64 n) :
    (Instr.lookup 93 (.map (some b)) (.int .i64 n) true).run Try.prog w = .ok (.tuple #[.int .i64 ((l.lookup n).getD 0 : Nat), .bool (l.lookup n).isSome]) w := by
  obtain ⟨D, ho, hr⟩ := h
  obtain ⟨v, ps, hrun, hv⟩ := ho.look_ok lawK Try.underlying93 (zeroI w) (plainElem_int Try.underlying3 (by decide)) (key64 hn)
  obtain ⟨c, rfl, hc, hw⟩ := plainElem_int_inv Try.underlying3 hv
  rw [hr.at_ n] at hc
  simp only [Prod.mk.injEq, DataW.lit.injEq, Lit.int.injEq, true_and] at hc
  rw [hrun, hr.has n, ← hc.1]
theorem Mp.tight {w : World} {b n n' : Nat} {D : DataW Unit} (h : w.ownsMap Try.prog 3 (plainElem Try.prog 3) b n D) (hs : Maps.size D ≤ n') : w.ownsMap Try.prog 3 (plainElem Try.prog 3) b n' D := by
  obtain ⟨es, clock, hb, F, _, rfl⟩ := h
  exact ⟨es, clock, hb, F, by simpa [Maps.size, length_sorted] using hs, rfl⟩
theorem lookup_none_filter : ∀ (n : Int) (l : List (Int × Nat)), (l.lookup n).isSome = false → (l.filter fun x => !(x.1 == n)) = l
  | n, [], _ => rfl
  | n, (a, b) :: l, h => by
    rw [List.lookup_cons] at h
    by_cases ha : n = a
    · simp [ha] at h
    · simp only [beq_eq_false_iff_ne.2 ha] at h
      rw [List.filter_cons, if_pos (by simp [beq_eq_false_iff_ne.2 (fun e => ha e.symm : a ≠ n)]), lookup_none_filter n l h]
theorem lookup_some_filter : ∀ (n : Int) (l : List (Int × Nat)), (l.map (·.1)).Nodup → (l.lookup n).isSome = true → (l.filter fun x => !(x.1 == n)).length + 1 = l.length
  | n, [], _, h => by simp at h
  | n, (a, b) :: l, hd, h => by
    rw [List.lookup_cons] at h
    rw [List.map_cons, List.nodup_cons] at hd
    by_cases ha : n = a
    · subst ha
      have : (l.filter fun x => !(x.1 == n)) = l := by
        rw [List.filter_eq_self]
        rintro ⟨c, d⟩ hc
        have : c ≠ n := fun e => hd.1 (e ▸ List.mem_map.2 ⟨_, hc, rfl⟩)
        simp [beq_eq_false_iff_ne.2 this]
      rw [List.filter_cons, if_neg (by simp), this]
      rfl
    · simp only [beq_eq_false_iff_ne.2 ha] at h
      rw [List.filter_cons, if_pos (by simp [beq_eq_false_iff_ne.2 (fun e => ha e.symm : a ≠ n)])]
      have := lookup_some_filter n l hd.2 h
      simp only [List.length_cons]
      omega
theorem acked_nodup {n : Int} {k : Nat} {l : List (Int × Nat)} (h : (l.map (·.1)).Nodup) : ((ackedL n k l).map (·.1)).Nodup := by
  unfold ackedL
  rw [List.map_cons, List.nodup_cons]
  refine ⟨fun hm => ?_, ?_⟩
  · obtain ⟨⟨a, b⟩, hx, he⟩ := List.mem_map.1 hm
    have := (List.mem_filter.1 hx).2
    simp only at he
    subst he
    simp at this
  · exact h.sublist (List.Sublist.map _ (List.filter_sublist))
theorem AckR.put {D : DataW Unit} {l : List (Int × Nat)} (h : AckR D l) (ht : Tidy D) (n : Int) (k : Nat) (hd : (l.map (·.1)).Nodup) : AckR (D.put (.int .i64 n) (.lit (.int .i64 (k : Int)))) (ackedL n k l) := by
  have hk : WideAt.IsKeyLit (.int .i64 n) := by simp [WideAt.IsKeyLit]
  refine ⟨fun m => ?_, fun m => ?_, ?_⟩
  · rw [lookup_acked]
    by_cases hm : m = n
    · subst hm
      rw [if_pos rfl, Maps.has_put_same ht.isMap hk]
      rfl
    · rw [if_neg hm, Maps.has_put_other (by intro e; injection e with _ e; exact hm e), h.has]
  · rw [lookup_acked]
    by_cases hm : m = n
    · subst hm
      rw [if_pos rfl, Maps.atKey_put_same ht.isMap hk]
      rfl
    · rw [if_neg hm, Maps.atKey_put_other (by intro e; injection e with _ e; exact hm e), h.at_]
  · rw [Maps.size_put ht, h.has]
    have hs := h.size
    unfold ackedL
    rw [List.length_cons]
    cases hl : (l.lookup n).isSome
    · rw [lookup_none_filter n l hl]
      simp only [Bool.false_eq_true, if_false]
      omega
    · have := lookup_some_filter n l hd hl
      simp only [if_true]
      omega
theorem wpList_put {w : World} {ops : Array Oper} {rest : List Oper} {o : Oper} {a : Act} {Q : Exit → Act → World → Prop} (hg : o.guard = none) (m x v : Operand) (hop : o.op = Op.mapUpdate 93 m x v)
    (b : Nat) (l : List (Int × Nat)) (hm : a.eval m = .map (some b)) (h : Mp w b l) (n : Int) (k : Nat) (hx : a.eval x = .int .i64 n) (hv : a.eval v = .int .i64 (k : Int)) (hn : I64 n) (hk : k ≤ 9223372036854775807) (hl : l.length ≤ 1000000) (hd : (l.map (·.1)).Nodup)
    (hK : ∀ w', Mp w' b (ackedL n k l) → Only w w' b → wpList Try.prog ops Q rest (a.put o.dst undef) w') : wpList Try.prog ops Q (o :: rest) a w := by
  obtain ⟨D, ho, hr⟩ := h
  refine wpList_mapUpdate_own w hg m x v 93 hop 3 3 lawK Try.underlying93 (plainElem Try.prog 3) b l.length D hm ho (by unfold maxLen; omega) _ _ _ hx hv (key64 hn) _ [] (plainElem_int Try.underlying3 (by simp [Lit.wf, IntKind.min, IntKind.max, IntKind.signed, IntKind.bits]; omega)) fun w' h1 h2 => hK w' ?_ ?_
  · have h3 := hr.put (ho.tidy lawK) n k hd
    exact ⟨_, Mp.tight h1 h3.size, h3⟩
  · exact ⟨h2.os, h2.tape, h2.output, h2.size, fun i hi hne => h2.block i hi (by intro e; cases e; exact hne rfl)⟩
/-- A relay; what its cells lead to. -/
structure RelX (w : World) (S T : Nat → Prop) (g : Nat) (r : Rl) (Am : Option Addr) (cm : Nat) (vl : Value) (mb : Nat) : Prop where
  blk : Blk w g 95 #[.int .i64 r.id, .int .i64 r.v.e, .int .i64 r.v.p, .slice Am r.v.l.length cm, vl, .int .i64 r.joined, .int .i64 (r.sure : Int), .map (some mb), .bool r.act]
  rd : Reads w w.heap.size 1 Am r.v.l.length (ints r.v.l)
  mt : 0 < r.v.l.length → ∀ a, Am = some a → ¬T a.block
  own : OwnE w T 0 vl r.log
  vs : ∀ k, vl.ownBlock = some k → S k
  mp : Mp w mb r.acks
  ms : S mb
  mg : mb ≠ g
  vg : vl.ownBlock ≠ some g
  vm : vl.ownBlock ≠ some mb
  g : S g
  sub : ∀ k, S k → T k
  lt : ∀ k, T k → k < w.heap.size
def RelW (w : World) (S T : Nat → Prop) (g : Nat) (r : Rl) : Prop := r.ok ∧ ∃ Am cm vl mb, RelX w S T g r Am cm vl mb
theorem Kp.weaken {S T : Nat → Prop} {w w' : World} (h : Kp S w w') (hs : ∀ k, S k → T k) : Kp T w w' := ⟨h.os, h.tape, h.output, h.size, fun k hk hn => h.block k hk fun e => hn (hs k e)⟩
theorem OwnE.keep {w w' : World} {T : Nat → Prop} {base : Nat} {v : Value} {l : List Ent} (h : OwnE w T base v l) (hk : Kp T w w') (hv : ∀ k, v.ownBlock = some k → k < w.heap.size → w'.heap[k]? = w.heap[k]?) : OwnE w' T base v l := by
  obtain ⟨ms, e, ho, hm⟩ := h
  refine ⟨ms, e, ⟨ho.1, ?_⟩, hm.kp hk⟩
  rcases ho.2 with h' | ⟨g, cap, cur, hv', hb, hh, r⟩
  · exact .inl h'
  · exact .inr ⟨g, cap, cur, hv', hb, (hv g (by rw [hv']; rfl) (Blk.lt hh)).trans hh, r⟩
theorem OwnE.sub {w : World} {T T' : Nat → Prop} {base : Nat} {v : Value} {l : List Ent} (h : OwnE w T base v l) (hs : ∀ k, k < w.heap.size → T' k → T k) : OwnE w T' base v l := by
  obtain ⟨ms, e, ho, hm⟩ := h
  exact ⟨ms, e, ho, hm.sub hs⟩
/-- Other blocks are changed: such as may be, but none of this relay. -/
theorem RelX.far {w w' : World} {S T R : Nat → Prop} {g : Nat} {r : Rl} {Am : Option Addr} {cm : Nat} {vl : Value} {mb : Nat} (h : RelX w S T g r Am cm vl mb) (hk : Kp R w w') (h1 : ∀ k, R k → T k) (h2 : ∀ k, S k → ¬R k) : RelX w' S T g r Am cm vl mb :=
  ⟨Blk.kp h.blk hk (h2 _ h.g), Reads.kp h.rd (hk.weaken h1) h.mt, h.mt, h.own.keep (hk.weaken h1) (fun k hv hl => hk.block k hl (h2 k (h.vs k hv))), h.vs, h.mp.kp hk (h2 _ h.ms), h.ms, h.mg, h.vg, h.vm, h.g, h.sub, fun k ht => Nat.lt_of_lt_of_le (h.lt k ht) hk.size⟩
theorem RelX.below {w w' : World} {S T : Nat → Prop} {g : Nat} {r : Rl} {Am : Option Addr} {cm : Nat} {vl : Value} {mb : Nat} (h : RelX w S T g r Am cm vl mb) (hb : Below w.heap.size w w') : RelX w' S T g r Am cm vl mb :=
  h.far (R := fun _ => False) (Kp.of_below hb) (fun _ h => h.elim) (fun _ _ h => h)
/-- The relay's own cells are changed. -/
theorem RelX.cells {w w' : World} {S T : Nat → Prop} {g : Nat} {r r' : Rl} {Am : Option Addr} {cm : Nat} {vl : Value} {mb : Nat} (h : RelX w S T g r Am cm vl mb) (ho : Only w w' g) (hb : Blk w' g 95 #[.int .i64 r'.id, .int .i64 r'.v.e, .int .i64 r'.v.p, .slice Am r'.v.l.length cm, vl, .int .i64 r'.joined, .int .i64 (r'.sure : Int), .map (some mb), .bool r'.act])
    (e1 : r'.v.l = r.v.l) (e2 : r'.log = r.log) (e3 : r'.acks = r.acks) : RelX w' S T g r' Am cm vl mb := by
  have hk : Kp T w w' := Kp.of_only ho (h.sub _ h.g)
  refine ⟨hb, by rw [e1]; exact Reads.kp h.rd hk h.mt, by rw [e1]; exact h.mt, ?_, h.vs, ?_, h.ms, h.mg, h.vg, h.vm, h.g, h.sub, fun k ht => Nat.lt_of_lt_of_le (h.lt k ht) hk.size⟩
  · rw [e2]
    exact h.own.keep hk fun k hv hl => ho.block k hl fun e => h.vg (e ▸ hv)
  · rw [e3]
    exact h.mp.kp (Kp.of_only (S := fun k => k = g) ho rfl) h.mg
end Go.Proofs.Ytjhcgnmibnjocaa
