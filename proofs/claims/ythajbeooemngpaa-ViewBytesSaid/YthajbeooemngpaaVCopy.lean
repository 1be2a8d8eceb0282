import Derived.Deep.AppendSrc
import Derived.Test.YthajbeooemngpaaVRef3
/-! A copy of ints by append; what lies behind writes into one slice. -/
namespace Go.Proofs.Ythajbeooemngpaa
open Go.RowKit
set_option linter.unusedVariables false
set_option linter.unusedSimpArgs false
theorem run_copy (w : World) (A : Option Addr) (n c : Nat) (l : List Int) (hr : Reads w w.heap.size 1 A n (ints l)) (hn : n * 8 ≤ 140737488355328) :
    ∃ v w', (Builtin.append_ #[54, 54] 54 #[.slice (some ⟨w.heap.size, 0, none⟩) 0 0, .slice A n c]).run Try.prog (w.alloc (.cells #[] 3)) = .ok v w' ∧ w'.ownsRow w.heap.size 3 1 v n (ints l) ∧ Below w.heap.size w w' := by
  obtain ⟨i0, hi, hz0, hz1, hz2⟩ := info_parts infoI64
  have hl := reads_len hr
  have hb := Below.alloc (Below.refl w.heap.size w) (Nat.le_refl _) (.cells #[] 3)
  cases A with
  | none =>
    have h0 : n = 0 := by
      rcases Nat.eq_zero_or_pos n with h | h
      · exact h
      · obtain ⟨_, e, _⟩ := hr.2 h; cases e
    subst h0
    have hl0 : l = [] := List.eq_nil_of_length_eq_zero hl
    subst hl0
    have h := run_append_room_src (P := Try.prog) (w.alloc (.cells #[] 3)) 54 54 54 3 i0 Try.underlying54 hi w.heap.size 0 0 0 (.slice none 0 c) 0 [] (Src.ofNil (w.alloc (.cells #[] 3)) Try.underlying54 c) (Nat.le_refl _) (fun j hj => by cases hj) (fun j hj => by cases hj)
    exact ⟨_, _, h, World.ownsRow_made w #[] 0 (Nat.le_refl _) (Nat.zero_le _) rfl, hb⟩
  | some ad =>
    obtain ⟨v, w', h1, h2, h3, _⟩ := run_append_own (P := Try.prog) (w.alloc (.cells #[] 3)) w.heap.size 54 54 3 i0 (.int .i64 0) 1 8 Try.underlying54 hi hz0 hz1 hz2 rfl (by decide) (.slice (some ⟨w.heap.size, 0, none⟩) 0 0) 0 [] (World.ownsRow_made w #[] 0 (Nat.le_refl _) (Nat.zero_le _) rfl) ad n c (ints l) (by simp [ints_length, hl])
      (fun j u hu => by
        have hn0 : 0 < n := by
          have := (List.getElem?_eq_some_iff.1 hu).1
          rw [ints_length] at this
          omega
        obtain ⟨ad', e, hb', h⟩ := hr.2 hn0
        cases e
        rw [World.cell?_alloc_lt w _ _ (by rw [block_of_add]; exact hb')]
        exact h j u hu)
      (fun u hu => by simp only [ints, List.mem_map] at hu; obtain ⟨x, _, rfl⟩ := hu; rfl) (by unfold maxLen; omega) (by omega) (by simp)
    exact ⟨v, w', h1, by simpa using h2, hb.grown h3 (by simp) (by intro k hk; simp [Value.ownBlock] at hk; omega)⟩
theorem wpList_append_run {P : Program} {ops : Array Oper} {rest : List Oper} {o : Oper} {a : Act} {w w' : World} {v sv xv : Value} {Q : Exit → Act → World → Prop} (hgd : o.guard = none) (s x : Operand) (t : TypeId)
    (ho : o.op = .call { callee := .builtin .append, args := #[s, x], argTypes := #[t, t] }) (hs : a.eval s = sv) (hx : a.eval x = xv) (hr : (Builtin.append_ #[t, t] o.type #[sv, xv]).run P w = .ok v w')
    (h : wpList P ops Q rest (a.put o.dst v) w') : wpList P ops Q (o :: rest) a w :=
  wpList_plain hgd fun _ hK => by
    unfold Oper.wp execOp
    simp only [ho, resolve, invoke, builtin, Sem.run_bind, Sem.run_pure, Result.andThen_ok, List.map_toArray, List.map_cons, List.map_nil, hs, hx, hr]
    exact hK _ _ h
/-- Nothing but the block behind a slice is changed. -/
structure Scr (A : Option Addr) (w w' : World) : Prop where
  os : w'.os = w.os
  tape : w'.tape = w.tape
  output : w'.output = w.output
  size : w.heap.size ≤ w'.heap.size
  block : ∀ k, k < w.heap.size → (∀ a, A = some a → k ≠ a.block) → w'.heap[k]? = w.heap[k]?
theorem Scr.refl (A : Option Addr) (w : World) : Scr A w w := ⟨rfl, rfl, rfl, Nat.le_refl _, fun _ _ _ => rfl⟩
theorem Scr.set_ {A : Option Addr} {w W : World} (h : Scr A w W) {p : Addr} (hp : ∃ a, A = some a ∧ p.block = a.block) (u : Value) : Scr A w (W.setCell p u) := by
  obtain ⟨a, ha, hpa⟩ := hp
  exact ⟨h.os, h.tape, h.output, by simpa using h.size, fun k hk hg => (Below.heap_setCell W p u k (by rw [hpa]; exact hg a ha)).trans (h.block k hk hg)⟩
section
variable {A : Option Addr} {w w' : World}
theorem Blk.scr {b : Nat} {t : TypeId} {cs : Array Value} (h : Blk w b t cs) (hs : Scr A w w') (hne : ∀ a, A = some a → b ≠ a.block) : Blk w' b t cs := (hs.block b h.lt hne).trans h
theorem Ctl.scr {g bm bs : Nat} {k : Vw} (h : Ctl w g bm bs k) (hs : Scr A w w') (hg : ∀ a, A = some a → g ≠ a.block) (hm : ∀ a, A = some a → bm ≠ a.block) (hb : ∀ a, A = some a → bs ≠ a.block) : Ctl w' g bm bs k :=
  h.keep (hs.block _ h.lt.1 hg) (hs.block _ h.lt.2.1 hm) (hs.block _ h.lt.2.2 hb)
theorem Reads.scr {B : Option Addr} {size n : Nat} {xs : List Value} (h : Reads w w.heap.size size B n xs) (hs : Scr A w w') (hne : ∀ a, A = some a → ∀ b, B = some b → b.block ≠ a.block) : Reads w' w'.heap.size size B n xs :=
  ⟨h.1, fun hn => by
    obtain ⟨ad, e, hb, hc⟩ := h.2 hn
    refine ⟨ad, e, Nat.lt_of_lt_of_le hb hs.size, fun j u hu => ?_⟩
    have : w'.cell? (ad.add j) = w.cell? (ad.add j) := by
      unfold World.cell?
      rw [hs.block (ad.add j).block (by rw [block_of_add]; exact hb) (fun a ha => by rw [block_of_add]; exact hne a ha _ e)]
    exact this.trans (hc j u hu)⟩
theorem Scr.below {B : Nat} (hs : Scr A w w') (hB : B ≤ w.heap.size) (h : ∀ a, A = some a → B ≤ a.block) : Below B w w' :=
  ⟨hs.os, hs.tape, hs.output, hs.size, fun k hk => hs.block k (by omega) (fun a ha => by have := h a ha; omega)⟩
end
/-- The row behind a slice may be written. -/
def Wr (w : World) (A : Option Addr) (m : Nat) : Prop := 0 < m → ∃ b cs, A = some ⟨b, 0, none⟩ ∧ Blk w b 3 cs ∧ m ≤ cs.size
theorem Wr.of_own {w : World} {base n c : Nat} {A : Option Addr} {xs : List Value} (h : w.ownsRow base 3 1 (.slice A n c) n xs) : Wr w A n := fun hn => by
  rcases h.2 with ⟨_, h'⟩ | ⟨g, cap, cur, hv, hb, hh, hnc, hm, hsz, htk⟩
  · omega
  · cases hv
    exact ⟨g, cur, rfl, hh, by omega⟩
theorem Wr.keep {w w' : World} {A : Option Addr} {m : Nat} (h : Wr w A m) (hk : ∀ a, A = some a → a.block < w.heap.size → w'.heap[a.block]? = w.heap[a.block]?) : Wr w' A m := fun hm => by
  obtain ⟨b, cs, e, hB, hc⟩ := h hm
  exact ⟨b, cs, e, (hk _ e hB.lt).trans hB, hc⟩
theorem Wr.below {w w' : World} {A : Option Addr} {m : Nat} (h : Wr w A m) (hb : Below w.heap.size w w') : Wr w' A m := h.keep fun a _ hl => hb.block _ hl
theorem Wr.nil (w : World) (A : Option Addr) : Wr w A 0 := fun h => absurd h (by omega)
end Go.Proofs.Ythajbeooemngpaa
